/- Contracts of functions that the statement reaches; each theorem carries its own conditions, the last theorem of the claim has none. -/
import Derived.Test.YtnbnojkfhfkecaaDoorC9
/- Dec: the decimal numeral. -/
set_option linter.unusedVariables false
set_option linter.unusedSimpArgs false
set_option maxRecDepth 100000
namespace Go.Proofs.YtnbnojkfhfkecaaDoor.A
open Go Go.Abs

/-- The first i letters, high ones first. -/
def Tx (u i : Nat) : List UInt8 := (List.range i).map fun j => UInt8.ofNat (48 + dg u (nd u - 1 - j))
@[simp] theorem Tx_length (u i : Nat) : (Tx u i).length = i := by simp [Tx]
theorem Tx_succ (u i : Nat) : Tx u (i + 1) = Tx u i ++ [UInt8.ofNat (48 + dg u (nd u - 1 - i))] := by simp [Tx, List.range_succ]
theorem dg_shift (u j : Nat) : dg u (j + 1) = dg (u / 10) j := by
  unfold dg
  rw [Nat.pow_succ, Nat.mul_comm, ← Nat.div_div_eq_div_mul]
theorem Tx_dec (u : Nat) (h : u ≠ 0) : Tx u (nd u) = Lib.decDigits u := by
  induction u using Nat.strongRecOn with
  | ind u ih =>
    rw [Lib.decDigits]
    have e0 : dg u 0 = u % 10 := by simp [dg]
    by_cases h10 : u < 10
    · rw [dif_pos h10]
      have h1 : nd u = 1 := by rw [nd_pos h, Nat.div_eq_of_lt h10, nd_zero]
      rw [h1, Tx_succ, h1, e0, Nat.mod_eq_of_lt h10]
      rfl
    · rw [dif_neg h10, ← ih (u / 10) (by omega) (by omega)]
      have h1 := nd_pos h
      rw [h1, Tx_succ]
      have e1 : nd u - 1 - nd (u / 10) = 0 := by omega
      rw [e1, e0]
      congr 1
      unfold Tx
      refine List.map_congr_left fun j hj => ?_
      have hj : j < nd (u / 10) := List.mem_range.1 hj
      have e2 : nd u - 1 - j = (nd (u / 10) - 1 - j) + 1 := by omega
      rw [e2, dg_shift]
def sg (g : Bool) : List UInt8 := if g then [45] else []

theorem c28 {H : AHeap} {B : Option Addr} {lo u : Nat} (g : Bool) (hR : Rd 1 eW lo H B (Lm u (nl u))) (hlo : lo ≤ H.next) (hu : u < 18446744073709551616) (hg : g = true → 0 < nd u) :
    ACalls Tryd.prog 28 [eOf g B (nl u)] H fun v H' => v = bstr (if nd u = 0 then [48] else sg g ++ Tx u (nd u)) ∧ H' = H := by
  have hn := nd_u64 hu
  refine ACalls.eq (S28_calls ?_) rfl
  unfold S28
  rw [aBox_eq]
  refine ⟨by rfl, ?_⟩
  have e0 : vcells (eOf g B (nl u)) = [.bool g, .slice B (nl u) (nl u)] := rfl
  rw [e0]
  have hR1 := hR.alloc hlo (.cells [.bool g, .slice B (nl u) (nl u)] .var 68)
  have hb : (H.alloc (.cells [.bool g, .slice B (nl u) (nl u)] .var 68)).at_ H.next = .cells [.bool g, .slice B (nl u) (nl u)] .var 68 := AHeap.at_alloc_new _ _
  have hk : Keep H.next H (H.alloc (.cells [.bool g, .slice B (nl u) (nl u)] .var 68)) := (Keep.refl _ _).alloc (Nat.le_refl _) _
  have hnx : (H.alloc (.cells [.bool g, .slice B (nl u) (nl u)] .var 68)).next = H.next + 1 := rfl
  generalize H.alloc (.cells [.bool g, .slice B (nl u) (nl u)] .var 68) = H1 at hR1 hb hk hnx
  have hagg : aLdAgg 2 (.pointer (some ⟨H.next, 0, none⟩)) H1 = some (eOf g B (nl u)) := by rw [aLdAgg_ptr, hb]; rfl
  rw [hagg, bnd_some']
  refine (c44 g hR1 (by omega) hu hg).use ?_
  simp only [aUn_not, bnd_some', Bool.not_true, aCond_false]
  rw [hagg, bnd_some']
  refine (c45 g hR1 (by omega) hu).mono ?_
  rintro v H2 ⟨C, rfl, hD, hk2⟩
  simp only [aLenSl_slice, bnd_some', aBin_eql]
  refine aCond_of (fun hz => ?_) (fun hnz => ?_)
  · have hz : nd u = 0 := by have := of_decide_eq_true hz; omega
    rw [if_pos hz]
    exact ⟨rfl, hk.trans (hk2.lower (by omega))⟩
  · have hnz : nd u ≠ 0 := by have := of_decide_eq_false hnz; omega
    rw [if_neg hnz]
    have hb2 : H2.at_ H.next = .cells [.bool g, .slice B (nl u) (nl u)] .var 68 := (hk2.at_ _ (by omega)).trans hb
    unfold S28_38
    rw [aJoin_eq]
    simp only [aAdd_ptr, bnd_some', Nat.zero_add, ld1 hb2]
    have hkk : Keep H.next H H2 := hk.trans (hk2.lower (by omega))
    have hn2 := hk2.next
    have main : ∀ E H3, Ow 1 eU 5 H2.next H3 E (sg g) → Keep H2.next H2 H3 →
        S28_37 (fun v H' => v = bstr (sg g ++ Tx u (nd u)) ∧ Keep H.next H H') (.slice C (nd u) (nd u)) [.slice E (sg g).length (sg g).length] H3 := by
      intro E H3 hE hk3
      have hsg : (sg g).length ≤ 1 := by unfold sg; split <;> simp
      unfold S28_37
      simp only [aLenSl_slice, bnd_some', aBin_sub, nth_zero]
      rw [wrap64 (by omega) (by omega)]
      refine aLoop_vs (nd u) (fun i vs H4 => i ≤ nd u ∧ ∃ E, vs = [.slice E ((sg g).length + i) ((sg g).length + i), .int .i64 ((nd u : Int) - 1 - i)] ∧ Ow 1 eU 5 H2.next H4 E (sg g ++ Tx u i) ∧ Keep H2.next H2 H4)
        ⟨Nat.zero_le _, E, by simp, by simpa [Tx] using hE, hk3⟩ ?_
      rintro i vs H4 again hi ⟨_, E4, rfl, hO4, hk4⟩ hag
      unfold S28_30
      simp only [nth_zero, nth_1, aBin_geq, bnd_some']
      refine aCond_of (fun hge => ?_) (fun hlt => ?_)
      · have hi' : i < nd u := by have := of_decide_eq_true hge; omega
        have hD4 := hD.kept hk4
        have hid := hD4.idx (k := .i64) (c := nd u) (j := ((nd u - 1 - i : Nat) : Int)) (by omega) (by rw [D8_length]; omega)
        rw [D8_length] at hid
        have hld := Rd.ld hD4 (j := nd u - 1 - i) (by rw [D8_length]; omega)
        rw [D8_get] at hld
        have hd := dg_lt u (nd u - 1 - i)
        have ei : (nd u : Int) - 1 - i = ((nd u - 1 - i : Nat) : Int) := by omega
        unfold S28_28
        simp only [nth_zero, nth_1, ei, hid, bnd_some', Int.toNat_natCast, hld, aBin_add, aBin_sub]
        have ew : IntKind.u8.wrap (48 + (dg u (nd u - 1 - i) : Nat)) = ((48 + dg u (nd u - 1 - i) : Nat) : Int) := by rw [IntKind.wrap_u8]; omega
        rw [ew, aBuildSlice_eq]
        refine bnd_iff.2 ⟨[.int .u8 (48 + dg u (nd u - 1 - i) : Nat)], rfl, ⟨rfl, rfl⟩, ?_⟩
        have hN : Ow 1 eU 5 H4.next (H4.alloc (.cells [.int .u8 (48 + dg u (nd u - 1 - i) : Nat)] (.row 1) 5)) (some ⟨H4.next, 0, none⟩) [UInt8.ofNat (48 + dg u (nd u - 1 - i))] :=
          Ow.new H4 _ (fun _ _ => rfl) (by simp [UInt8.toNat_ofNat']; omega)
        have hO5 := hO4.alloc (.cells [.int .u8 (48 + dg u (nd u - 1 - i) : Nat)] (.row 1) 5)
        have hn4 := hk4.next
        have key := Ow.append (bytes := 1) (c := (sg g).length + i) (c' := 1) (K := fun v H4 => again [v, .int .i64 (IntKind.i64.wrap (((nd u - 1 - i : Nat) : Int) - 1))] H4) hO5 hN.rd (by simp; omega) (by simp [maxLen]; omega) (by simp; omega) ?_
        · rw [List.length_append, Tx_length] at key
          exact key
        · intro H6 hO6 _ _ hk6
          rw [List.append_assoc, ← Tx_succ] at hO6 ⊢
          rw [List.length_append, Tx_length, wrap64 (by omega) (by omega)]
          refine hag _ _ hi' ⟨by omega, _, ?_, hO6, (hk4.trans ((Keep.refl _ _).alloc (by omega) _)).trans hk6⟩
          congr 2
          · congr 1; omega
      · have hi' : i = nd u := by have := of_decide_eq_false hlt; omega
        subst hi'
        unfold aBytesStr
        have := hO4.rd.row ((sg g).length + nd u)
        rw [List.length_append, Tx_length] at this
        rw [this]
        simp only [Option.bind_some]
        rw [flat_eU, bytesOf_u8c]
        exact ⟨rfl, hkk.trans (hk4.lower (by omega))⟩
    cases g with
    | true =>
      rw [aCond_true, aBuildSlice_eq]
      refine bnd_iff.2 ⟨[.int .u8 45], rfl, ⟨rfl, rfl⟩, ?_⟩
      have hN : Ow 1 eU 5 H2.next (H2.alloc (.cells [.int .u8 45] (.row 1) 5)) (some ⟨H2.next, 0, none⟩) [(45 : UInt8)] := Ow.new H2 _ (fun _ _ => rfl) rfl
      refine Ow.append (xs := []) (bytes := 1) (c := 0) (c' := 1) (Ow.nil 1 eU 5 H2.next _) hN.rd (by simp) (by simp [maxLen]) (by simp) ?_
      intro H3 hO3 _ _ hk3
      exact main _ H3 hO3 (((Keep.refl _ _).alloc (Nat.le_refl _) _).trans hk3)
    | false =>
      rw [aCond_false]
      exact main none H2 (Ow.nil _ _ _ _ _) (Keep.refl _ _)

theorem c16 {H : AHeap} (n : Int) (h0 : -9223372036854775808 ≤ n) (h1 : n ≤ 9223372036854775807) :
    ACalls Tryd.prog 16 [.int .i64 n] H fun v H' => v = bstr (Lib.itoa n) ∧ H' = H := by
  have hu : n.natAbs < 18446744073709551616 := by omega
  refine ACalls.eq (S16_calls ?_) rfl
  unfold S16
  refine (c29 n h0 h1).mono ?_
  rintro v H1 ⟨B, rfl, hO, hk⟩
  have hg : decide (n < 0) = true → 0 < nd n.natAbs := by
    intro h
    have h := of_decide_eq_true h
    rw [nd_pos (show n.natAbs ≠ 0 by omega)]
    omega
  refine (c28 (decide (n < 0)) hO.rd (Nat.le_refl _) hu hg).use ⟨?_, hk⟩
  have e : (if nd n.natAbs = 0 then [48] else sg (decide (n < 0)) ++ Tx n.natAbs (nd n.natAbs)) = Lib.itoa n := by
    unfold Lib.itoa
    by_cases hz : n = 0
    · subst hz
      rw [if_pos (by exact nd_zero), if_neg (by decide), Lib.decDigits]
      rfl
    · have hne : n.natAbs ≠ 0 := by omega
      rw [if_neg (show nd n.natAbs ≠ 0 by rw [nd_pos hne]; omega), Tx_dec _ hne]
      by_cases hneg : n < 0
      · simp [sg, hneg]
      · simp [sg, hneg, show n.natAbs = n.toNat by omega]
  rw [e]
end Go.Proofs.YtnbnojkfhfkecaaDoor.A
