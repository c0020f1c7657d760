/- Contracts of functions that the statement reaches; each theorem carries its own conditions, the last theorem of the claim has none. -/
import Derived.Test.YtnbnojkfhfkecaaDoorC7
/- The law's own numbers: out of an int, and their text. -/
set_option linter.unusedVariables false
set_option linter.unusedSimpArgs false
set_option maxRecDepth 100000
namespace Go.Proofs.YtnbnojkfhfkecaaDoor.A
open Go Go.Abs

abbrev eOf (g : Bool) (B : Option Addr) (M : Nat) : Value := .agg [.bool g, .slice B M M].toArray
theorem nd_u64 {u : Nat} (hu : u < 18446744073709551616) : nd u ≤ 20 := nd_le (Nat.lt_of_lt_of_le hu (by decide))
theorem dg_mod (u i : Nat) : (u / 10 ^ i) % 10 = dg u i := rfl

theorem c29 {H : AHeap} (n : Int) (h0 : -9223372036854775808 ≤ n) (h1 : n ≤ 9223372036854775807) :
    ACalls Tryd.prog 29 [.int .i64 n] H fun v H' => ∃ B, v = eOf (decide (n < 0)) B (nl n.natAbs) ∧ Ow 1 eW 103 H.next H' B (Lm n.natAbs (nl n.natAbs)) ∧ Keep H.next H H' := by
  have hu : n.natAbs < 18446744073709551616 := by omega
  have hn := nd_u64 hu
  generalize hue : n.natAbs = u at hu hn
  refine S29_calls ?_
  unfold S29
  rw [aAlloc_eq]
  have hb : (H.alloc (.cells [.bool false, .slice none 0 0] .var 68)).at_ H.next = .cells [.bool false, .slice none 0 0] .var 68 := AHeap.at_alloc_new _ _
  have hk : Keep H.next H (H.alloc (.cells [.bool false, .slice none 0 0] .var 68)) := (Keep.refl _ _).alloc (Nat.le_refl _) _
  have hnx : (H.alloc (.cells [.bool false, .slice none 0 0] .var 68)).next = H.next + 1 := rfl
  generalize H.alloc (.cells [.bool false, .slice none 0 0] .var 68) = H1 at hb hk hnx
  simp only [aConvInt_int, bnd_some', aBin_lss]
  rw [aJoin_eq]
  have main : aLoop [(nth [.int .u64 (u : Int)] 0), (.slice none 0 0)] H1 fun vs_6 H_7 again_8 =>
      (S29_30 (.int .i64 n) (fun v H' => ∃ B, v = eOf (decide (n < 0)) B (nl u) ∧ Ow 1 eW 103 H.next H' B (Lm u (nl u)) ∧ Keep H.next H H') (.pointer (some ⟨H.next, 0, none⟩)) vs_6 H_7 again_8) := by
    refine aLoop_vs (nd u) (fun i vs H2 => i ≤ nd u ∧ ∃ B, vs = [.int .u64 (u / 10 ^ i : Nat), .slice B i i] ∧ Ow 1 eU 5 (H.next + 1) H2 B (D8 u i) ∧ Keep (H.next + 1) H1 H2)
      ⟨Nat.zero_le _, none, by simp, by simpa [D8] using Ow.nil 1 eU 5 (H.next + 1) H1, Keep.refl _ _⟩ ?_
    rintro i vs H2 again hi ⟨_, B, rfl, hO, hk2⟩ hag
    unfold S29_30
    simp only [nth_zero, aBin_gtr, bnd_some']
    refine aCond_of (fun hpos => ?_) (fun hz => ?_)
    · have hpos : 0 < u / 10 ^ i := by
        have h := of_decide_eq_true hpos
        generalize u / 10 ^ i = q at h ⊢
        omega
      have hi' : i < nd u := by
        refine Nat.lt_of_not_le fun h => ?_
        rw [Nat.div_eq_of_lt (Nat.lt_of_lt_of_le (lt_nd u) (pow10_le h))] at hpos
        omega
      have hle : u / 10 ^ i ≤ u := Nat.div_le_self _ _
      unfold S29_17
      have e1 : aBin .rem .no (.int .u64 (u / 10 ^ i : Nat)) (.int .u64 10) = some (.int .u64 (dg u i : Nat)) := by
        rw [aBin_rem _ _ _ _ (by decide)]; rfl
      have e2 : aBin .quo .no (.int .u64 (u / 10 ^ i : Nat)) (.int .u64 10) = some (.int .u64 (u / 10 ^ (i + 1) : Nat)) := by
        rw [aBin_quo _ _ _ _ (by decide), show ((u / 10 ^ i : Nat) : Int).tdiv 10 = ((u / 10 ^ i / 10 : Nat) : Int) from rfl, wrap_u64 (by omega) (by omega), Nat.div_div_eq_div_mul, Nat.pow_succ]
      have hd := dg_lt u i
      simp only [nth_zero, nth_1, e1, e2, bnd_some', aConvInt_int]
      rw [show IntKind.u8.wrap (dg u i : Nat) = (dg u i : Nat) by rw [IntKind.wrap_u8]; omega, aBuildSlice_eq]
      refine bnd_iff.2 ⟨[.int .u8 (dg u i : Nat)], rfl, ⟨rfl, rfl⟩, ?_⟩
      have hN : Ow 1 eU 5 H2.next (H2.alloc (.cells [.int .u8 (dg u i : Nat)] (.row 1) 5)) (some ⟨H2.next, 0, none⟩) [UInt8.ofNat (dg u i)] :=
        Ow.new H2 _ (fun _ _ => rfl) (by simp [UInt8.toNat_ofNat']; omega)
      have hO3 := hO.alloc (.cells [.int .u8 (dg u i : Nat)] (.row 1) 5)
      have key := Ow.append (bytes := 1) (c := i) (c' := 1) (K := fun v H4 => again [.int .u64 (u / 10 ^ (i + 1) : Nat), v] H4) hO3 hN.rd (by have := hk2.next; simp; omega) (by simp [maxLen]; omega) (by simp; omega) ?_
      · rw [D8_length] at key
        exact key
      · intro H4 hO4 hn4 _ hk4
        rw [← D8_succ] at hO4 ⊢
        rw [D8_length]
        exact hag _ _ hi' ⟨by omega, _, rfl, hO4, (hk2.trans ((Keep.refl _ _).alloc (by have := hk2.next; omega) _)).trans hk4⟩
    · have hz : u / 10 ^ i = 0 := by
        have h := of_decide_eq_false hz
        generalize u / 10 ^ i = q at h ⊢
        omega
      have hlt : u < 10 ^ i := by
        rcases Nat.div_eq_zero_iff.1 hz with h | h
        · have := Nat.pow_pos (n := i) (show 0 < 10 by decide); omega
        · exact h
      have hin : i = nd u := Nat.le_antisymm hi (nd_le hlt)
      subst hin
      unfold S29_29
      simp only [nth_zero, nth_1, aBin_lss, bnd_some']
      have hn2 := hk2.next
      refine (c46 (decide (n < 0)) hO.rd (Nat.le_refl _) hu).mono ?_
      rintro v H3 ⟨B3, rfl, hO3, hk3⟩
      simp only [aExtract_tuple]
      have hb3 : H3.at_ H.next = .cells [.bool false, .slice none 0 0] .var 68 := (hk3.at_ _ (by omega)).trans ((hk2.at_ _ (by omega)).trans hb)
      have hg : (decide (n < 0) && decide (0 < nd u)) = decide (n < 0) := by
        by_cases hneg : n < 0
        · have : u ≠ 0 := by omega
          rw [nd_pos this]; simp
        · simp [hneg]
      rw [hg]
      refine bnd_iff.2 ⟨_, rfl, bnd_iff.2 ⟨_, rfl, ?_⟩⟩
      rw [aAlloc_eq]
      have hn3 := hk3.next
      refine bnd_iff.2 ⟨(H3.alloc (.cells [.bool false, .slice none 0 0] .var 68)).upd H3.next (.cells [.bool (decide (n < 0)), .slice B3 (nl u) (nl u)] .var 68), ?_, ?_⟩
      · rw [aSt_ptr, AHeap.at_alloc_new]; rfl
      have hne : H3.next ≠ H.next := by omega
      refine bnd_iff.2 ⟨eOf (decide (n < 0)) B3 (nl u), by rw [aLdAgg_ptr, AHeap.at_upd_same]; rfl, ?_⟩
      refine bnd_iff.2 ⟨((H3.alloc (.cells [.bool false, .slice none 0 0] .var 68)).upd H3.next (.cells [.bool (decide (n < 0)), .slice B3 (nl u) (nl u)] .var 68)).upd H.next (.cells [.bool (decide (n < 0)), .slice B3 (nl u) (nl u)] .var 68), ?_, ?_⟩
      · rw [aSt_ptr, AHeap.at_upd_ne _ _ hne.symm, AHeap.at_alloc_ne _ _ hne.symm, hb3]; rfl
      refine bnd_iff.2 ⟨eOf (decide (n < 0)) B3 (nl u), by rw [aLdAgg_ptr, AHeap.at_upd_same]; rfl, B3, rfl, ?_, ?_⟩
      · refine (hO3.keep (by simp) fun b hb1 hb2 => ?_).lower (by omega)
        rw [AHeap.at_upd_ne _ _ (by omega), AHeap.at_upd_ne _ _ (by omega), AHeap.at_alloc_ne _ _ (by omega)]
      · have h4 := ((hk.trans (hk2.lower (by omega))).trans (hk3.lower (by omega)))
        exact (((h4.alloc (by omega) _).upd (by omega) _).upd (Nat.le_refl _) _)
  refine aCond_of (fun hneg => ?_) (fun hpos => ?_)
  · have hneg : n < 0 := of_decide_eq_true hneg
    simp only [aUn_neg, bnd_some']
    rw [show IntKind.u64.wrap (0 - IntKind.u64.wrap n) = (u : Int) by rw [IntKind.wrap_u64, IntKind.wrap_u64]; omega]
    exact main
  · have hpos : ¬ n < 0 := of_decide_eq_false hpos
    rw [show IntKind.u64.wrap n = (u : Int) by rw [IntKind.wrap_u64]; omega]
    exact main
end Go.Proofs.YtnbnojkfhfkecaaDoor.A
