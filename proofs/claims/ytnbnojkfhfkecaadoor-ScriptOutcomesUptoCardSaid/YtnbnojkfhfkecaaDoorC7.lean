/- Contracts of functions that the statement reaches; each theorem carries its own conditions, the last theorem of the claim has none. -/
import Derived.Test.YtnbnojkfhfkecaaDoorC6
/- Numbers of the law's own: made of digits. -/
set_option linter.unusedVariables false
set_option maxRecDepth 100000
namespace Go.Proofs.YtnbnojkfhfkecaaDoor.A
open Go Go.Abs

abbrev eW (x : Nat) : List Value := [Value.int .u32 x]
def limb (u i : Nat) : Nat := (u / 10 ^ (9 * i)) % 10 ^ 9
def Lm (u M : Nat) : List Nat := (List.range M).map (limb u)
@[simp] theorem Lm_length (u M : Nat) : (Lm u M).length = M := by simp [Lm]
theorem Lm_succ (u M : Nat) : Lm u (M + 1) = Lm u M ++ [limb u M] := by simp [Lm, List.range_succ]
theorem Lm_get (u M j : Nat) (h : j < (Lm u M).length) : (Lm u M)[j] = limb u j := by simp [Lm]
theorem limb_lt (u i : Nat) : limb u i < 1000000000 := Nat.mod_lt _ (by decide)
abbrev nl (u : Nat) : Nat := (nd u + 8) / 9

def pre (u m i : Nat) : Nat := (u / 10 ^ (9 * m + (9 - i))) % 10 ^ i
theorem pre_lt (u m i : Nat) (hi : i ≤ 9) : pre u m i < 10 ^ i := Nat.mod_lt _ (Nat.pow_pos (by decide))
theorem pre_succ (u m i : Nat) (hi : i < 9) : pre u m (i + 1) = pre u m i * 10 + dg u (9 * m + (8 - i)) := by
  unfold pre dg
  have e1 : 9 - (i + 1) = 8 - i := by omega
  have e2 : 9 * m + (9 - i) = (9 * m + (8 - i)) + 1 := by omega
  rw [e1, e2, Nat.pow_succ 10 (9 * m + (8 - i)), ← Nat.div_div_eq_div_mul, Nat.pow_succ, Nat.mul_comm (10 ^ i) 10, Nat.mod_mul]
  omega
theorem pow10_le {a b : Nat} (h : a ≤ b) : 10 ^ a ≤ 10 ^ b := Nat.pow_le_pow_right (by decide) h

theorem wrap_u32 {x : Int} (h : 0 ≤ x) (h' : x < 4294967296) : IntKind.u32.wrap x = x := by
  rw [IntKind.wrap_u32]; omega

theorem c46 {H : AHeap} {A : Option Addr} {lo u : Nat} (neg : Bool) (hR : By lo H A (D8 u (nd u))) (hlo : lo ≤ H.next) (hu : u < 18446744073709551616) :
    ACalls Tryd.prog 46 [.bool neg, .slice A (nd u) (nd u)] H fun v H' => ∃ B, v = .tuple #[.agg [.bool (neg && decide (0 < nd u)), .slice B (nl u) (nl u)].toArray, .bool true] ∧
      Ow 1 eW 103 H.next H' B (Lm u (nl u)) ∧ Keep H.next H H' := by
  have hn : nd u ≤ 20 := nd_le (Nat.lt_of_lt_of_le hu (by decide))
  refine S46_calls ?_
  unfold S46
  rw [aAlloc_eq]
  have hR1 : By lo (H.alloc (.cells [.bool false, .slice none 0 0] .var 68)) A (D8 u (nd u)) := hR.alloc hlo _
  have hb : (H.alloc (.cells [.bool false, .slice none 0 0] .var 68)).at_ H.next = .cells [.bool false, .slice none 0 0] .var 68 := AHeap.at_alloc_new _ _
  have hk : Keep H.next H (H.alloc (.cells [.bool false, .slice none 0 0] .var 68)) := (Keep.refl _ _).alloc (Nat.le_refl _) _
  have hnx : (H.alloc (.cells [.bool false, .slice none 0 0] .var 68)).next = H.next + 1 := rfl
  generalize H.alloc (.cells [.bool false, .slice none 0 0] .var 68) = H1 at hR1 hb hk hnx
  refine (c66 hR1 (lt_nd u) (by omega)).use ?_
  have hR2 : By lo H1 (adv 1 A 0) (D8 u (nd u)) := by
    have := hR1.take (j := nd u) (by rw [D8_length]; exact Nat.le_refl _)
    rwa [D8_take u (Nat.le_refl _)] at this
  generalize adv 1 A 0 = A' at hR2
  unfold S46_59
  simp only [aLenSl_slice, aBin_gtr, bnd_some']
  refine aCond_of (fun h => by have := of_decide_eq_true h; omega) (fun _ => ?_)
  refine aLoop_vs (nl u) (fun m vs H2 => m ≤ nl u ∧ ∃ B, vs = [.slice B m m, .int .i64 (9 * m : Nat)] ∧ Ow 1 eW 103 (H.next + 1) H2 B (Lm u m) ∧ Keep (H.next + 1) H1 H2)
    ⟨Nat.zero_le _, none, rfl, by simpa [Lm] using Ow.nil 1 eW 103 (H.next + 1) H1, Keep.refl _ _⟩ ?_
  rintro m vs H2 again hm ⟨_, B, rfl, hO, hk2⟩ hag
  unfold S46_58
  simp only [aLenSl_slice, nth_zero, nth_1, aBin_lss, bnd_some']
  refine aCond_of (fun hlt => ?_) (fun hge => ?_)
  · have hlt : 9 * m < nd u := by have := of_decide_eq_true hlt; omega
    have hm' : m < nl u := by unfold nl; omega
    have hR3 : By (H.next + 1) H2 A' (D8 u (nd u)) := (hR2.up (by omega)).kept hk2
    refine aLoop_vs 9 (fun i vs H3 => i ≤ 9 ∧ vs = [.int .u32 (pre u m i), .int .i64 (8 - (i : Int))] ∧ H3 = H2) ⟨by omega, by simp [pre, Nat.mod_one], rfl⟩ ?_
    rintro i vs H3 again2 hi ⟨_, rfl, rfl⟩ hag2
    unfold S46_38
    simp only [nth_zero, nth_1, aBin_geq, bnd_some']
    refine aCond_of (fun hge => ?_) (fun hlt9 => ?_)
    · have hi9 : i < 9 := by have := of_decide_eq_true hge; omega
      unfold S46_32
      rw [aJoin_eq]
      have hp := pre_lt u m i (by omega)
      have hp8 : 10 ^ i ≤ 10 ^ 8 := pow10_le (by omega)
      have hd := dg_lt u (9 * m + (8 - i))
      have hp9 := pre_lt u m (i + 1) (by omega)
      have hp99 : 10 ^ (i + 1) ≤ 10 ^ 9 := pow10_le (by omega)
      have hps := pre_succ u m i hi9
      have e1 : IntKind.u32.wrap ((pre u m i : Int) * 10) = ((pre u m i * 10 : Nat) : Int) := by rw [wrap_u32 (by omega) (by omega)]; omega
      have e2 : IntKind.i64.wrap (((9 * m : Nat) : Int) + (8 - (i : Int))) = ((9 * m + (8 - i) : Nat) : Int) := by rw [wrap64 (by omega) (by omega)]; omega
      have e3 : IntKind.i64.wrap (8 - (i : Int) - 1) = 8 - ((i + 1 : Nat) : Int) := by rw [wrap64 (by omega) (by omega)]; omega
      simp only [nth_zero, nth_1, aBin_mul, aBin_add, aBin_sub, bnd_some', aLenSl_slice, aBin_lss, e1, e2, e3]
      refine aCond_of (fun hin => ?_) (fun hout => ?_)
      · have hin : 9 * m + (8 - i) < nd u := by have := of_decide_eq_true hin; omega
        unfold S46_31
        have hid := hR3.idx (k := .i64) (c := nd u) (j := ((9 * m + (8 - i) : Nat) : Int)) (by omega) (by rw [D8_length]; omega)
        rw [D8_length] at hid
        have hld := Rd.ld hR3 (j := 9 * m + (8 - i)) (by rw [D8_length]; omega)
        rw [D8_get] at hld
        simp only [nth_zero, nth_1, aBin_add, bnd_some', e2, hid, Int.toNat_natCast, hld, aConvInt_int]
        rw [wrap_u32 (x := (dg u (9 * m + (8 - i)) : Int)) (by omega) (by omega), wrap_u32 (by omega) (by omega)]
        refine hag2 _ _ (by omega) ⟨by omega, ?_, rfl⟩
        rw [hps]
        rfl
      · have hout : nd u ≤ 9 * m + (8 - i) := by have := of_decide_eq_false hout; omega
        refine hag2 _ _ (by omega) ⟨by omega, ?_, rfl⟩
        rw [hps, dg_zero_of (lt_nd u) hout]
        rfl
    · have hi9 : i = 9 := by have := of_decide_eq_false hlt9; omega
      subst hi9
      rw [aBuildSlice_eq]
      have hl : pre u m 9 = limb u m := rfl
      rw [hl]
      refine bnd_iff.2 ⟨[.int .u32 (limb u m)], rfl, ⟨rfl, rfl⟩, ?_⟩
      have hN : Ow 1 eW 103 H3.next (H3.alloc (.cells [.int .u32 (limb u m)] (.row 1) 103)) (some ⟨H3.next, 0, none⟩) [limb u m] := Ow.new H3 _ (fun _ _ => rfl) rfl
      have hO3 := hO.alloc (.cells [.int .u32 (limb u m)] (.row 1) 103)
      have hmm : m ≤ 3 := by unfold nl at hm; omega
      have key := Ow.append (bytes := 4) (c := m) (c' := 1) (K := fun v H4 => bnd (aBin .add .no (.int .i64 (9 * m : Nat)) (.int .i64 9)) fun t => again [v, t] H4) hO3 hN.rd (by have := hk2.next; simp; omega) (by simp [maxLen]; omega) (by simp; omega) ?_
      · rw [Lm_length] at key
        exact key
      · intro H4 hO4 hn4 _ hk4
        rw [← Lm_succ] at hO4 ⊢
        rw [Lm_length]
        simp only [aBin_add, bnd_some']
        rw [wrap64 (by omega) (by omega)]
        refine hag _ _ hm' ⟨by omega, _, by congr 3, hO4, (hk2.trans ((Keep.refl _ _).alloc (by have := hk2.next; omega) _)).trans hk4⟩
  · have hge : nd u ≤ 9 * m := by have := of_decide_eq_false hge; omega
    have hmn : m = nl u := by unfold nl at hm ⊢; omega
    subst hmn
    have hb2 : H2.at_ H.next = .cells [.bool false, .slice none 0 0] .var 68 := (hk2.at_ _ (by omega)).trans hb
    have fin : ∀ x, x = (neg && decide (0 < nd u)) → bnd (aFill [(.bool false), (.slice none 0 0)] [(0, 1, .bool x), (1, 1, .slice B (nl u) (nl u))]) fun t55_54 =>
        bnd (aSt 2 (.pointer (some ⟨H.next, 0, none⟩)) (.agg t55_54.toArray) H2) fun H_55 =>
        bnd (aLdAgg 2 (.pointer (some ⟨H.next, 0, none⟩)) H_55) fun r_56 => ∃ B, (.tuple #[r_56, (.bool true)] : Value) = .tuple #[.agg [.bool (neg && decide (0 < nd u)), .slice B (nl u) (nl u)].toArray, .bool true] ∧
      Ow 1 eW 103 H.next H_55 B (Lm u (nl u)) ∧ Keep H.next H H_55 := by
      rintro x rfl
      refine bnd_iff.2 ⟨[.bool (neg && decide (0 < nd u)), .slice B (nl u) (nl u)], rfl, ?_⟩
      rw [aSt_ptr, hb2]
      refine bnd_iff.2 ⟨H2.upd H.next (.cells [.bool (neg && decide (0 < nd u)), .slice B (nl u) (nl u)] .var 68), rfl, ?_⟩
      rw [aLdAgg_ptr, AHeap.at_upd_same]
      refine bnd_iff.2 ⟨_, rfl, B, rfl, ?_, ?_⟩
      · refine (hO.keep (H' := H2.upd H.next _) (by simp) fun b h1 h2 => AHeap.at_upd_ne _ _ (by omega)).lower (by omega)
      · exact (hk.trans (hk2.lower (by omega))).upd (Nat.le_refl _) _
    unfold S46_57
    cases neg with
    | true =>
      simp only [aGuardK_tt, aLenSl_slice, bnd_some', aBin_gtr, aPick_tt, nth_zero]
      exact fin _ (by simp)
    | false =>
      simp only [aGuardK_ft, aPick_ff, bnd_some', nth_zero]
      exact fin _ (by simp)
end Go.Proofs.YtnbnojkfhfkecaaDoor.A
