/- Contracts of functions that the statement reaches; each theorem carries its own conditions, the last theorem of the claim has none. -/
import Derived.Test.YtnbnojkfhfkecaaDoorC5
/- The digits of a number, low ones first; what the law's own numbers do with them. -/
set_option linter.unusedVariables false
set_option maxRecDepth 100000
namespace Go.Proofs.YtnbnojkfhfkecaaDoor.A
open Go Go.Abs

def dg (u j : Nat) : Nat := (u / 10 ^ j) % 10
def D8 (u N : Nat) : List UInt8 := (List.range N).map fun j => UInt8.ofNat (dg u j)
@[simp] theorem D8_length (u N : Nat) : (D8 u N).length = N := by simp [D8]
theorem dg_lt (u j : Nat) : dg u j < 10 := Nat.mod_lt _ (by decide)
theorem D8_get (u N j : Nat) (h : j < (D8 u N).length) : ((D8 u N)[j]).toNat = dg u j := by
  have := dg_lt u j
  simp only [D8, List.getElem_map, List.getElem_range, UInt8.toNat_ofNat']
  omega
theorem D8_succ (u N : Nat) : D8 u (N + 1) = D8 u N ++ [UInt8.ofNat (dg u N)] := by simp [D8, List.range_succ]
theorem D8_take (u : Nat) {n N : Nat} (h : n ≤ N) : (D8 u N).take n = D8 u n := by
  rw [D8, ← List.map_take, List.take_range, Nat.min_eq_left h]
  rfl
/-- How many digits. -/
def nd (u : Nat) : Nat := if h : u = 0 then 0 else nd (u / 10) + 1
termination_by u
decreasing_by omega
theorem nd_zero : nd 0 = 0 := by unfold nd; simp
theorem nd_pos {u : Nat} (h : u ≠ 0) : nd u = nd (u / 10) + 1 := by rw [nd, dif_neg h]
theorem lt_nd (u : Nat) : u < 10 ^ nd u := by
  induction u using Nat.strongRecOn with
  | ind u ih =>
    by_cases h : u = 0
    · subst h; rw [nd_zero]; decide
    · rw [nd_pos h, Nat.pow_succ]
      have := ih (u / 10) (by omega)
      omega
theorem nd_ge (u : Nat) (h : u ≠ 0) : 10 ^ (nd u - 1) ≤ u := by
  induction u using Nat.strongRecOn with
  | ind u ih =>
    rw [nd_pos h, Nat.add_sub_cancel]
    by_cases h1 : u / 10 = 0
    · rw [h1, nd_zero]; simp; omega
    · have h2 := ih (u / 10) (by omega) h1
      rw [nd_pos h1] at h2 ⊢
      rw [Nat.add_sub_cancel] at h2
      rw [Nat.pow_succ]
      omega
theorem nd_unique {u n : Nat} (h1 : u < 10 ^ n) (h2 : n = 0 ∨ 10 ^ (n - 1) ≤ u) : nd u = n := by
  by_cases h : u = 0
  · subst h
    rcases h2 with rfl | h2
    · exact nd_zero
    · have := Nat.pow_pos (n := n - 1) (show 0 < 10 by decide); omega
  · have h3 := lt_nd u
    have h4 := nd_ge u h
    have h0 : 0 < nd u := by rw [nd_pos h]; omega
    have h5 : n - 1 < nd u ∨ n = 0 := by
      rcases h2 with h2 | h2
      · exact .inr h2
      · exact .inl ((Nat.pow_lt_pow_iff_right (by decide : 1 < 10)).1 (Nat.lt_of_le_of_lt h2 h3))
    have h6 : nd u - 1 < n := (Nat.pow_lt_pow_iff_right (by decide : 1 < 10)).1 (Nat.lt_of_le_of_lt h4 h1)
    rcases h5 with h5 | h5
    · omega
    · omega
theorem nd_le {u n : Nat} (h : u < 10 ^ n) : nd u ≤ n := by
  by_cases h0 : u = 0
  · subst h0; rw [nd_zero]; omega
  · have := (Nat.pow_lt_pow_iff_right (by decide : 1 < 10)).1 (Nat.lt_of_le_of_lt (nd_ge u h0) h)
    omega
theorem dg_zero_of {u j n : Nat} (h : u < 10 ^ n) (hj : n ≤ j) : dg u j = 0 := by
  unfold dg
  rw [Nat.div_eq_of_lt (Nat.lt_of_lt_of_le h (Nat.pow_le_pow_right (by decide) hj))]

theorem c66 {H : AHeap} {A : Option Addr} {lo u N : Nat} (hR : By lo H A (D8 u N)) (hu : u < 10 ^ N) (hN : N ≤ 4611686018427387904) :
    ACalls Tryd.prog 66 [.slice A N N] H fun v H' => v = .slice (adv 1 A 0) (nd u) (nd u) ∧ H' = H := by
  refine S66_calls ?_
  unfold S66
  simp only [aLenSl_slice, bnd_some']
  refine aLoop_inv (fun m vs H2 => m ≤ N ∧ u < 10 ^ m ∧ vs = [.int .i64 m] ∧ H2 = H) N ⟨Nat.le_refl _, hu, rfl, rfl⟩ ?_
  rintro n vs H2 again ⟨hn, hun, rfl, rfl⟩ hag
  unfold S66_36
  have hend : ∀ (hnd : nd u = n), aSliceSl 1 (.slice A N N) none (some (.int .i64 n)) = some (.slice (adv 1 A 0) (nd u) (nd u)) := by
    intro hnd
    have := hR.sliceHi (k := .i64) (j := (n : Int)) (by omega) (by rw [D8_length]; omega)
    rw [D8_length] at this
    rw [this, hnd]
    simp
  rcases Nat.eq_zero_or_pos n with rfl | hpos
  · simp only [nth_zero, aBin_gtr, bnd_some', show decide ((0 : Int) < ((0 : Nat) : Int)) = false from rfl, aGuardK_ft, aPick_ff, aCond_false]
    rw [hend (nd_unique hun (.inl rfl)), bnd_some']
    exact ⟨rfl, trivial⟩
  · obtain ⟨m, rfl⟩ : ∃ m, n = m + 1 := ⟨n - 1, by omega⟩
    have hid := hR.idx (k := .i64) (c := N) (j := (m : Int)) (by omega) (by rw [D8_length]; omega)
    rw [D8_length] at hid
    have hld := Rd.ld hR (j := m) (by rw [D8_length]; omega)
    rw [D8_get] at hld
    have hw : IntKind.i64.wrap ((m + 1 : Nat) - 1 : Int) = m := by rw [wrap64 (by omega) (by omega)]; omega
    simp only [nth_zero, aBin_gtr, bnd_some', show decide ((0 : Int) < ((m + 1 : Nat) : Int)) = true by simp, aGuardK_tt, aBin_sub, hw, hid, Int.toNat_natCast, hld, aBin_eql, aPick_tt]
    refine aCond_of (fun hz => ?_) (fun hnz => ?_)
    · have hz : dg u m = 0 := by have := of_decide_eq_true hz; omega
      refine hag m _ _ (by omega) ⟨by omega, ?_, rfl, rfl⟩
      unfold dg at hz
      have h1 : u / 10 ^ m < 10 := by
        rw [Nat.div_lt_iff_lt_mul (Nat.pow_pos (by decide))]
        rw [Nat.pow_succ] at hun
        omega
      rw [Nat.mod_eq_of_lt h1] at hz
      rcases Nat.div_eq_zero_iff.1 hz with h | h
      · have := Nat.pow_pos (n := m) (show 0 < 10 by decide); omega
      · exact h
    · have hnz : dg u m ≠ 0 := by have := of_decide_eq_false hnz; omega
      rw [hend (nd_unique hun (.inr (by
        rw [Nat.add_sub_cancel]
        exact Nat.le_of_not_lt fun h => hnz (dg_zero_of h (Nat.le_refl _))))), bnd_some']
      exact ⟨rfl, trivial⟩
end Go.Proofs.YtnbnojkfhfkecaaDoor.A
