/- Contracts of functions that the statement reaches; each theorem carries its own conditions, the last theorem of the claim has none. -/
import Derived.Test.YtngldjajfpbmbaaS29
set_option linter.unusedVariables false
set_option linter.unusedSimpArgs false
namespace Go.Proofs.Ytngldjajfpbmbaa.A
open Go Go.Abs

def nx0 : Nat → V := fun _ => (0, 0)
def nx2 (a b : Nat) : Nat → V := rgN (rgN nx0 0 a) a b
theorem nx2_lo {a b i : Nat} (h : i < a) : ∃ i', i' < a ∧ nx2 a b i = (7, (i' : Int)) := by
  unfold nx2 rgN
  rw [if_pos h, if_neg (by omega)]
  split
  · exact ⟨a - 1, by omega, by congr 1; omega⟩
  · exact ⟨i - 1, by omega, by congr 1; omega⟩
theorem nx2_hi {a b j : Nat} (h : j < b) : ∃ j', j' < b ∧ nx2 a b (a + j) = (7, ((a + j' : Nat) : Int)) := by
  unfold nx2 rgN
  rw [if_neg (by omega)]
  split
  · exact ⟨b - 1, by omega, by congr 1; omega⟩
  · exact ⟨j - 1, by omega, by congr 1; omega⟩
theorem ring_run {a b : Nat} : ∀ (f i j : Nat), i < a → j < b → (bM (nx2 a b) (a + b)).run f [((7, (i : Int)), (7, ((a + j : Nat) : Int)))] = (false, 0, 15)
  | 0, i, j, _, _ => rfl
  | f + 1, i, j, hi, hj => by
    rw [bM_step (by omega) (by omega) (by omega)]
    obtain ⟨i', h1, e1⟩ := nx2_lo (b := b) hi
    obtain ⟨j', h2, e2⟩ := nx2_hi (a := a) hj
    rw [e1, e2]
    exact ring_run f i' j' h1 h2
def nx3 (a b : Nat) : Nat → V := rgW (nx2 a b) (a + b)
theorem list_run {a b m : Nat} : ∀ (t f i : Nat), i < a → a + b + t < m → (bM (nx3 a b) m).run (f + t + 2) [((7, (i : Int)), (7, ((a + b + t : Nat) : Int)))] = (false, f, 0)
  | 0, f, i, hi, hm => by
    obtain ⟨i', h1, e1⟩ := nx2_lo (b := b) hi
    rw [show f + 0 + 2 = f + 1 + 1 by omega, bM_step (by omega) (by omega) (by omega)]
    have e2 : nx3 a b i = (7, (i' : Int)) := by unfold nx3 rgW; rw [if_pos (by omega), e1]
    have e3 : nx3 a b (a + b + 0) = (0, 0) := by unfold nx3 rgW; rw [if_neg (by omega), if_pos (by omega)]
    rw [e2, e3]
    exact bM_end (by omega) f
  | t + 1, f, i, hi, hm => by
    obtain ⟨i', h1, e1⟩ := nx2_lo (b := b) hi
    rw [show f + (t + 1) + 2 = f + t + 2 + 1 by omega, bM_step (by omega) (by omega) (by omega)]
    have e2 : nx3 a b i = (7, (i' : Int)) := by unfold nx3 rgW; rw [if_pos (by omega), e1]
    have e3 : nx3 a b (a + b + (t + 1)) = (7, ((a + b + t : Nat) : Int)) := by unfold nx3 rgW; rw [if_neg (by omega), if_neg (by omega)]; congr 1; omega
    rw [e2, e3]
    exact list_run t f i' h1 (by omega)
theorem nx3_ok {a b m : Nat} (hm : a + b ≤ m) : ∀ j, j < m → (nx3 a b j).1 = 7 → 0 ≤ (nx3 a b j).2 ∧ (nx3 a b j).2 < m := by
  intro j hj h7
  unfold nx3 rgW at h7 ⊢
  split at h7
  · rename_i c1
    rw [if_pos c1]
    by_cases c2 : j < a
    · obtain ⟨i', h1, e1⟩ := nx2_lo (b := b) c2
      rw [e1]; constructor <;> (dsimp only; omega)
    · obtain ⟨j', h1, e1⟩ := nx2_hi (a := a) (b := b) (j := j - a) (by omega)
      rw [show a + (j - a) = j by omega] at e1
      rw [e1]; constructor <;> (dsimp only; omega)
  · rename_i c1
    rw [if_neg c1]
    split at h7
    · simp at h7
    · rename_i c2
      rw [if_neg c2]; constructor <;> (dsimp only; omega)

theorem c9 {H : AHeap} {x y z : Nat} (hx : x < 256) (hy : y < 256) (hz : z < 65536) : ACalls Try.prog 9 [.int .u8 x, .int .u8 y, .int .u16 z] H fun r _ => r = .bool true := by
  refine S9_calls ?_
  unfold S9
  refine (c13 (by omega) (by omega)).mono fun r H1 ⟨p, F, hr, hS, hkp, hF⟩ => ?_
  subst hr
  unfold S9_103
  simp
  refine c20.use ?_
  simp
  unfold S9_102
  have ex : ((x : Int).tmod 9) = ((x % 9 : Nat) : Int) := by rw [Int.tmod_eq_emod_of_nonneg (by omega)]; omega
  have ey : ((y : Int).tmod 9) = ((y % 9 : Nat) : Int) := by rw [Int.tmod_eq_emod_of_nonneg (by omega)]; omega
  have ez : ((z : Int).tmod 2000) = ((z % 2000 : Nat) : Int) := by rw [Int.tmod_eq_emod_of_nonneg (by omega)]; omega
  obtain ⟨a, ha⟩ : ∃ a, a = x % 9 + 1 := ⟨_, rfl⟩
  obtain ⟨b, hb⟩ : ∃ b, b = y % 9 + 1 := ⟨_, rfl⟩
  have wx := wrap64 (x := ((x % 9 : Nat) : Int)) (by omega) (by omega)
  have wx1 : IntKind.i64.wrap (((x % 9 : Nat) : Int) + 1) = (a : Int) := by rw [wrap64 (by omega) (by omega)]; omega
  have wy := wrap64 (x := ((y % 9 : Nat) : Int)) (by omega) (by omega)
  have wy1 : IntKind.i64.wrap (((y % 9 : Nat) : Int) + 1) = (b : Int) := by rw [wrap64 (by omega) (by omega)]; omega
  have wz := wrap64 (x := ((z % 2000 : Nat) : Int)) (by omega) (by omega)
  simp only [aBin_rem _ _ _ _ (show (9 : Int) ≠ 0 by decide), ex, ey, bnd_some', aConvInt_int, wx, wy, aBin_add, wx1, wy1]
  have e13 : Sm.new 4000 = bM nx0 0 := rfl
  rw [e13] at hS
  refine (c28 hS (n := a) (by omega) (by omega) (by omega)).mono fun r H2 ⟨hr, F2, hS2, hF2⟩ => ?_
  subst hr
  rw [Nat.zero_add] at hS2 ⊢
  refine (c28 hS2 (n := b) (by omega) (by omega) (by omega)).mono fun r H3 ⟨hr, F3, hS3, hF3⟩ => ?_
  subst hr
  have hS3' : St H3 p (bM (nx2 a b) (a + b)) F3 := hS3
  unfold S9_101
  have e4 : ((a + b - 1 : Nat) : Int) = ((a + (b - 1) : Nat) : Int) := by omega
  rw [e4]
  generalize hA1 : ((a - 1 : Nat) : Int) = A1
  generalize hB1 : ((a + (b - 1) : Nat) : Int) = B1
  simp [at_alloc, at_upd]
  obtain ⟨G, hG⟩ : ∃ X, X = (((H3.alloc (.cells [.int .i64 0, .int .i64 0] .var 28)).alloc (.cells [.int .i64 0, .int .i64 0] .var 28)).upd H3.next (.cells [.int .i64 7, .int .i64 A1] .var 28)).upd (H3.next + 1) (.cells [.int .i64 7, .int .i64 B1] .var 28) := ⟨_, rfl⟩
  have hkG : Keep H3.next H3 G := hG ▸ ((((Keep.refl _ _).alloc (Nat.le_refl _) _).alloc (by simp) _).upd (Nat.le_refl _) _).upd (by omega) _
  have h9 : Lv G F3 H3.next (.cells (eV (7, A1)) .var 28) := ⟨by rw [hG]; simp [at_upd], by rw [hG]; simp; omega, fun hf => by have := hS3.lt _ hf; omega⟩
  simp only [← hG]
  clear hG
  have hSG := hS3'.kept hkG
  rw [aBin_rem _ _ _ _ (show (2000 : Int) ≠ 0 by decide)]
  simp only [ez, bnd_some', aConvInt_int, wz]
  have hok2 : ∀ j, j < a + b → (nx2 a b j).1 = 7 → 0 ≤ (nx2 a b j).2 ∧ (nx2 a b j).2 < (a + b : Nat) := by
    intro j hj h7
    have := nx3_ok (a := a) (b := b) (m := a + b) (Nat.le_refl _) j hj
    unfold nx3 rgW at this
    rw [if_pos hj] at this
    exact this h7
  refine (c21 hSG (slotsOf_le (bM_inv (by omega)) (bM_vd hok2)) (7, A1) (7, B1) (by omega)).use ?_
  rw [← hA1, ← hB1, ring_run _ (a - 1) (b - 1) (by omega) (by omega)]
  unfold S9_100
  simp [runV, at_alloc]
  obtain ⟨q, hq⟩ : ∃ q, q = G.next := ⟨_, rfl⟩
  rw [← hq]
  have hk4 : ∀ u v, Keep G.next G ((G.alloc u).upd G.next v) := fun u v => ((Keep.refl _ _).alloc (Nat.le_refl _) _).upd (Nat.le_refl _) _
  have hS4 : ∀ u v, St ((G.alloc u).upd G.next v) p (bM (nx3 a b) (a + b)) F3 := fun u v => by
    have := hSG.kept (hk4 u v)
    rwa [show bM (nx2 a b) (a + b) = bM (nx3 a b) (a + b) from bM_congr fun j hj => by unfold nx3 rgW; rw [if_pos hj]] at this
  have h9n : H3.next ≠ q := by have := h9.lt; omega
  refine aLoop_vs 30 (fun i vs H' => ∃ F', vs = [.int .i64 i] ∧ St H' p (bM (nx3 a b) (a + b + i)) F' ∧ Lv H' F' H3.next (.cells (eV (7, A1)) .var 28) ∧ Lv H' F' q (.cells (eV (if i = 0 then (0, 0) else (7, ((a + b + i : Nat) : Int) - 1))) .var 28)) ⟨F3, rfl, by rw [hq]; exact hS4 _ _, by rw [hq]; exact h9.kept (hk4 _ _), by rw [hq]; exact ⟨by simp, by simp, fun hf => by have := hSG.lt _ hf; omega⟩⟩ ?_
  clear hS4 hk4
  rintro i vs H' again hi ⟨F', rfl, hS', h9', hq'⟩ ha'
  unfold S9_99
  have l9 : aLdAgg 2 (Pt H3.next) H' = some (vV (7, A1)) := by simp [h9'.at_]
  by_cases hlt : i < 30
  · have h1 : (i : Int) < 30 := by omega
    simp only [nth_zero, aBin_lss, bnd_some', decide_eq_true h1, aCond_true]
    unfold S9_59
    have w1 := wrap64 (x := (i : Int) + 1) (by omega) (by omega)
    have evv : (if i = 0 then ((0, 0) : V) else (7, ((a + b + i : Nat) : Int) - 1)) = nx3 a b (a + b + i) := by
      unfold nx3 rgW
      have n1 : ¬ (a + b + i < a + b) := by omega
      by_cases h0 : i = 0
      · subst h0; simp
      · have n2 : ¬ (a + b + i = a + b) := by omega
        rw [if_neg h0, if_neg n1, if_neg n2]
    rw [evv] at hq'
    have hsd : (bM (nx3 a b) (a + b + i)).sound (nx3 a b (a + b + i)) = true := by
      rw [← evv]
      split
      · simp [Sm.sound]
      · exact sound_obj (by omega) (by simp only [bM, bL_len]; omega)
    have hm := bM_make (nx := nx3 a b) (n := a + b + i) (by omega) rfl hsd
    have := mkLit hS' (bM_inv (by omega)) 3 [nx3 a b (a + b + i)] (by simp) (by simp)
    rw [hm] at this
    have this' : ACalls Try.prog 15 [Pt p, .int .i64 3, .slice (some ⟨H'.next, 0, none⟩) 1 1] (H'.alloc (.cells (eV (nx3 a b (a + b + i))) (.row 2) 28)) fun r H2 => r = .tuple #[vV (7, ((a + b + i : Nat) : Int)), .int .i64 0] ∧ ∃ F'', St H2 p (bM (nx3 a b) (a + b + i + 1)) F'' ∧ Fr F' H' F'' H2 := this
    generalize nx3 a b (a + b + i) = v at *
    have l7 : aLdAgg 2 (Pt q) H' = some (vV v) := by simp [hq'.at_]
    simp only [l7, bnd_some', aBuildSlice_eq]
    have e5 : ((a + b + (i + 1) : Nat) : Int) - 1 = ((a + b + i : Nat) : Int) := by omega
    generalize hNi : ((a + b + i : Nat) : Int) = Ni at *
    simp
    refine this'.mono fun r H5 ⟨hr, F5, hS5, hF5⟩ => ?_
    subst hr
    have h95 := h9'.fr hF5
    have hq5 := hq'.fr hF5
    have hst : aSt 2 (Pt q) (vV (7, Ni)) H5 = some (H5.upd q (.cells (eV (7, Ni)) .var 28)) := by simp [hq5.at_]
    simp [hst, w1, -aSt_ptr]
    have := ha' [.int .i64 ((i + 1 : Nat) : Int)] (H5.upd q (.cells (eV (7, Ni)) .var 28)) hlt ⟨F5, rfl, hS5.updnf hq5.nf, h95.updne h9n, by rw [if_neg (by omega), e5]; exact hq5.upd⟩
    simpa using this
  · have hie : i = 30 := by omega
    subst hie
    have e6 : ((a + b + 30 : Nat) : Int) - 1 = ((a + b + 29 : Nat) : Int) := by omega
    rw [if_neg (by decide), e6] at hq'
    have lq : aLdAgg 2 (Pt q) H' = some (vV (7, ((a + b + 29 : Nat) : Int))) := by simp [hq'.at_]
    simp only [nth_zero, aBin_lss, bnd_some', l9, lq]
    simp
    refine (c21 hS' (slotsOf_le (bM_inv (by omega)) (bM_vd (nx3_ok (by omega)))) (7, A1) (7, ((a + b + 29 : Nat) : Int)) (fuel := 100) (by omega)).use ?_
    have hrun := list_run (a := a) (b := b) (m := a + b + 30) 29 69 (a - 1) (by omega) (by omega)
    have e7 : (100 : Int).toNat = 69 + 29 + 2 := rfl
    rw [e7, ← hA1, hrun]
    unfold S9_98
    simp [runV]
theorem c9i {H : AHeap} {x y z : Int} (hx : 0 ≤ x ∧ x < 256) (hy : 0 ≤ y ∧ y < 256) (hz : 0 ≤ z ∧ z < 65536) : ACalls Try.prog 9 [.int .u8 x, .int .u8 y, .int .u16 z] H fun r _ => r = .bool true := by
  obtain ⟨a, rfl⟩ := Int.eq_ofNat_of_zero_le hx.1
  obtain ⟨b, rfl⟩ := Int.eq_ofNat_of_zero_le hy.1
  obtain ⟨c, rfl⟩ := Int.eq_ofNat_of_zero_le hz.1
  exact c9 (by omega) (by omega) (by omega)
end Go.Proofs.Ytngldjajfpbmbaa.A
