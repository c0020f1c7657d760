/- Contracts of functions that the statement reaches; each theorem carries its own conditions, the last theorem of the claim has none. -/
import Derived.Test.YtngldjajfpbmbaaS17
set_option linter.unusedVariables false
set_option linter.unusedSimpArgs false
namespace Go.Proofs.Ytngldjajfpbmbaa.A
open Go Go.Abs

/-- A ring of boxes, of which the first i are closed. -/
def rgO (k i j : Nat) : Ob := mkOb 3 [if j < i then (7, (((j + 1) % k : Nat) : Int)) else (0, 0)]
def rgL (k n i : Nat) : List Ob := (List.range n).map (rgO k i)
def rgM (k n i : Nat) : Sm := ⟨1000, 2 * (n : Int), rgL k n i, []⟩
theorem rgL_len (k n i : Nat) : (rgL k n i).length = n := by simp [rgL]
theorem rgO_cells (k i j : Nat) : (rgO k i j).cells = 2 := by simp [rgO, mkOb, Ob.cells]
theorem rgL_total (k i : Nat) : ∀ n : Nat, total (rgL k n i) = 2 * n
  | 0 => rfl
  | n + 1 => by
    have := rgL_total k i n
    simp only [rgL] at this
    rw [rgL, List.range_succ, List.map_append, total_append, this]; simp [total, rgO_cells]; omega
theorem rgM_inv {k n i : Nat} (h : n ≤ 21) : Inv (rgM k n i) := by
  refine ⟨?_, ?_, by simp [rgM]⟩
  · simp only [rgM, rgL_total]; omega
  · simp only [rgM]; omega
theorem rgL_get {k n i j : Nat} (h : j < n) : (rgL k n i)[j]? = some (rgO k i j) := by simp [rgL, h]
theorem rgM_vd (k i : Nat) (hk : 0 < k) : Vd (rgM k k i) := by
  refine ⟨fun o ho v hv h7 => ?_, fun o ho h10 => ?_⟩
  · simp only [rgM, rgL_len] at ho ⊢
    simp only [rgL, List.mem_map, List.mem_range] at ho
    obtain ⟨j, hj, rfl⟩ := ho
    simp only [rgO, mkOb, List.mem_singleton] at hv
    have := Nat.mod_lt (j + 1) hk
    split at hv
    · subst hv; constructor <;> (dsimp only; omega)
    · subst hv; simp at h7
  · simp only [rgM, rgL, List.mem_map, List.mem_range] at ho
    obtain ⟨j, hj, rfl⟩ := ho
    simp [rgO, mkOb] at h10
theorem rgM_make {k n : Nat} (h : n < 21) : (rgM k n 0).make 3 [(0, 0)] = (((7, (n : Int)), 0), rgM k (n + 1) 0) := by
  have h1 : (rgM k n 0).sound (0, 0) = true := by simp [Sm.sound]
  have h3 : ¬ (rgM k n 0).lim - (rgM k n 0).used < ((mkOb 3 [(0, 0)]).cells : Int) := by
    simp only [rgM, mkOb, Ob.cells]
    simp
    omega
  unfold Sm.make
  rw [if_pos (by simp [shaped]), if_pos (by simp [h1]), if_neg h3]
  have e1 : (rgM k n 0).objs.length = n := rgL_len _ _ _
  have e2 : (rgM k n 0).put (mkOb 3 [(0, 0)]) = rgM k (n + 1) 0 := by
    simp only [Sm.put, rgM, rgL, List.range_succ, List.map_append]
    congr 1
  rw [e1, e2]
theorem rgM_ob {k n i j : Nat} (h : j < n) : (rgM k n i).ob (7, (j : Int)) = rgO k i j := by
  simp only [Sm.ob, rgM, Int.toNat_natCast, List.getD_eq_getElem?_getD, rgL_get h, Option.getD_some]
theorem rgM_ref {k n i j : Nat} (h : j < n) : okRef (rgM k n i) (7, (j : Int)) = true := by
  rw [okRef_iff]; simp [rgM, rgL_len]; omega
theorem rgM_set {k i : Nat} (h : i < k) : (rgM k k i).set (7, (i : Int)) 0 (7, (((i + 1) % k : Nat) : Int)) = (0, rgM k k (i + 1)) := by
  have hm := Nat.mod_lt (i + 1) (show 0 < k by omega)
  have hs : (rgM k k i).sound (7, (((i + 1) % k : Nat) : Int)) = true := sound_obj (by omega) (by simp only [rgM, rgL_len]; omega)
  unfold Sm.set
  rw [if_pos (rgM_ref h), rgM_ob h, if_pos (by simp [rgO, mkOb]), if_pos hs]
  congr 1
  simp only [rgM]
  congr 1
  refine List.ext_getElem? fun j => ?_
  rw [List.getElem?_set]
  by_cases e : i = j
  · subst e
    simp only [Int.toNat_natCast, if_pos, rgL_len, if_pos h, rgL_get h]
    simp [rgO, mkOb]
  · rw [if_neg (by simpa using e)]
    rcases Nat.lt_or_ge j k with h1 | h1
    · rw [rgL_get h1, rgL_get h1]
      have : j < i + 1 ↔ j < i := by omega
      simp only [rgO, this]
    · rw [List.getElem?_eq_none (by rw [rgL_len]; exact h1), List.getElem?_eq_none (by rw [rgL_len]; exact h1)]
theorem rgM_get {k j : Nat} (h : j < k) : (rgM k k k).get (7, (j : Int)) 0 = ((7, (((j + 1) % k : Nat) : Int)), 0) := by
  unfold Sm.get
  rw [if_pos (rgM_ref h), rgM_ob h, if_pos (by simp [rgO, mkOb])]
  simp [rgO, mkOb, h]
theorem rgM_reach {k : Nat} (hk : 2 ≤ k) (i : Nat) : Reach (rgM k k k) [(7, ((k / 2 : Nat) : Int)), (7, 0)] i ↔ i < k := by
  constructor
  · intro h
    induction h with
    | root hv h7 => simp at hv; rcases hv with rfl | rfl <;> simp <;> omega
    | @step i o v hi ho hv h7 ih =>
      simp only [rgM, rgL_get ih] at ho
      cases ho
      simp only [rgO, mkOb, if_pos ih, List.mem_singleton] at hv
      subst hv
      exact Nat.mod_lt (i + 1) (show 0 < k by omega)
  · induction i with
    | zero => intro _; exact Reach.root (v := (7, 0)) (by simp) rfl
    | succ i ih =>
      intro h
      have h1 := ih (by omega)
      have := Reach.step h1 (o := rgO k k i) (by simp only [rgM]; exact rgL_get (by omega)) (v := (7, (((i + 1) % k : Nat) : Int))) (by simp only [rgO, mkOb]; rw [if_pos (by omega)]; simp) rfl
      rw [Int.toNat_natCast, Nat.mod_eq_of_lt h] at this
      exact this
theorem rgL_take (k i : Nat) {n j : Nat} (h : j ≤ n) : (rgL k n i).take j = rgL k j i := by
  simp [rgL, ← List.map_take, List.take_range, Nat.min_eq_left h]
theorem rgM_collect {k : Nat} (hk : 2 ≤ k) {s : List Bool} (hl : s.length = (rgM k k k).objs.length) (hs : ∀ i, s.getD i false = true ↔ Reach (rgM k k k) [(7, ((k / 2 : Nat) : Int)), (7, 0)] i) :
    (rgM k k k).collect s = rgM k k k ∧ ∀ j : Nat, j < k → mv (place (rgM k k k) s) (7, (j : Int)) = (7, (j : Int)) := by
  have hs' : ∀ i, s.getD i false = true ↔ i < k := fun i => (hs i).trans (rgM_reach hk i)
  simp only [rgM, rgL_len] at hl
  have ho : (rgM k k k).objs = rgL k k k := rfl
  have hkk : ∀ j, j ≤ k → keepP (rgL k j k) s = rgL k j k := fun j hj => by
    rw [keepP_prefix _ s j (by rw [rgL_len]; omega) fun i hi => by rw [rgL_len] at hi; rw [hs']; omega]
    exact rgL_take _ _ (Nat.le_refl _)
  have hp : ∀ j : Nat, j < k → mv (place (rgM k k k) s) (7, (j : Int)) = (7, (j : Int)) := by
    intro j hj
    unfold mv
    rw [if_pos rfl]
    have hjk : j < (rgM k k k).objs.length := by rw [ho, rgL_len]; exact hj
    simp only [place, placeTo, Int.toNat_natCast, List.getD_eq_getElem?_getD, List.getElem?_map, List.getElem?_range hjk, Option.map_some, Option.getD_some]
    rw [if_pos ⟨hjk, by rw [← List.getD_eq_getElem?_getD, hs']; exact hj⟩, ho, rgL_take _ _ (by omega), hkk j (by omega), rgL_len]
  refine ⟨?_, hp⟩
  have hm : (rgL k k k).map (mvOb (place (rgM k k k) s)) = rgL k k k := by
    unfold rgL
    rw [List.map_map]
    refine List.map_congr_left fun j hj => ?_
    rw [List.mem_range] at hj
    simp only [Function.comp, rgO, mvOb, mkOb]
    congr 1
    have := hp ((j + 1) % k) (Nat.mod_lt _ (by omega))
    simp only [if_pos hj, List.map_cons, List.map_nil, this]
  unfold Sm.collect
  rw [ho, hkk k (Nat.le_refl _), hm, rgL_total]
  simp only [rgM]
  congr 1
theorem none_collect (m : Sm) {s : List Bool} (hl : s.length = m.objs.length) (hs : ∀ i, s.getD i false = true ↔ Reach m [] i) : m.collect s = ⟨m.lim, 0, [], m.names⟩ := by
  have hr : ∀ i, ¬ Reach m [] i := by
    intro i h
    induction h with
    | root hv => simp at hv
    | step _ _ _ _ ih => exact ih
  have hk : keepP m.objs s = [] := by
    rw [keepP_prefix _ s 0 (by omega) fun i _ => (hs i).trans ⟨fun h => absurd h (hr i), fun h => by omega⟩]
    simp
  unfold Sm.collect
  rw [hk]
  rfl
end Go.Proofs.Ytngldjajfpbmbaa.A
