/- Contracts of functions that the statement reaches; each theorem carries its own conditions, the last theorem of the claim has none. -/
import Derived.Test.YtngldjajfpbmbaaS13
set_option linter.unusedVariables false
set_option linter.unusedSimpArgs false
namespace Go.Proofs.Ytngldjajfpbmbaa.A
open Go Go.Abs

theorem keepP_prefix {α : Type} : ∀ (xs : List α) (s : List Bool) (c : Nat), xs.length ≤ s.length → (∀ i, i < xs.length → (s.getD i false = true ↔ i < c)) → keepP xs s = xs.take c
  | [], s, c, _, _ => by simp [keepP_nil]
  | x :: xs, [], c, h, _ => by simp at h
  | x :: xs, b :: bs, c, h, hi => by
    have h0 := hi 0 (by simp)
    simp at h0
    cases c with
    | zero =>
      have hb : b = false := by cases b; rfl; simp at h0
      subst hb
      simp only [keepP, List.take_zero]
      have := keepP_prefix xs bs 0 (by simpa using h) fun i hi' => by have := hi (i + 1) (by simp; omega); simpa using this
      simpa using this
    | succ c =>
      have hb : b = true := h0.2 (by omega)
      subst hb
      have := keepP_prefix xs bs c (by simpa using h) fun i hi' => by have := hi (i + 1) (by simp; omega); simpa using this
      simp [keepP, this]

/-- A chain of pairs. -/
def lastV (i : Nat) : V := if i = 0 then (0, 0) else (7, (i : Int) - 1)
def chO (j : Nat) : Ob := mkOb 1 [(4, (j : Int)), lastV j]
def chL (i : Nat) : List Ob := (List.range i).map chO
def bxO : Ob := mkOb 1 [(0, 0), (0, 0)]
/-- A chain, and pairs of nothing behind it. -/
def chM (lim : Int) (i r : Nat) : Sm := ⟨lim, 3 * ((i : Int) + r), chL i ++ List.replicate r bxO, []⟩
def allV (i : Nat) : List V := (List.range i).map fun (j : Nat) => ((7 : Int), (j : Int))
theorem chL_len (i : Nat) : (chL i).length = i := by simp [chL]
theorem allV_len (i : Nat) : (allV i).length = i := by simp [allV]
theorem chL_succ (i : Nat) : chL (i + 1) = chL i ++ [chO i] := by simp [chL, List.range_succ]
theorem allV_succ (i : Nat) : allV (i + 1) = allV i ++ [(7, (i : Int))] := by simp [allV, List.range_succ]
theorem chO_cells (j : Nat) : (chO j).cells = 3 := rfl
theorem chL_total : ∀ i : Nat, total (chL i) = 3 * i
  | 0 => rfl
  | i + 1 => by rw [chL_succ, total_append, chL_total i]; simp [total, chO_cells]; omega
theorem rep_total : ∀ r : Nat, total (List.replicate r bxO) = 3 * r
  | 0 => rfl
  | r + 1 => by rw [List.replicate_succ', total_append, rep_total r]; simp [total, bxO, mkOb, Ob.cells]; omega
theorem chM_inv {lim : Int} {i r : Nat} (h : 3 * ((i : Int) + r) ≤ lim) (hl : lim ≤ 1048576) : Inv (chM lim i r) := by
  refine ⟨?_, h, hl⟩
  simp only [chM, total_append, chL_total, rep_total]
  omega
theorem chM_len (lim : Int) (i r : Nat) : (chM lim i r).objs.length = i + r := by simp [chM, chL_len]
theorem chM_vd (lim : Int) (i r : Nat) : Vd (chM lim i r) := by
  refine ⟨fun o ho v hv h7 => ?_, fun o ho h10 => ?_⟩
  · rw [chM_len]
    simp only [chM] at ho
    rcases List.mem_append.1 ho with ho | ho
    · simp only [chL, List.mem_map, List.mem_range] at ho
      obtain ⟨j, hj, rfl⟩ := ho
      simp [chO, mkOb] at hv
      rcases hv with rfl | rfl
      · simp at h7
      · unfold lastV at h7 ⊢
        split
        · rename_i h0; rw [if_pos h0] at h7; simp at h7
        · simp; omega
    · obtain ⟨_, rfl⟩ := List.mem_replicate.1 ho
      simp [bxO, mkOb] at hv
      rw [hv] at h7
      simp at h7
  · simp only [chM] at ho
    rcases List.mem_append.1 ho with ho | ho
    · simp only [chL, List.mem_map, List.mem_range] at ho
      obtain ⟨j, hj, rfl⟩ := ho
      simp [chO, mkOb] at h10
    · obtain ⟨_, rfl⟩ := List.mem_replicate.1 ho
      simp [bxO, mkOb] at h10
theorem sound_obj {m : Sm} {n : Int} (h : 0 ≤ n) (h' : n < m.objs.length) : m.sound (7, n) = true := by
  simp [Sm.sound, okRef, h, h']
theorem chM_make {lim : Int} {i : Nat} (h : 3 * ((i : Int) + 1) ≤ lim) : (chM lim i 0).make 1 [(4, (i : Int)), lastV i] = (((7, (i : Int)), 0), chM lim (i + 1) 0) := by
  have h1 : (chM lim i 0).sound (4, (i : Int)) = true := by simp [Sm.sound]
  have h2 : (chM lim i 0).sound (lastV i) = true := by
    unfold lastV
    split
    · simp [Sm.sound]
    · exact sound_obj (by omega) (by rw [chM_len]; omega)
  have h3 : ¬ (chM lim i 0).lim - (chM lim i 0).used < ((mkOb 1 [(4, (i : Int)), lastV i]).cells : Int) := by
    simp only [chM, mkOb, Ob.cells]
    simp
    omega
  unfold Sm.make
  rw [if_pos (by simp [shaped]), if_pos (by simp [h1, h2]), if_neg h3, chM_len]
  congr 1
  simp only [Sm.put, chM, chL_succ, List.replicate_zero, List.append_nil]
  congr 1
theorem chM_make2 {lim : Int} {i r : Nat} (h : 3 * ((i : Int) + r + 1) ≤ lim) : (chM lim i r).make 1 [(0, 0), (0, 0)] = (((7, ((i + r : Nat) : Int)), 0), chM lim i (r + 1)) := by
  have h1 : (chM lim i r).sound (0, 0) = true := by simp [Sm.sound]
  have h3 : ¬ (chM lim i r).lim - (chM lim i r).used < ((mkOb 1 [(0, 0), (0, 0)]).cells : Int) := by
    simp only [chM, mkOb, Ob.cells]
    simp
    omega
  unfold Sm.make
  rw [if_pos (by simp [shaped]), if_pos (by simp [h1]), if_neg h3, chM_len]
  congr 1
  simp only [Sm.put, chM, List.replicate_succ', List.append_assoc]
  congr 1
theorem chM_full {lim : Int} {i r : Nat} (h : 3 * ((i : Int) + r) = lim) : (chM lim i r).make 2 [] = (((0, 0), 16), chM lim i r) := by
  have h3 : (chM lim i r).lim - (chM lim i r).used < ((mkOb 2 []).cells : Int) := by
    simp only [chM, mkOb, Ob.cells]
    simp
    omega
  unfold Sm.make
  rw [if_pos (by simp [shaped]), if_pos (by simp), if_pos h3]
theorem chL_get {i j : Nat} (h : j < i) : (chL i)[j]? = some (chO j) := by simp [chL, h]
theorem chM_get {lim : Int} {i j : Nat} (h : j < i) : (chM lim i 0).get (7, (j : Int)) 0 = ((4, (j : Int)), 0) ∧ (chM lim i 0).get (7, (j : Int)) 1 = (lastV j, 0) := by
  have h1 : okRef (chM lim i 0) (7, (j : Int)) = true := by rw [okRef_iff, chM_len]; simp; omega
  have h2 : (chM lim i 0).ob (7, (j : Int)) = chO j := by
    simp only [Sm.ob, chM, List.replicate_zero, List.append_nil, Int.toNat_natCast, List.getD_eq_getElem?_getD, chL_get h, Option.getD_some]
  unfold Sm.get
  rw [h2]
  simp [h1, chO, mkOb]
theorem chM_reach {lim : Int} {k a : Nat} (ha : a < k) (i : Nat) : Reach (chM lim k 0) [(7, (a : Int))] i ↔ i < a + 1 := by
  constructor
  · intro h
    induction h with
    | root hv h7 => simp at hv; subst hv; simp
    | @step i o v hi ho hv h7 ih =>
      simp only [chM, List.replicate_zero, List.append_nil] at ho
      rw [chL_get (by omega)] at ho
      cases ho
      simp [chO, mkOb] at hv
      rcases hv with rfl | rfl
      · simp at h7
      · unfold lastV at h7 ⊢
        split
        · rename_i h0; rw [if_pos h0] at h7; simp at h7
        · simp; omega
  · intro h
    have : ∀ d, d ≤ a → Reach (chM lim k 0) [(7, (a : Int))] (a - d) := by
      intro d
      induction d with
      | zero => intro _; have := Reach.root (m := chM lim k 0) (roots := [(7, (a : Int))]) (v := (7, (a : Int))) (by simp) rfl; simpa using this
      | succ d ih =>
        intro hd
        have h1 := ih (by omega)
        have ho : (chM lim k 0).objs[a - d]? = some (chO (a - d)) := by
          simp only [chM, List.replicate_zero, List.append_nil]
          exact chL_get (by omega)
        have := Reach.step h1 ho (v := lastV (a - d)) (by simp [chO, mkOb]) (by unfold lastV; rw [if_neg (by omega)])
        have e : (lastV (a - d)).2.toNat = a - (d + 1) := by unfold lastV; rw [if_neg (by omega)]; simp; omega
        rwa [e] at this
    have := this (a - i) (by omega)
    rwa [show a - (a - i) = i by omega] at this
theorem chL_take {i j : Nat} (h : j ≤ i) : (chL i).take j = chL j := by
  simp [chL, ← List.map_take, List.take_range, Nat.min_eq_left h]
theorem chM_collect {lim : Int} {k a : Nat} (ha : a < k) {s : List Bool} (hl : s.length = (chM lim k 0).objs.length) (hs : ∀ i, s.getD i false = true ↔ Reach (chM lim k 0) [(7, (a : Int))] i) :
    (chM lim k 0).collect s = chM lim (a + 1) 0 ∧ mv (place (chM lim k 0) s) (7, (a : Int)) = (7, (a : Int)) := by
  have hs' : ∀ i, s.getD i false = true ↔ i < a + 1 := fun i => (hs i).trans (chM_reach ha i)
  rw [chM_len] at hl
  have ho : (chM lim k 0).objs = chL k := by simp [chM]
  have hk : ∀ j, j ≤ a + 1 → keepP (chL j) s = chL j := fun j hj => by
    rw [keepP_prefix _ s j (by rw [chL_len]; omega) fun i hi => by rw [chL_len] at hi; rw [hs']; omega]
    exact chL_take (Nat.le_refl _)
  have hk2 : keepP (chL k) s = chL (a + 1) := by
    rw [keepP_prefix _ s (a + 1) (by rw [chL_len]; omega) fun i _ => hs' i]
    exact chL_take (by omega)
  have hp : ∀ j : Nat, j ≤ a → mv (place (chM lim k 0) s) (7, (j : Int)) = (7, (j : Int)) := by
    intro j hj
    unfold mv
    rw [if_pos rfl]
    have hjk : j < (chM lim k 0).objs.length := by rw [chM_len]; omega
    simp only [place, placeTo, Int.toNat_natCast, List.getD_eq_getElem?_getD, List.getElem?_map, List.getElem?_range hjk, Option.map_some, Option.getD_some]
    rw [if_pos ⟨hjk, by rw [← List.getD_eq_getElem?_getD, hs']; omega⟩, ho, chL_take (by omega), hk j (by omega), chL_len]
  refine ⟨?_, hp a (Nat.le_refl _)⟩
  have hm : (chL (a + 1)).map (mvOb (place (chM lim k 0) s)) = chL (a + 1) := by
    unfold chL
    rw [List.map_map]
    refine List.map_congr_left fun j hj => ?_
    rw [List.mem_range] at hj
    simp only [Function.comp, chO, mvOb, mkOb]
    congr 1
    have e1 : mv (place (chM lim k 0) s) (4, (j : Int)) = (4, (j : Int)) := by unfold mv; rw [if_neg (by simp)]
    have e2 : mv (place (chM lim k 0) s) (lastV j) = lastV j := by
      unfold lastV
      split
      · unfold mv; rw [if_neg (by simp)]
      · have := hp (j - 1) (by omega)
        rwa [show ((j - 1 : Nat) : Int) = (j : Int) - 1 by omega] at this
    simp [e1, e2]
  unfold Sm.collect
  rw [ho, hk2, hm, chL_total]
  simp only [chM, List.replicate_zero, List.append_nil]
  congr 1
end Go.Proofs.Ytngldjajfpbmbaa.A
