/- Contracts of functions that the statement reaches; each theorem carries its own conditions, the last theorem of the claim has none. -/
import Derived.Test.YtngldjajfpbmbaaS23
set_option linter.unusedVariables false
set_option linter.unusedSimpArgs false
namespace Go.Proofs.Ytngldjajfpbmbaa.A
open Go Go.Abs

/-- A tree of so many leaves, from a place on. -/
def upV (base j : Nat) : V := if j = 0 then (0, 0) else (7, (base : Int) + j - 1)
def tO (X : Nat → V) (base j : Nat) : Ob := mkOb 2 [X j, upV base j, X j]
def tL (X : Nat → V) (base i : Nat) : List Ob := (List.range i).map (tO X base)
/-- Two trees: the first done to i, the second to j. -/
def tM (X Y : Nat → V) (L i j : Nat) : Sm := ⟨4000, 4 * ((i : Int) + j), tL X 0 i ++ tL Y L j, []⟩
theorem tL_len (X : Nat → V) (base i : Nat) : (tL X base i).length = i := by simp [tL]
theorem tL_succ (X : Nat → V) (base i : Nat) : tL X base (i + 1) = tL X base i ++ [tO X base i] := by simp [tL, List.range_succ]
theorem tL_total (X : Nat → V) (base : Nat) : ∀ i : Nat, total (tL X base i) = 4 * i
  | 0 => rfl
  | i + 1 => by rw [tL_succ, total_append, tL_total X base i]; simp [total, tO, mkOb, Ob.cells]; omega
theorem tM_len (X Y : Nat → V) (L i j : Nat) : (tM X Y L i j).objs.length = i + j := by simp [tM, tL_len]
theorem tM_inv {X Y : Nat → V} {L i j : Nat} (h : i + j ≤ 400) : Inv (tM X Y L i j) := by
  refine ⟨?_, ?_, by simp [tM]⟩
  · simp only [tM, total_append, tL_total]; omega
  · simp only [tM]; omega
theorem tL_get {X : Nat → V} {base i j : Nat} (h : j < i) : (tL X base i)[j]? = some (tO X base j) := by simp [tL, h]
theorem upV_ix {m : Sm} {base j n : Nat} (h : base + j ≤ m.objs.length) : okIx m (upV base j) := by
  intro h7
  unfold upV at h7 ⊢
  split
  · rename_i h0; rw [if_pos h0] at h7; simp at h7
  · constructor <;> (dsimp only; omega)
theorem tM_vd {X Y : Nat → V} {L i j : Nat} (hX : ∀ n, (X n).1 = 4) (hY : ∀ n, (Y n).1 = 4) (hij : i = L ∨ j = 0) (hi : i ≤ L) : Vd (tM X Y L i j) := by
  refine ⟨fun o ho v hv => ?_, fun o ho h10 => ?_⟩
  · simp only [tM] at ho
    rcases List.mem_append.1 ho with ho | ho
    · simp only [tL, List.mem_map, List.mem_range] at ho
      obtain ⟨n, hn, rfl⟩ := ho
      simp [tO, mkOb] at hv
      rcases hv with rfl | rfl | rfl
      · intro h7; rw [hX] at h7; simp at h7
      · exact upV_ix (n := 0) (by rw [tM_len]; omega)
      · intro h7; rw [hX] at h7; simp at h7
    · simp only [tL, List.mem_map, List.mem_range] at ho
      obtain ⟨n, hn, rfl⟩ := ho
      simp [tO, mkOb] at hv
      rcases hv with rfl | rfl | rfl
      · intro h7; rw [hY] at h7; simp at h7
      · exact upV_ix (n := 0) (by rw [tM_len]; omega)
      · intro h7; rw [hY] at h7; simp at h7
  · simp only [tM] at ho
    rcases List.mem_append.1 ho with ho | ho <;>
    · simp only [tL, List.mem_map, List.mem_range] at ho
      obtain ⟨n, hn, rfl⟩ := ho
      simp [tO, mkOb] at h10
theorem upV_sound {m : Sm} {base j : Nat} (h : base + j ≤ m.objs.length) : m.sound (upV base j) = true := by
  unfold upV
  split
  · simp [Sm.sound]
  · exact sound_obj (by omega) (by omega)
theorem tM_make1 {X Y : Nat → V} {L i : Nat} (hX : ∀ n, (X n).1 = 4) (h : i < 200) : (tM X Y L i 0).make 2 [X i, upV 0 i, X i] = (((7, (i : Int)), 0), tM X Y L (i + 1) 0) := by
  have h1 : (tM X Y L i 0).sound (X i) = true := by simp [Sm.sound, hX]
  have h2 : (tM X Y L i 0).sound (upV 0 i) = true := upV_sound (by rw [tM_len]; omega)
  rw [make_ok (by simp [shaped]) (by simp [h1, h2]) (by simp [tM, mkOb, Ob.cells]; omega), tM_len]
  have e2 : (tM X Y L i 0).put (mkOb 2 [X i, upV 0 i, X i]) = tM X Y L (i + 1) 0 := by
    have e0 : tL Y L 0 = [] := rfl
    simp only [Sm.put, tM, tL_succ, e0, List.append_nil]
    congr 1
  rw [e2]
  rfl
theorem tM_make2 {X Y : Nat → V} {L j : Nat} (hY : ∀ n, (Y n).1 = 4) (hL : L ≤ 200) (h : j < 200) : (tM X Y L L j).make 2 [Y j, upV L j, Y j] = (((7, ((L + j : Nat) : Int)), 0), tM X Y L L (j + 1)) := by
  have h1 : (tM X Y L L j).sound (Y j) = true := by simp [Sm.sound, hY]
  have h2 : (tM X Y L L j).sound (upV L j) = true := upV_sound (by rw [tM_len]; omega)
  rw [make_ok (by simp [shaped]) (by simp [h1, h2]) (by simp [tM, mkOb, Ob.cells]; omega), tM_len]
  have e2 : (tM X Y L L j).put (mkOb 2 [Y j, upV L j, Y j]) = tM X Y L L (j + 1) := by
    simp only [Sm.put, tM, tL_succ, List.append_assoc]
    congr 1
  rw [e2]

section
variable {X Y : Nat → V} {L : Nat}
theorem tM_ob1 {j : Nat} (h : j < L) : okRef (tM X Y L L L) (7, (j : Int)) = true ∧ (tM X Y L L L).ob (7, (j : Int)) = tO X 0 j := by
  refine ⟨by rw [okRef_iff, tM_len]; simp; omega, ?_⟩
  simp only [Sm.ob, tM, Int.toNat_natCast, List.getD_eq_getElem?_getD]
  rw [List.getElem?_append_left (by rw [tL_len]; exact h), tL_get h]
  rfl
theorem tM_ob2 {j : Nat} (h : j < L) : okRef (tM X Y L L L) (7, ((L + j : Nat) : Int)) = true ∧ (tM X Y L L L).ob (7, ((L + j : Nat) : Int)) = tO Y L j := by
  refine ⟨by rw [okRef_iff, tM_len]; simp; omega, ?_⟩
  simp only [Sm.ob, tM, Int.toNat_natCast, List.getD_eq_getElem?_getD]
  rw [List.getElem?_append_right (by rw [tL_len]; omega), tL_len, Nat.add_sub_cancel_left, tL_get h]
  rfl
theorem leaf_kind {v : V} (h : v.1 = 4) : (tM X Y L L L).kindOf v = 0 ∧ (tM X Y L L L).slotsOf v = [] := by
  have : okRef (tM X Y L L L) v = false := by simp [okRef, h]
  simp [Sm.kindOf, Sm.slotsOf, this]
theorem eqv_self (m : Sm) (v : V) : m.eqv v v = true := by simp [Sm.eqv]
theorem tM_node {j : Nat} (h : j < L) : (tM X Y L L L).eqv (7, (j : Int)) (7, ((L + j : Nat) : Int)) = false ∧ (tM X Y L L L).parts (7, (j : Int)) (7, ((L + j : Nat) : Int)) = some [(X j, Y j), (upV 0 j, upV L j), (X j, Y j)] := by
  obtain ⟨a1, a2⟩ := tM_ob1 (X := X) (Y := Y) h
  obtain ⟨b1, b2⟩ := tM_ob2 (X := X) (Y := Y) h
  have k1 : (tM X Y L L L).kindOf (7, (j : Int)) = 2 := by unfold Sm.kindOf; rw [if_pos a1, a2]; rfl
  have k2 : (tM X Y L L L).kindOf (7, ((L + j : Nat) : Int)) = 2 := by unfold Sm.kindOf; rw [if_pos b1, b2]; rfl
  have s1 : (tM X Y L L L).slotsOf (7, (j : Int)) = [X j, upV 0 j, X j] := by unfold Sm.slotsOf; rw [if_pos a1, a2]; rfl
  have s2 : (tM X Y L L L).slotsOf (7, ((L + j : Nat) : Int)) = [Y j, upV L j, Y j] := by unfold Sm.slotsOf; rw [if_pos b1, b2]; rfl
  have ne : ¬ ((7, (j : Int)) : V) = (7, ((L + j : Nat) : Int)) := by intro e; have := congrArg Prod.snd e; dsimp only at this; omega
  refine ⟨?_, ?_⟩
  · unfold Sm.eqv
    rw [k1, decide_eq_false ne]
    rfl
  · unfold Sm.parts
    rw [k1, k2, s1, s2, if_pos ⟨rfl, rfl, .inr (.inl rfl)⟩]
    rfl
theorem up_zero : upV 0 0 = (0, 0) ∧ upV L 0 = (0, 0) := ⟨rfl, rfl⟩
theorem up_succ (j : Nat) : upV 0 (j + 1) = (7, (j : Int)) ∧ upV L (j + 1) = (7, ((L + j : Nat) : Int)) := by
  constructor
  · unfold upV; rw [if_neg (by omega)]; congr 1; omega
  · unfold upV; rw [if_neg (by omega)]; congr 1; omega
theorem run_skip {m : Sm} {a b : V} (h : m.eqv a b = true) (f : Nat) (r : List (V × V)) : m.run (f + 1) ((a, b) :: r) = m.run f r := by simp only [Sm.run, h, if_true]
theorem run_open {m : Sm} {a b : V} {l : List (V × V)} (h : m.eqv a b = false) (h' : m.parts a b = some l) (f : Nat) (r : List (V × V)) : m.run (f + 1) ((a, b) :: r) = m.run f (l ++ r) := by simp only [Sm.run, h, h', Bool.false_eq_true, if_false]
theorem run_no {m : Sm} {a b : V} (h : m.eqv a b = false) (h' : m.parts a b = none) (f : Nat) (r : List (V × V)) : m.run (f + 1) ((a, b) :: r) = (false, f, 0) := by simp only [Sm.run, h, h', Bool.false_eq_true, if_false]
theorem run_down (hXY : ∀ n, n < L → X n = Y n) : ∀ (i f : Nat) (rest : List (V × V)), i < L → (tM X Y L L L).run (f + 2 * (i + 1) + 1) (((7, (i : Int)), (7, ((L + i : Nat) : Int))) :: rest) = (tM X Y L L L).run f (((List.range (i + 1)).map fun j => (X j, Y j)) ++ rest)
  | 0, f, rest, h => by
    obtain ⟨n1, n2⟩ := tM_node (X := X) (Y := Y) h
    have e := hXY 0 h
    rw [show f + 2 * (0 + 1) + 1 = f + 1 + 1 + 1 by omega, run_open n1 n2, List.cons_append, run_skip (by rw [e]; exact eqv_self _ _), List.cons_append, run_skip (by rw [(up_zero (L := L)).1, (up_zero (L := L)).2]; exact eqv_self _ _)]
    rfl
  | i + 1, f, rest, h => by
    obtain ⟨n1, n2⟩ := tM_node (X := X) (Y := Y) h
    have e := hXY (i + 1) h
    have ih := run_down hXY i f ((X (i + 1), Y (i + 1)) :: rest) (by omega)
    rw [show f + 2 * (i + 1 + 1) + 1 = f + 2 * (i + 1) + 1 + 1 + 1 by omega, run_open n1 n2, List.cons_append, run_skip (by rw [e]; exact eqv_self _ _), List.cons_append, (up_succ (L := L) i).1, (up_succ (L := L) i).2]
    rw [List.cons_append, List.nil_append, ih, List.range_succ (n := i + 1)]
    simp
theorem run_same (m : Sm) : ∀ (l : List (V × V)) (f : Nat) (rest : List (V × V)), (∀ x ∈ l, x.1 = x.2) → m.run (f + l.length) (l ++ rest) = m.run f rest
  | [], f, rest, _ => rfl
  | (a, b) :: l, f, rest, h => by
    have e : a = b := h (a, b) (by simp)
    subst e
    simp only [List.length_cons, ← Nat.add_assoc, List.cons_append, Sm.run, eqv_self, if_true]
    exact run_same m l f rest fun x hx => h x (by simp [hx])
theorem run_eq (hXY : ∀ n, n < L → X n = Y n) {i : Nat} (h : i < L) (f : Nat) : (tM X Y L L L).run (f + (i + 1) + 2 * (i + 1) + 1) [((7, (i : Int)), (7, ((L + i : Nat) : Int)))] = (true, f, 0) := by
  rw [run_down hXY i _ _ h]
  have := run_same (tM X Y L L L) ((List.range (i + 1)).map fun j => (X j, Y j)) f [] (by
    intro x hx
    obtain ⟨j, hj, rfl⟩ := List.mem_map.1 hx
    rw [List.mem_range] at hj
    exact hXY j (by omega))
  simp only [List.length_map, List.length_range] at this
  rw [this]
  simp [Sm.run]
theorem run_ne (hX : ∀ n, (X n).1 = 4) (hY : ∀ n, (Y n).1 = 4) {k : Nat} (hk : X k ≠ Y k) : ∀ (d f : Nat) (rest : List (V × V)), k + d < L → (∀ n, k < n → n ≤ k + d → X n = Y n) → (tM X Y L L L).run (f + 2 * d + 2) (((7, ((k + d : Nat) : Int)), (7, ((L + (k + d) : Nat) : Int))) :: rest) = (false, f, 0)
  | 0, f, rest, h, _ => by
    obtain ⟨n1, n2⟩ := tM_node (X := X) (Y := Y) (j := k) (by omega)
    have lx := leaf_kind (X := X) (Y := Y) (L := L) (hX k)
    have ly := leaf_kind (X := X) (Y := Y) (L := L) (hY k)
    have e1 : (tM X Y L L L).eqv (X k) (Y k) = false := by unfold Sm.eqv; rw [decide_eq_false hk, lx.1]; rfl
    have e2 : (tM X Y L L L).parts (X k) (Y k) = none := by
      unfold Sm.parts
      rw [if_neg]
      rintro ⟨_, _, h⟩
      rw [lx.1] at h
      simp at h
    simp only [Nat.add_zero, Nat.mul_zero]
    rw [show f + 2 = f + 1 + 1 by omega, run_open n1 n2, List.cons_append, run_no e1 e2]
  | d + 1, f, rest, h, he => by
    obtain ⟨n1, n2⟩ := tM_node (X := X) (Y := Y) (j := k + (d + 1)) (by omega)
    have e := he (k + (d + 1)) (by omega) (by omega)
    have ih := run_ne hX hY hk d f ((X (k + (d + 1)), Y (k + (d + 1))) :: rest) (by omega) fun n h1 h2 => he n h1 (by omega)
    rw [show f + 2 * (d + 1) + 2 = f + 2 * d + 2 + 1 + 1 by omega, run_open n1 n2, List.cons_append, run_skip (by rw [e]; exact eqv_self _ _), List.cons_append]
    have u := up_succ (L := L) (k + d)
    rw [show k + (d + 1) = k + d + 1 by omega, u.1, u.2]
    exact ih
end
end Go.Proofs.Ytngldjajfpbmbaa.A
