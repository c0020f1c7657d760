/- Regions whose order is drawn, go on: whatever the order, what the plan says. -/
import Derived.Test.YtliakckflcoffaaDoorAbsM
set_option linter.unusedVariables false
set_option linter.unusedSimpArgs false
namespace Go.Abs
open Go

abbrev Lst := Array Bool
def lon (l : Lst) (i : Nat) : Bool := l.getD i false
theorem lon_set (l : Lst) (i j : Nat) (hi : i < l.size) : lon (l.setIfInBounds i true) j = if j = i then true else lon l j := by
  unfold lon
  rw [Array.getD_eq_getD_getElem?, Array.getD_eq_getD_getElem?, Array.getElem?_setIfInBounds]
  by_cases e : j = i
  · subst e; simp [hi]
  · rw [if_neg (Ne.symm e), if_neg e]

section
variable {P : Program} {ops : Array Oper} {pl : List (Nat × List Nat)}

theorem plan_at : ∀ {pl : List (Nat × List Nat)} {l1 : List Nat}, planGo P ops l1 pl = true → ∀ (pre : List (Nat × List Nat)) (i : Nat) (R : List Nat) (suf : List (Nat × List Nat)), pl = pre ++ (i, R) :: suf → planAt P ops (l1 ++ pre.map (·.1)) i R (suf.map (·.1)) = true := by
  intro pl
  induction pl with
  | nil => intro l1 h pre i R suf e; simp at e
  | cons x r ih =>
    intro l1 h pre i R suf e
    obtain ⟨j, R'⟩ := x
    simp only [planGo, Bool.and_eq_true] at h
    cases pre with
    | nil =>
      simp only [List.nil_append, List.cons.injEq, Prod.mk.injEq] at e
      obtain ⟨⟨rfl, rfl⟩, rfl⟩ := e
      simpa using h.1
    | cons y pre =>
      simp only [List.cons_append, List.cons.injEq] at e
      obtain ⟨rfl, rfl⟩ := e
      have := ih h.2 pre i R suf rfl
      simpa using this

structure PlanFacts (P : Program) (ops : Array Oper) (l1 : List Nat) (i : Nat) (R l2 : List Nat) : Prop where
  lt : i < ops.size
  once : i ∉ l1
  preds : ∀ p ∈ preds ops i, p ∈ l1
  self : ∀ d, odst ops i = some d → d ∉ olooks ops i
  looks : ∀ j, j ∈ l2 → ∀ d, odst ops j = some d → d ∈ olooks ops i → isEff P ops j = true ∧ reaches ops ops.size i j = true
  before : ∀ j ∈ l1, ∀ d, odst ops j = some d → d ∈ olooks ops i → reaches ops ops.size j i = true
  apart : ∀ j ∈ l1, ∀ d d', odst ops j = some d → odst ops i = some d' → d ≠ d'
  eff : ∀ j ∈ l1, isEff P ops j = true → reaches ops ops.size j i = true
  again : isEff P ops i = true → ∀ j ∈ l1, isReadNew P ops j = true → j ∈ R ∨ reaches ops ops.size j i = true

theorem planFacts {l1 : List Nat} {i : Nat} {R l2 : List Nat} (h : planAt P ops l1 i R l2 = true) : PlanFacts P ops l1 i R l2 := by
  simp only [planAt, Bool.and_eq_true, List.all_eq_true, List.contains_iff_mem, Bool.or_eq_true, Bool.not_eq_true'] at h
  obtain ⟨⟨⟨⟨⟨hlt, h0⟩, h1⟩, hs⟩, h2⟩, h3⟩ := h
  refine ⟨Nat.le_of_ble_eq_true hlt, by simpa using h0, h1, fun d hd hmem => ?_, fun j hj d hd hmem => ?_, fun j hj d hd hmem => ?_, fun j hj d d' hd hd' he => ?_, fun j hj he => ?_, fun hi j hj hr => ?_⟩
  · rw [hd] at hs
    simp [hmem] at hs
  · have := h2 j hj
    rw [hd] at this
    simpa [hmem] using this
  · have := (h3 j hj).1.1.1
    rw [hd] at this
    simpa [hmem] using this
  · have := (h3 j hj).1.1.2
    rw [hd, hd'] at this
    simp [he] at this
  · have := (h3 j hj).1.2
    rcases this with h | h
    · rw [he] at h; cases h
    · exact h
  · have := (h3 j hj).2
    rcases this with ((h | h) | h) | h
    · rw [hi] at h; cases h
    · rw [hr] at h; cases h
    · exact .inl h
    · exact .inr h

/-- What is behind what is listed is listed. -/
theorem reaches_on {l : Lst} (hcl : ∀ j, lon l j = true → ∀ p ∈ preds ops j, lon l p = true) : ∀ (f i j : Nat), (∀ p ∈ preds ops j, lon l p = true) → reaches ops f i j = true → lon l i = true
  | 0, i, j, hj, h => by simp [reaches] at h
  | f + 1, i, j, hj, h => by
    simp only [reaches, Bool.or_eq_true, List.contains_iff_mem, List.any_eq_true] at h
    rcases h with h | ⟨p, hp, h⟩
    · exact hj i h
    · exact reaches_on hcl f i p (fun q hq => hcl p (hj p hp) q hq) h

theorem mem_ready {l : Lst} (hs : l.size = ops.size) {i : Nat} (h : i ∈ Region.ready .any ops l) : i < ops.size ∧ lon l i = false ∧ ∀ p ∈ preds ops i, lon l p = true := by
  simp only [Region.ready, List.mem_filter, List.mem_range, Bool.and_eq_true, Bool.not_eq_true'] at h
  obtain ⟨hi, h1, h2⟩ := h
  refine ⟨hi, ?_, ?_⟩
  · unfold lon
    simp only [Array.getD_eq_getD_getElem?] at h1 ⊢
    rw [Array.getElem?_eq_getElem (by rw [hs]; exact hi)] at h1 ⊢
    simpa using h1
  · intro p hp
    unfold preds at hp
    rw [Array.getElem?_eq_getElem hi] at h2 hp
    simp only [Option.map_some, Option.getD_some, Array.all_eq_true', Bool.or_eq_true, Bool.not_eq_true'] at h2
    simp only [List.mem_map, List.mem_filter, Array.mem_toList_iff] at hp
    obtain ⟨e, ⟨he, hb⟩, rfl⟩ := hp
    rcases h2 e he with h | h
    · rw [hb] at h; cases h
    · exact h
theorem ready_mem {l : Lst} (hs : l.size = ops.size) {i : Nat} (hi : i < ops.size) (h1 : lon l i = false) (h2 : ∀ p ∈ preds ops i, lon l p = true) : i ∈ Region.ready .any ops l := by
  simp only [Region.ready, List.mem_filter, List.mem_range, Bool.and_eq_true, Bool.not_eq_true']
  refine ⟨hi, ?_, ?_⟩
  · unfold lon at h1
    simp only [Array.getD_eq_getD_getElem?] at h1 ⊢
    rw [Array.getElem?_eq_getElem (by rw [hs]; exact hi)] at h1 ⊢
    simpa using h1
  · unfold preds at h2
    rw [Array.getElem?_eq_getElem hi] at h2 ⊢
    simp only [Option.map_some, Option.getD_some, Array.all_eq_true', Bool.or_eq_true, Bool.not_eq_true']
    intro e he
    cases hb : Region.binds .any e with
    | false => exact .inl rfl
    | true => exact .inr (h2 e.on (by simp only [List.mem_map, List.mem_filter, Array.mem_toList_iff]; exact ⟨e, ⟨he, hb⟩, rfl⟩))

/-- An operation that was done here ahead of where it is done there. -/
def PendQ (P : Program) (ops : Array Oper) (i : Nat) (a : ATmps) (H : AHeap) : Prop :=
  ∃ o, ops[i]? = some o ∧ aopG P ops o a H fun v H' => H' = H ∧ ∀ d, o.dst = some d → v = a d
def PendN (P : Program) (ops : Array Oper) (i b : Nat) (a : ATmps) (H : AHeap) : Prop :=
  ∃ o blk v, ops[i]? = some o ∧ cls P o.op = .new ∧ (∀ (H2 : AHeap), H2.next = b → aopG P ops o a H2 fun u H' => u = v ∧ H' = H2.alloc blk) ∧ H.at_ b = blk ∧ blkOf v = b ∧ ∀ d, o.dst = some d → v = a d

open Classical in
/-- What is not done there yet says nothing. -/
noncomputable def pois (ops : Array Oper) (l1 : List Nat) (l : Lst) (a : ATmps) : ATmps := fun t => if ∃ i, i ∈ l1 ∧ lon l i = false ∧ odst ops i = some t then poison else a t

structure DI (P : Program) (ops : Array Oper) (pl : List (Nat × List Nat)) (n N B : Nat) (φ0 : Phi) (H0 : AHeap) (w0 : World) (pre suf : List (Nat × List Nat)) (l : Lst) (a : ATmps) (H : AHeap) (act : Act) (w : World) (φ : Phi) (nw : Nat → Prop) (bo : Nat → Nat) : Prop where
  split : pl = pre ++ suf
  size : l.size = ops.size
  sub : ∀ i, lon l i = true → i ∈ pre.map (·.1)
  effd : ∀ i ∈ pre.map (·.1), isEff P ops i = true → lon l i = true
  closed : ∀ j, lon l j = true → ∀ p ∈ preds ops j, lon l p = true
  pendQ : ∀ i ∈ pre.map (·.1), lon l i = false → ¬ nw i → PendQ P ops i a H
  pendN : ∀ i ∈ pre.map (·.1), lon l i = false → nw i → PendN P ops i (bo i) a H ∧ φ (bo i) = none ∧ N ≤ bo i ∧ bo i < H.next
  uniq : ∀ i ∈ pre.map (·.1), lon l i = false → nw i → ∀ j ∈ pre.map (·.1), lon l j = false → nw j → bo i = bo j → i = j
  step : Step P.globals.size B φ0 H0 w0 φ H w
  base : N = H0.next
  tmps : ATRel φ n (pois ops (pre.map (·.1)) l a) act

theorem Phi.upd_le {φ : Phi} {b : Nat} {p : Option (Option Place)} (h : φ b = none) : φ.le (φ.upd b p) := Phi.le_upd φ p h

theorem looks_congr {o : Oper} {i : Nat} (ho : ops[i]? = some o) {a a' : ATmps} (h : ∀ t ∈ olooks ops i, a t = a' t) {H : AHeap} {K : Value → AHeap → Prop} (hk : aopG P ops o a H K) : aopG P ops o a' H K := by
  have hl : olooks ops i = o.looksAt ops := by simp [olooks, ho]
  rw [hl] at h
  have hop : ∀ t, Operand.tmp t ∈ o.op.operands.toList → a t = a' t := fun t ht => h t (by
    simp only [Oper.looksAt, List.mem_append, List.mem_filterMap]
    exact .inl ⟨_, ht, rfl⟩)
  unfold aopG at hk ⊢
  split at hk
  · rename_i hg; exact aopK_congr hop hk
  · rename_i j want hg
    have hgv : gval ops a j = gval ops a' j := by
      unfold gval
      cases hj : ops[j]? with
      | none => rfl
      | some oj =>
        cases hd : oj.dst with
        | none => simp only [hd]
        | some d =>
          simp only [hd]
          exact h d (by simp only [Oper.looksAt, List.mem_append]; exact .inr (by simp [hg, hj, hd]))
    rw [← hgv]
    unfold aGuardK at hk ⊢
    split at hk
    · rename_i b hb
      split at hk
      · rename_i hbw
        first | (rw [hb]; simp only [if_pos hbw]; exact aopK_congr hop hk) | (simp only [hb, if_pos hbw]; exact aopK_congr hop hk)
      · rename_i hbw
        first | (rw [hb]; simp only [if_neg hbw]; exact hk) | (simp only [hb, if_neg hbw]; exact hk)
    · exact hk
    · exact hk.elim
end
end Go.Abs
