/- Contracts of functions that the statement reaches; each theorem carries its own conditions, the last theorem of the claim has none. -/
import Derived.Test.YtngldjajfpbmbaaS19
set_option linter.unusedVariables false
set_option linter.unusedSimpArgs false
namespace Go.Proofs.Ytngldjajfpbmbaa.A
open Go Go.Abs

def Sm.kindOf (m : Sm) (v : V) : Int := if okRef m v then (m.ob v).kind else 0
def Sm.slotsOf (m : Sm) (v : V) : List V := if okRef m v then (m.ob v).slots else []
theorem c36 {H : AHeap} {p : Nat} {m : Sm} {F : Nat → Prop} (h : St H p m F) (v : V) : ACalls Try.prog 36 [Pt p, vV v] H fun r H' => r = .int .i64 (m.kindOf v) ∧ H' = H := by
  refine ACalls.eq (S36_calls ?_) rfl
  obtain ⟨A, os, NA, mb, h⟩ := h
  unfold S36 Sm.kindOf
  have hk : ∀ x, Keep H.next H (H.alloc x) := fun x => (Keep.refl _ _).alloc (Nat.le_refl _) _
  have hx : ∀ x, StX (H.alloc x) p m F A os NA mb := fun x => h.frame (hk x).next fun b hb => (hk x).at_ b (h.lt b hb)
  simp [at_alloc]
  refine (c62 (hx _) v).use ?_
  cases hv : okRef m v with
  | false => simp [hk]
  | true =>
    obtain ⟨a, b, cs, ho, ha, hs, hb, hat, hl, hc, hsl⟩ := h.look hv
    have hne : b ≠ H.next := by omega
    have h0 := hc 0 (by omega)
    simp [encO] at h0
    simp [hs, at_alloc, hne, hat, h0, hk]
theorem c37 {H : AHeap} {p : Nat} {m : Sm} {F : Nat → Prop} (h : St H p m F) (v : V) : ACalls Try.prog 37 [Pt p, vV v] H fun r H' => r = .int .i64 (m.slotsOf v).length ∧ H' = H := by
  refine ACalls.eq (S37_calls ?_) rfl
  obtain ⟨A, os, NA, mb, h⟩ := h
  unfold S37 Sm.slotsOf
  have hk : ∀ x, Keep H.next H (H.alloc x) := fun x => (Keep.refl _ _).alloc (Nat.le_refl _) _
  have hx : ∀ x, StX (H.alloc x) p m F A os NA mb := fun x => h.frame (hk x).next fun b hb => (hk x).at_ b (h.lt b hb)
  simp [at_alloc]
  refine (c62 (hx _) v).use ?_
  cases hv : okRef m v with
  | false => simp [hk]
  | true =>
    obtain ⟨a, b, cs, ho, ha, hs, hb, hat, hl, hc, hsl⟩ := h.look hv
    have hne : b ≠ H.next := by omega
    have h0 := hc 1 (by omega)
    simp [encO] at h0
    simp [hs, at_alloc, hne, hat, h0, hk]
theorem get_slots {m : Sm} {v : V} {i : Nat} (h : i < (m.slotsOf v).length) : (m.get v i).1 = (m.slotsOf v)[i] := by
  cases hv : okRef m v with
  | true =>
    have e : m.slotsOf v = (m.ob v).slots := by unfold Sm.slotsOf; rw [if_pos hv]
    have h' : i < (m.ob v).slots.length := by rw [← e]; exact h
    have e2 : (m.get v i).1 = (m.ob v).slots[i] := by
      unfold Sm.get
      rw [if_pos hv, if_pos (by omega)]
      simp [List.getD_eq_getElem?_getD, h']
    rw [e2]
    simp only [e]
  | false =>
    have e : m.slotsOf v = [] := by unfold Sm.slotsOf; rw [hv]; rfl
    simp only [e] at h
    simp at h
/-- Eqv. -/
def Sm.eqv (m : Sm) (a b : V) : Bool := decide (a = b) || (decide (m.kindOf a = 5 ∧ m.kindOf b = 5) && decide (m.slotsOf a = m.slotsOf b))
theorem c22 {H : AHeap} {p : Nat} {m : Sm} {F : Nat → Prop} (h : St H p m F) (hl : ∀ v, (m.slotsOf v).length ≤ 1048576) (a b : V) : ACalls Try.prog 22 [Pt p, vV a, vV b] H fun r H' => r = .bool (m.eqv a b) ∧ H' = H := by
  refine ACalls.eq (S22_calls ?_) rfl
  unfold S22 Sm.eqv
  have hk2 : ∀ x y, Keep H.next H ((H.alloc x).alloc y) := fun x y => ((Keep.refl _ _).alloc (Nat.le_refl _) _).alloc (by simp) _
  have ea : ∀ x y, aLdAgg 2 (Pt H.next) ((H.alloc (.cells (vcells (vV x)) .var 28)).alloc y) = some (vV x) := by intro x y; simp [at_alloc]
  have eb : ∀ x y, aLdAgg 2 (Pt (H.next + 1)) ((H.alloc y).alloc (.cells (vcells (vV x)) .var 28)) = some (vV x) := by intro x y; simp [at_alloc]
  simp only [aBox_eq, AHeap.next_alloc, ea, eb, bnd_some', eqV]
  refine ⟨by simp, by simp, ?_⟩
  obtain ⟨G, hG⟩ : ∃ X, X = ((H.alloc (.cells (vcells (vV a)) .var 28)).alloc (.cells (vcells (vV b)) .var 28)) := ⟨_, rfl⟩
  have ga : aLdAgg 2 (Pt H.next) G = some (vV a) := hG ▸ ea _ _
  have gb : aLdAgg 2 (Pt (H.next + 1)) G = some (vV b) := hG ▸ eb _ _
  have hkG : Keep H.next H G := hG ▸ hk2 _ _
  have hGn : G.next = H.next + 2 := by rw [hG]; simp
  simp only [← hG]
  clear hG
  have hS := h.kept hkG
  by_cases hab : a = b
  · simp [hab, hkG]
  simp only [decide_eq_false hab, aCond_false, Bool.false_or]
  refine (c36 hS a).use ?_
  unfold S22_101
  by_cases h1 : m.kindOf a = 5
  · simp only [h1, aBin_neq, bnd_some', decide_true, Bool.not_true, aGuardK_ff, gb]
    refine (c36 hS b).use ?_
    by_cases h2 : m.kindOf b = 5
    · simp only [h2, aBin_neq, bnd_some', decide_true, Bool.not_true, aGuardK_ff, aPick_ff, ga, gb]
      refine (c37 hS a).use ?_
      refine ⟨by simp only [gb, bnd_some'], (c37 hS b).use ?_⟩
      by_cases h3 : (m.slotsOf a).length = (m.slotsOf b).length
      · simp [h3, ga, -aLdAgg_ptr]
        refine (c37 hS a).use ?_
        have hla := hl a
        refine aLoop_st (m.slotsOf a).length (fun i => [.int .i64 i]) (fun i H' => Keep G.next G H' ∧ (m.slotsOf a).take i = (m.slotsOf b).take i) rfl ⟨Keep.refl _ _, rfl⟩ ?_
        rintro i H' again hi ⟨hk, hg⟩ ha
        unfold S22_97
        have hkn := hk.next
        have ga' : aLdAgg 2 (Pt H.next) H' = some (vV a) := by
          have := ga
          rw [aLdAgg_ptr] at this ⊢
          rwa [hk.at_ _ (by omega)]
        have gb' : aLdAgg 2 (Pt (H.next + 1)) H' = some (vV b) := by
          have := gb
          rw [aLdAgg_ptr] at this ⊢
          rwa [hk.at_ _ (by omega)]
        by_cases hlt : i < (m.slotsOf a).length
        · have hlt' : i < (m.slotsOf b).length := by omega
          have w1 := wrap64 (x := (i : Int) + 1) (by omega) (by omega)
          simp [hlt]
          unfold S22_96
          simp only [ga', bnd_some']
          refine (c18 (hS.kept hk) a i).use ?_
          have hk3 : ∀ x y, Keep H'.next H' ((H'.alloc x).upd H'.next y) := fun x y => ((Keep.refl _ _).alloc (Nat.le_refl _) _).upd (Nat.le_refl _) _
          have gb2 : ∀ x y, aLdAgg 2 (Pt (H.next + 1)) ((H'.alloc x).upd H'.next y) = some (vV b) := by
            intro x y
            have := gb'
            rw [aLdAgg_ptr] at this ⊢
            rwa [(hk3 x y).at_ _ (by omega)]
          simp [at_alloc, gb2, -aLdAgg_ptr]
          refine (c18 ((hS.kept hk).kept (hk3 _ _)) b i).use ?_
          unfold S22_95
          have l8 : ∀ x y z w, aLdAgg 2 (Pt H'.next) ((((H'.alloc x).upd H'.next (.cells [.int .i64 y.1, .int .i64 y.2] .var 28)).alloc z).upd (H'.next + 1) w) = some (vV y) := by
            intro x y z w
            simp [at_alloc, at_upd]
          have l10 : ∀ (x : AHeap) (y : V), aLdAgg 2 (Pt (H'.next + 1)) (x.upd (H'.next + 1) (.cells [.int .i64 y.1, .int .i64 y.2] .var 28)) = some (vV y) := by
            intro x y
            simp [at_alloc, at_upd]
          have hk4 : ∀ x y z w, Keep H'.next H' ((((H'.alloc x).upd H'.next y).alloc z).upd (H'.next + 1) w) := fun x y z w => ((hk3 x y).alloc (by simp) _).upd (by omega) _
          simp [at_alloc, l8, l10, -aLdAgg_ptr, neV, w1]
          rw [get_slots hlt, get_slots hlt']
          refine aCond_of (fun hd => ?_) fun hd => ?_
          · simp at hd
            refine ⟨?_, hkG.trans ((hk.trans ((hk4 _ _ _ _).lower hkn)).lower hkG.next)⟩
            simp
            intro e
            apply hd
            simp [e]
          · simp at hd
            simp only [nth_zero, aBin_add, bnd_some', w1]
            refine ha _ hlt ⟨hk.trans ((hk4 _ _ _ _).lower hkn), ?_⟩
            rw [List.take_succ_eq_append_getElem hlt, List.take_succ_eq_append_getElem hlt', hg, hd]
        · have hie : i = (m.slotsOf a).length := by omega
          subst hie
          rw [List.take_length] at hg
          rw [h3, List.take_length] at hg
          simp [h1, h2, hg]
          exact hkG.trans (hk.lower hkG.next)
      · have : ¬ m.slotsOf a = m.slotsOf b := fun e => h3 (by rw [e])
        have h3' : ¬ ((m.slotsOf a).length : Int) = (m.slotsOf b).length := by omega
        simp [h3', this, hkG]
    · simp [h2, hkG]
  · simp [h1, hkG]
end Go.Proofs.Ytngldjajfpbmbaa.A
