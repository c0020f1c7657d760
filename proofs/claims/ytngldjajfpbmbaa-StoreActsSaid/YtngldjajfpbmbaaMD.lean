/- Contracts of functions that the statement reaches; each theorem carries its own conditions, the last theorem of the claim has none. -/
import Derived.Test.YtngldjajfpbmbaaMC
set_option linter.unusedVariables false
set_option linter.unusedSimpArgs false
namespace Go.Proofs.Ytngldjajfpbmbaa.A
open Go Go.Abs

def Sm.kindOf (m : Sm) (v : V) : Int := if okRef m v then (m.ob v).kind else 0
def Sm.slotsOf (m : Sm) (v : V) : List V := if okRef m v then (m.ob v).slots else []
theorem c36 {H : AHeap} {p : Nat} {m : Sm} {F : Nat → Prop} (h : St H p m F) (v : V) : ACalls Try.prog 36 [Pt p, vV v] H fun r H' => r = .int .i64 (m.kindOf v) ∧ H' = H := by
  refine ACalls.eq (S36_calls ?_) rfl
  obtain ⟨A, os, NA, mb, h⟩ := h
  unfold S36 Sm.kindOf
  have hk : ∀ x, Keep H.next H (H.alloc x) := fun x => (Keep.refl _ _).alloc (Nat.le_refl _) _
  have hx : ∀ x, StX (H.alloc x) p m F A os NA mb := fun x => h.frame (hk x).next fun b hb => (hk x).at_ b (h.lt b hb)
  simp [at_alloc]
  refine (c62 (hx _) v).use ?_
  cases hv : okRef m v with
  | false => simp [hk]
  | true =>
    obtain ⟨a, b, cs, ho, ha, hs, hb, hat, hl, hc, hsl⟩ := h.look hv
    have hne : b ≠ H.next := by omega
    have h0 := hc 0 (by omega)
    simp [encO] at h0
    simp [hs, at_alloc, hne, hat, h0, hk]
theorem c37 {H : AHeap} {p : Nat} {m : Sm} {F : Nat → Prop} (h : St H p m F) (v : V) : ACalls Try.prog 37 [Pt p, vV v] H fun r H' => r = .int .i64 (m.slotsOf v).length ∧ H' = H := by
  refine ACalls.eq (S37_calls ?_) rfl
  obtain ⟨A, os, NA, mb, h⟩ := h
  unfold S37 Sm.slotsOf
  have hk : ∀ x, Keep H.next H (H.alloc x) := fun x => (Keep.refl _ _).alloc (Nat.le_refl _) _
  have hx : ∀ x, StX (H.alloc x) p m F A os NA mb := fun x => h.frame (hk x).next fun b hb => (hk x).at_ b (h.lt b hb)
  simp [at_alloc]
  refine (c62 (hx _) v).use ?_
  cases hv : okRef m v with
  | false => simp [hk]
  | true =>
    obtain ⟨a, b, cs, ho, ha, hs, hb, hat, hl, hc, hsl⟩ := h.look hv
    have hne : b ≠ H.next := by omega
    have h0 := hc 1 (by omega)
    simp [encO] at h0
    simp [hs, at_alloc, hne, hat, h0, hk]
theorem get_slots {m : Sm} {v : V} {i : Nat} (h : i < (m.slotsOf v).length) : (m.get v i).1 = (m.slotsOf v)[i] := by
  cases hv : okRef m v with
  | true =>
    have e : m.slotsOf v = (m.ob v).slots := by unfold Sm.slotsOf; rw [if_pos hv]
    have h' : i < (m.ob v).slots.length := by rw [← e]; exact h
    have e2 : (m.get v i).1 = (m.ob v).slots[i] := by
      unfold Sm.get
      rw [if_pos hv, if_pos (by omega)]
      simp [List.getD_eq_getElem?_getD, h']
    rw [e2]
    simp only [e]
  | false =>
    have e : m.slotsOf v = [] := by unfold Sm.slotsOf; rw [hv]; rfl
    simp only [e] at h
    simp at h
/-- Eqv. -/
def Sm.eqv (m : Sm) (a b : V) : Bool := decide (a = b) || (decide (m.kindOf a = 5 ∧ m.kindOf b = 5) && decide (m.slotsOf a = m.slotsOf b))
theorem c22 {H : AHeap} {p : Nat} {m : Sm} {F : Nat → Prop} (h : St H p m F) (hl : ∀ v, (m.slotsOf v).length ≤ 1048576) (a b : V) : ACalls Try.prog 22 [Pt p, vV a, vV b] H fun r H' => r = .bool (m.eqv a b) ∧ H' = H := by
  refine ACalls.eq (S22_calls ?_) rfl
  unfold S22 Sm.eqv
  have hk2 : ∀ x y, Keep H.next H ((H.alloc x).alloc y) := fun x y => ((Keep.refl _ _).alloc (Nat.le_refl _) _).alloc (by simp) _
  have ea : ∀ x y, aLdAgg 2 (Pt H.next) ((H.alloc (.cells (vcells (vV x)) .var 28)).alloc y) = some (vV x) := by intro x y; simp [at_alloc]
  have eb : ∀ x y, aLdAgg 2 (Pt (H.next + 1)) ((H.alloc y).alloc (.cells (vcells (vV x)) .var 28)) = some (vV x) := by intro x y; simp [at_alloc]
  simp only [aBox_eq, AHeap.next_alloc, ea, eb, bnd_some', eqV]
  refine ⟨by simp, by simp, ?_⟩
  obtain ⟨G, hG⟩ : ∃ X, X = ((H.alloc (.cells (vcells (vV a)) .var 28)).alloc (.cells (vcells (vV b)) .var 28)) := ⟨_, rfl⟩
  have ga : aLdAgg 2 (Pt H.next) G = some (vV a) := hG ▸ ea _ _
  have gb : aLdAgg 2 (Pt (H.next + 1)) G = some (vV b) := hG ▸ eb _ _
  have hkG : Keep H.next H G := hG ▸ hk2 _ _
  have hGn : G.next = H.next + 2 := by rw [hG]; simp
  simp only [← hG]
  clear hG
  have hS := h.kept hkG
  by_cases hab : a = b
  · simp [hab, hkG]
  simp only [decide_eq_false hab, aCond_false, Bool.false_or]
  refine (c36 hS a).use ?_
  unfold S22_101
  by_cases h1 : m.kindOf a = 5
  · simp only [h1, aBin_neq, bnd_some', decide_true, Bool.not_true, aGuardK_ff, gb]
    refine (c36 hS b).use ?_
    by_cases h2 : m.kindOf b = 5
    · simp only [h2, aBin_neq, bnd_some', decide_true, Bool.not_true, aGuardK_ff, aPick_ff, ga, gb]
      refine (c37 hS a).use ?_
      refine ⟨by simp only [gb, bnd_some'], (c37 hS b).use ?_⟩
      by_cases h3 : (m.slotsOf a).length = (m.slotsOf b).length
      · simp [h3, ga, -aLdAgg_ptr]
        refine (c37 hS a).use ?_
        have hla := hl a
        refine aLoop_st (m.slotsOf a).length (fun i => [.int .i64 i]) (fun i H' => Keep G.next G H' ∧ (m.slotsOf a).take i = (m.slotsOf b).take i) rfl ⟨Keep.refl _ _, rfl⟩ ?_
        rintro i H' again hi ⟨hk, hg⟩ ha
        unfold S22_97
        have hkn := hk.next
        have ga' : aLdAgg 2 (Pt H.next) H' = some (vV a) := by
          have := ga
          rw [aLdAgg_ptr] at this ⊢
          rwa [hk.at_ _ (by omega)]
        have gb' : aLdAgg 2 (Pt (H.next + 1)) H' = some (vV b) := by
          have := gb
          rw [aLdAgg_ptr] at this ⊢
          rwa [hk.at_ _ (by omega)]
        by_cases hlt : i < (m.slotsOf a).length
        · have hlt' : i < (m.slotsOf b).length := by omega
          have w1 := wrap64 (x := (i : Int) + 1) (by omega) (by omega)
          simp [hlt]
          unfold S22_96
          simp only [ga', bnd_some']
          refine (c18 (hS.kept hk) a i).use ?_
          have hk3 : ∀ x y, Keep H'.next H' ((H'.alloc x).upd H'.next y) := fun x y => ((Keep.refl _ _).alloc (Nat.le_refl _) _).upd (Nat.le_refl _) _
          have gb2 : ∀ x y, aLdAgg 2 (Pt (H.next + 1)) ((H'.alloc x).upd H'.next y) = some (vV b) := by
            intro x y
            have := gb'
            rw [aLdAgg_ptr] at this ⊢
            rwa [(hk3 x y).at_ _ (by omega)]
          simp [at_alloc, gb2, -aLdAgg_ptr]
          refine (c18 ((hS.kept hk).kept (hk3 _ _)) b i).use ?_
          unfold S22_95
          have l8 : ∀ x y z w, aLdAgg 2 (Pt H'.next) ((((H'.alloc x).upd H'.next (.cells [.int .i64 y.1, .int .i64 y.2] .var 28)).alloc z).upd (H'.next + 1) w) = some (vV y) := by
            intro x y z w
            simp [at_alloc, at_upd]
          have l10 : ∀ (x : AHeap) (y : V), aLdAgg 2 (Pt (H'.next + 1)) (x.upd (H'.next + 1) (.cells [.int .i64 y.1, .int .i64 y.2] .var 28)) = some (vV y) := by
            intro x y
            simp [at_alloc, at_upd]
          have hk4 : ∀ x y z w, Keep H'.next H' ((((H'.alloc x).upd H'.next y).alloc z).upd (H'.next + 1) w) := fun x y z w => ((hk3 x y).alloc (by simp) _).upd (by omega) _
          simp [at_alloc, l8, l10, -aLdAgg_ptr, neV, w1]
          rw [get_slots hlt, get_slots hlt']
          refine aCond_of (fun hd => ?_) fun hd => ?_
          · simp at hd
            refine ⟨?_, hkG.trans ((hk.trans ((hk4 _ _ _ _).lower hkn)).lower hkG.next)⟩
            simp
            intro e
            apply hd
            simp [e]
          · simp at hd
            simp only [nth_zero, aBin_add, bnd_some', w1]
            refine ha _ hlt ⟨hk.trans ((hk4 _ _ _ _).lower hkn), ?_⟩
            rw [List.take_succ_eq_append_getElem hlt, List.take_succ_eq_append_getElem hlt', hg, hd]
        · have hie : i = (m.slotsOf a).length := by omega
          subst hie
          rw [List.take_length] at hg
          rw [h3, List.take_length] at hg
          simp [h1, h2, hg]
          exact hkG.trans (hk.lower hkG.next)
      · have : ¬ m.slotsOf a = m.slotsOf b := fun e => h3 (by rw [e])
        have h3' : ¬ ((m.slotsOf a).length : Int) = (m.slotsOf b).length := by omega
        simp [h3', this, hkG]
    · simp [h2, hkG]
  · simp [h1, hkG]
end Go.Proofs.Ytngldjajfpbmbaa.A

set_option linter.unusedVariables false
set_option linter.unusedSimpArgs false
namespace Go.Proofs.Ytngldjajfpbmbaa.A
open Go Go.Abs

abbrev eW (x : V × V) : List Value := [.int .i64 x.1.1, .int .i64 x.1.2, .int .i64 x.2.1, .int .i64 x.2.2]
abbrev vW (x : V × V) : Value := .agg #[.int .i64 x.1.1, .int .i64 x.1.2, .int .i64 x.2.1, .int .i64 x.2.2]
/-- The parts of two values of one shape. -/
def Sm.parts (m : Sm) (a b : V) : Option (List (V × V)) :=
  if m.kindOf a = m.kindOf b ∧ (m.slotsOf a).length = (m.slotsOf b).length ∧ (m.kindOf a = 1 ∨ m.kindOf a = 2 ∨ m.kindOf a = 3 ∨ m.kindOf a = 4) then some ((m.slotsOf a).zip (m.slotsOf b)) else none

theorem app1W {lo : Nat} {H : AHeap} {A : Option Addr} {xs : List (V × V)} {v : V × V} {K : Value → AHeap → Prop} (hlo : lo ≤ H.next) (h : Ow 4 eW 102 lo H A xs) (hn : xs.length ≤ 2199023255552)
    (hk : ∀ H', Ow 4 eW 102 lo H' (some ⟨H.next + 1, 0, none⟩) (xs ++ [v]) → H.next ≤ H'.next → (∀ b, b < H.next → (∀ x, A = some x → x.block ≠ b) → H'.at_ b = H.at_ b) → K (.slice (some ⟨H.next + 1, 0, none⟩) (xs.length + 1) (xs.length + 1)) H') :
    aAppend 4 32 102 (.slice A xs.length xs.length) (.slice (some ⟨H.next, 0, none⟩) 1 1) (H.alloc (.cells (eW v) (.row 4) 102)) K := by
  have hR : Rd 4 eW (H.next + 1) (H.alloc (.cells (eW v) (.row 4) 102)) (some ⟨H.next, 0, none⟩) [v] := Rd.mk' (by simp) (by omega) (AHeap.at_alloc_new _ _) (by simp) (by simp) (by simp)
  have := (h.alloc (.cells (eW v) (.row 4) 102)).append (bytes := 32) (c := xs.length) (c' := 1) (K := K) hR (by simp; omega) (by simp only [maxLen, List.length_singleton]; omega) (by simp only [List.length_singleton]; omega) fun H' hO hn' hat _ => by
    simp at hO hn' hat
    rw [List.length_append, List.length_singleton]
    refine hk H' hO (by omega) fun b hb hA => ?_
    rw [hat b (by omega) fun o s hh => hA _ hh rfl, AHeap.at_alloc_ne _ _ (by omega)]
  simpa using this

def partsRes (m : Sm) (a b : V) (H : AHeap) (r : Value) (H' : AHeap) : Prop := match m.parts a b with
  | none => r = .tuple #[.slice none 0 0, .bool false] ∧ Keep H.next H H'
  | some l => ∃ B, r = .tuple #[.slice B l.length l.length, .bool true] ∧ Ow 4 eW 102 H.next H' B l ∧ Keep H.next H H'
theorem c48 {H : AHeap} {p : Nat} {m : Sm} {F : Nat → Prop} (h : St H p m F) (hl : ∀ v, (m.slotsOf v).length ≤ 1048576) (a b : V) : ACalls Try.prog 48 [Pt p, vW (a, b)] H (partsRes m a b H) := by
  refine S48_calls ?_
  unfold S48
  have hk : ∀ x, Keep H.next H (H.alloc x) := fun x => (Keep.refl _ _).alloc (Nat.le_refl _) _
  obtain ⟨G, hG⟩ : ∃ X, X = H.alloc (.cells (vcells (vW (a, b))) .var 102) := ⟨_, rfl⟩
  have eG : G.at_ H.next = .cells (eW (a, b)) .var 102 := by rw [hG]; simp
  have hkG : Keep H.next H G := hG ▸ hk _
  have hGn : G.next = H.next + 1 := by rw [hG]; simp
  simp only [aBox_eq, ← hG]
  clear hG
  have ga : ∀ G', G'.at_ H.next = .cells (eW (a, b)) .var 102 → aLdAgg 2 (.pointer (some ⟨H.next, 0, none⟩)) G' = some (vV a) := by intro G' h'; simp [h']
  have gb : ∀ G', G'.at_ H.next = .cells (eW (a, b)) .var 102 → aLdAgg 2 (.pointer (some ⟨H.next, 2, none⟩)) G' = some (vV b) := by intro G' h'; simp [h']
  have hS := h.kept hkG
  refine ⟨by simp, ?_⟩
  simp only [aAdd_ptr, bnd_some', ga G eG, Nat.zero_add]
  refine (c36 hS a).use ?_
  simp only [gb G eG, bnd_some']
  refine (c36 hS b).use ?_
  unfold S48_106
  by_cases h1 : m.kindOf a = m.kindOf b
  · simp only [h1, aBin_neq, bnd_some', decide_true, Bool.not_true, aGuardK_ff, aAdd_ptr, Nat.zero_add, ga G eG, gb G eG]
    refine (c37 hS a).use ?_
    refine ⟨by simp only [gb G eG, bnd_some'], (c37 hS b).use ?_⟩
    by_cases h2 : (m.slotsOf a).length = (m.slotsOf b).length
    · simp only [h2, aBin_neq, bnd_some', decide_true, Bool.not_true, aPick_ff, aCond_false]
      rw [aJoin_eq]
      have no : ∀ x, ¬ (m.kindOf b = 1 ∨ m.kindOf b = 2 ∨ m.kindOf b = 3 ∨ m.kindOf b = 4) → x = Value.bool false → S48_102 (Pt p) (partsRes m a b H) (.pointer (some ⟨H.next, 0, none⟩)) [x] G := by
        rintro x hno rfl
        unfold S48_102 partsRes
        have : m.parts a b = none := by unfold Sm.parts; rw [if_neg]; rintro ⟨_, _, h⟩; rw [h1] at h; exact hno h
        rw [this]
        simp
        exact hkG
      have yes : ∀ x, (m.kindOf b = 1 ∨ m.kindOf b = 2 ∨ m.kindOf b = 3 ∨ m.kindOf b = 4) → x = Value.bool true → S48_102 (Pt p) (partsRes m a b H) (.pointer (some ⟨H.next, 0, none⟩)) [x] G := by
        rintro x hy rfl
        unfold S48_102
        have hp : m.parts a b = some ((m.slotsOf a).zip (m.slotsOf b)) := by unfold Sm.parts; rw [if_pos ⟨h1, h2, by rw [h1]; exact hy⟩]
        simp only [nth_zero, aCond_true, aAdd_ptr, bnd_some', Nat.zero_add, ga G eG]
        refine (c37 hS a).use ?_
        have hla := hl a
        have hlz : ((m.slotsOf a).zip (m.slotsOf b)).length = (m.slotsOf a).length := by simp [h2]
        refine aLoop_vs (m.slotsOf a).length (fun i vs H' => ∃ B, vs = [.slice B (((m.slotsOf a).zip (m.slotsOf b)).take i).length (((m.slotsOf a).zip (m.slotsOf b)).take i).length, .int .i64 i] ∧ Ow 4 eW 102 G.next H' B (((m.slotsOf a).zip (m.slotsOf b)).take i) ∧ Keep G.next G H') ⟨none, rfl, Ow.nil _ _ _ _ _, Keep.refl _ _⟩ ?_
        rintro i vs H' again hi ⟨B, rfl, hB, hk'⟩ ha
        unfold S48_96
        have hkn := hk'.next
        by_cases hlt : i < (m.slotsOf a).length
        · have hlt' : i < (m.slotsOf b).length := by omega
          have w1 := wrap64 (x := (i : Int) + 1) (by omega) (by omega)
          simp [hlt, -List.length_take, -List.length_zip]
          unfold S48_95
          have eH' : H'.at_ H.next = .cells (eW (a, b)) .var 102 := by rw [hk'.at_ _ (by omega)]; exact eG
          simp only [aAdd_ptr, bnd_some', Nat.zero_add, ga H' eH', nth_1]
          refine (c18 (hS.kept hk') a i).use ?_
          have hk3 : ∀ x y, Keep H'.next H' ((H'.alloc x).upd H'.next y) := fun x y => ((Keep.refl _ _).alloc (Nat.le_refl _) _).upd (Nat.le_refl _) _
          have gb2 : ∀ x y, aLdAgg 2 (.pointer (some ⟨H.next, 2, none⟩)) ((H'.alloc x).upd H'.next y) = some (vV b) := fun x y => gb _ (by rw [(hk3 x y).at_ _ (by omega)]; exact eH')
          simp [at_alloc, gb2, -aLdAgg_ptr, -List.length_take, -List.length_zip]
          refine (c18 ((hS.kept hk').kept (hk3 _ _)) b i).use ?_
          unfold S48_94
          have l8 : ∀ (x : Blk) (y : V) (z w : Blk), aLdAgg 2 (Pt H'.next) ((((H'.alloc x).upd H'.next (.cells [.int .i64 y.1, .int .i64 y.2] .var 28)).alloc z).upd (H'.next + 1) w) = some (vV y) := by
            intro x y z w
            simp [at_alloc, at_upd]
          have l10 : ∀ (x : AHeap) (y : V), aLdAgg 2 (Pt (H'.next + 1)) (x.upd (H'.next + 1) (.cells [.int .i64 y.1, .int .i64 y.2] .var 28)) = some (vV y) := by
            intro x y
            simp [at_alloc, at_upd]
          have hk4 : ∀ x y z w, Keep H'.next H' ((((H'.alloc x).upd H'.next y).alloc z).upd (H'.next + 1) w) := fun x y z w => ((hk3 x y).alloc (by simp) _).upd (by omega) _
          have hz : ((m.slotsOf a).zip (m.slotsOf b))[i]? = some ((m.slotsOf a)[i], (m.slotsOf b)[i]) := zip_at (List.getElem?_eq_getElem hlt) (List.getElem?_eq_getElem hlt')
          simp [at_alloc, l8, l10, -aLdAgg_ptr, -List.length_take, -List.length_zip]
          rw [get_slots hlt, get_slots hlt']
          obtain ⟨G2, hG2⟩ : ∃ X, X = (((H'.alloc (.cells [.int .i64 0, .int .i64 0] .var 28)).upd H'.next (.cells [.int .i64 (m.slotsOf a)[i].1, .int .i64 (m.slotsOf a)[i].2] .var 28)).alloc (.cells [.int .i64 0, .int .i64 0] .var 28)).upd (H'.next + 1) (.cells [.int .i64 (m.slotsOf b)[i].1, .int .i64 (m.slotsOf b)[i].2] .var 28) := ⟨_, rfl⟩
          have hkG2 : Keep H'.next H' G2 := hG2 ▸ hk4 _ _ _ _
          have hnG2 : G2.next = H'.next + 1 + 1 := by rw [hG2]; simp
          simp only [← hG2]
          clear hG2
          have hlt3 : (((m.slotsOf a).zip (m.slotsOf b)).take i).length = i := by rw [List.length_take, hlz]; omega
          have := app1W (lo := G.next) (v := ((m.slotsOf a)[i], (m.slotsOf b)[i])) (K := fun t68_91 H_92 => again [t68_91, .int .i64 (IntKind.i64.wrap ((i : Int) + 1))] H_92) (by rw [hnG2]; omega) (hB.kept hkG2) (by omega) fun H3 hO3 hn3 hat3 => by
            rw [w1]
            have e3 : ((m.slotsOf a).zip (m.slotsOf b)).take (i + 1) = ((m.slotsOf a).zip (m.slotsOf b)).take i ++ [((m.slotsOf a)[i], (m.slotsOf b)[i])] := by
              rw [List.take_add_one, hz]; rfl
            refine ha _ H3 hlt ⟨_, by rw [e3, List.length_append]; rfl, by rw [e3]; exact hO3, ⟨by have := hkG2.next; omega, fun c hc => ?_⟩⟩
            rw [hat3 c (by have := hkG2.next; omega) fun x hx => by have := ((hB.kept hkG2).blkOf hx).2.1; omega, hkG2.at_ c (by omega)]
            exact hk'.at_ c hc
          rw [hnG2] at this
          exact this
        · have hie : i = (m.slotsOf a).length := by omega
          subst hie
          have e3 : ((m.slotsOf a).zip (m.slotsOf b)).take (m.slotsOf a).length = (m.slotsOf a).zip (m.slotsOf b) := by rw [← hlz, List.take_length]
          rw [e3] at hB ⊢
          simp [-List.length_zip]
          unfold partsRes
          rw [hp]
          exact ⟨B, rfl, hB.lower (by omega), hkG.trans (hk'.lower (by omega))⟩
      by_cases g1 : m.kindOf b = 1
      · simp [g1]; exact yes _ (by simp [g1]) rfl
      by_cases g2 : m.kindOf b = 2
      · simp [g1]; unfold S48_101; simp [g2]; exact yes _ (by simp [g2]) rfl
      by_cases g3 : m.kindOf b = 3
      · simp [g1]; unfold S48_101; simp [g2, g3]; exact yes _ (by simp [g3]) rfl
      by_cases g4 : m.kindOf b = 4
      · simp [g1]; unfold S48_101; simp [g2, g3, g4]; exact yes _ (by simp [g4]) rfl
      · simp [g1]; unfold S48_101; simp [g2, g3, g4]; exact no _ (by simp [g1, g2, g3, g4]) rfl
    · have h2' : ¬ ((m.slotsOf a).length : Int) = (m.slotsOf b).length := by omega
      have hp : m.parts a b = none := by unfold Sm.parts; rw [if_neg]; rintro ⟨_, h, _⟩; exact h2 h
      simp [h2', partsRes, hp, hkG]
  · have hp : m.parts a b = none := by unfold Sm.parts; rw [if_neg]; rintro ⟨h, _⟩; exact h1 h
    simp [h1, partsRes, hp, hkG]
end Go.Proofs.Ytngldjajfpbmbaa.A

set_option linter.unusedVariables false
set_option linter.unusedSimpArgs false
namespace Go.Proofs.Ytngldjajfpbmbaa.A
open Go Go.Abs

/-- Equal: what waits, the next one first. -/
def Sm.run (m : Sm) : Nat → List (V × V) → Bool × Nat × Int
  | f, [] => (true, f, 0)
  | 0, _ :: _ => (false, 0, 15)
  | f + 1, (a, b) :: r => if m.eqv a b then m.run f r else match m.parts a b with
    | none => (false, f, 0)
    | some l => m.run f (l ++ r)
def runV (x : Bool × Nat × Int) : Value := .tuple #[.bool x.1, .int .i64 x.2.1, .int .i64 x.2.2]
theorem runV_vin (K : Nat → Prop) (x : Bool × Nat × Int) : VIn K (runV x) := by
  refine .tuple fun i u h => ?_
  match i, h with
  | 0, h => simp at h; subst h; exact .plain rfl
  | 1, h => simp at h; subst h; exact .plain rfl
  | 2, h => simp at h; subst h; exact .plain rfl
  | i + 3, h => simp at h
theorem parts_len {m : Sm} {a b : V} {l : List (V × V)} (h : m.parts a b = some l) : l.length ≤ (m.slotsOf a).length := by
  unfold Sm.parts at h
  split at h
  · cases h; rw [List.length_zip]; exact Nat.min_le_left _ _
  · cases h

theorem c21 {H : AHeap} {p : Nat} {m : Sm} {F : Nat → Prop} (h : St H p m F) (hl : ∀ v, (m.slotsOf v).length ≤ 1048576) (a b : V) {fuel : Int} (hf : fuel ≤ 1048576) :
    ACalls Try.prog 21 [Pt p, vV a, vV b, .int .i64 fuel] H fun r H' => r = runV (m.run fuel.toNat [(a, b)]) ∧ H' = H := by
  refine ACalls.eq' (S21_calls ?_) (runV_vin _ _)
  unfold S21
  have hk2 : ∀ x y, Keep H.next H ((H.alloc x).alloc y) := fun x y => ((Keep.refl _ _).alloc (Nat.le_refl _) _).alloc (by simp) _
  simp [at_alloc]
  obtain ⟨G0, hG0⟩ : ∃ X, X = (H.alloc (.cells (vcells (vV a)) .var 28)).alloc (.cells (vcells (vV b)) .var 28) := ⟨_, rfl⟩
  have hk0 : Keep H.next H G0 := hG0 ▸ hk2 _ _
  have hn0 : H.next + 2 = G0.next := by rw [hG0]; simp
  have hn0' : H.next + 1 + 1 = G0.next := hn0
  simp only [← hG0, hn0', hn0]
  clear hG0 hn0'
  have hO : Ow 4 eW 102 G0.next (G0.alloc (.cells [.int .i64 a.1, .int .i64 a.2, .int .i64 b.1, .int .i64 b.2] (.row 4) 102)) (some ⟨G0.next, 0, none⟩) [(a, b)] := Ow.new G0 _ (by simp) (by simp)
  have hk1 : Keep G0.next G0 (G0.alloc (.cells [.int .i64 a.1, .int .i64 a.2, .int .i64 b.1, .int .i64 b.2] (.row 4) 102)) := (Keep.refl _ _).alloc (Nat.le_refl _) _
  have hS := h.kept hk0
  refine aLoop_inv (fun μ vs H' => ∃ (T : Option Addr) (st : List (V × V)) (f : Int), vs = [.int .i64 f, .slice T st.length st.length] ∧ μ = f.toNat ∧ Ow 4 eW 102 G0.next H' T st.reverse ∧ Keep G0.next G0 H' ∧ f ≤ 1048576 ∧ (st = [] → 0 ≤ f) ∧ st.length + f.toNat * 1048576 ≤ 1 + 1048576 * 1048576 ∧ m.run f.toNat st = m.run fuel.toNat [(a, b)]) fuel.toNat
    ⟨_, [(a, b)], fuel, rfl, rfl, hO, hk1, hf, by simp, by simp; omega, rfl⟩ ?_
  rintro μ vs H' again ⟨T, st, f, rfl, hμ, hT, hk, hf2, hf0, hb, hrun⟩ ha
  have hkn := hk.next
  unfold S21_55
  cases st with
  | nil =>
    have := hf0 rfl
    rw [← hrun]
    simp [Sm.run, runV, this]
    refine ⟨by omega, ?_⟩
    exact hk0.trans (hk.lower hk0.next)
  | cons x r =>
    have hpos : ¬ ((x :: r).length = 0) := by simp
    have hlen : (x :: r).length = r.length + 1 := rfl
    simp only [nth_zero, nth_1, aLenSl_slice, bnd_some', aBin_gtr, hlen]
    rw [decide_eq_true (by omega)]
    simp only [aCond_true, aBin_leq, bnd_some']
    by_cases hf1 : f ≤ 0
    · rw [decide_eq_true hf1, aCond_true]
      have e0 : f.toNat = 0 := by omega
      rw [← hrun, e0]
      refine ⟨by simp [Sm.run, runV], hk0.trans (hk.lower hk0.next)⟩
    · rw [decide_eq_false hf1, aCond_false]
      obtain ⟨fn, hfn⟩ : ∃ n : Nat, f = n + 1 := ⟨(f - 1).toNat, by omega⟩
      subst hfn
      obtain ⟨xa, xb⟩ := x
      unfold S21_54
      have e1 : ((fn : Int) + 1).toNat = fn + 1 := by omega
      rw [e1] at hb hrun hμ
      have w1 := wrap64 (x := (fn : Int)) (by omega) (by omega)
      have w2 := wrap64 (x := (r.length : Int)) (by simp at hb; omega) (by simp at hb; omega)
      have w1' : IntKind.i64.wrap ((fn : Int) + 1 - 1) = fn := by rw [show (fn : Int) + 1 - 1 = fn by omega]; exact w1
      have w2' : IntKind.i64.wrap (((r.length + 1 : Nat) : Int) - 1) = (r.length : Int) := by rw [show ((r.length + 1 : Nat) : Int) - 1 = r.length by omega]; exact w2
      have hrl : ((xa, xb) :: r).reverse = r.reverse ++ [(xa, xb)] := by simp
      have hrl2 : ((xa, xb) :: r).reverse.length = r.length + 1 := by simp
      have hrl3 : r.length < ((xa, xb) :: r).reverse.length := by rw [hrl2]; omega
      have i1 := hT.rd.idx (k := .i64) (j := (r.length : Int)) (c := r.length + 1) (by omega) (by omega)
      rw [hrl2, Int.toNat_natCast] at i1
      have l1 := hT.rd.agg hrl3
      have ev : ((xa, xb) :: r).reverse[r.length] = (xa, xb) := by simp
      rw [ev] at l1
      have c1 := hT.rd.sliceHi (k := .i64) (j := (r.length : Int)) (by omega) (by omega)
      rw [adv_zero, Int.toNat_natCast, hrl2] at c1
      have hT' : Ow 4 eW 102 G0.next H' T r.reverse := by
        have := hT.take r.length (by omega)
        rw [hrl] at this
        have e : (r.reverse ++ [(xa, xb)]).take r.length = r.reverse := by
          have := List.take_left (l₁ := r.reverse) (l₂ := [(xa, xb)])
          rwa [List.length_reverse] at this
        rwa [e] at this
      simp only [nth_zero, nth_1, aBin_sub, w1', w2', bnd_some', aLenSl_slice, hlen, i1, l1, aAlloc_eq, c1]
      obtain ⟨G, hG⟩ : ∃ X, X = (H'.alloc (.cells [.int .i64 0, .int .i64 0, .int .i64 0, .int .i64 0] .var 102)).upd H'.next (.cells (eW (xa, xb)) .var 102) := ⟨_, rfl⟩
      have hkG : Keep H'.next H' G := hG ▸ ((Keep.refl _ _).alloc (Nat.le_refl _) _).upd (Nat.le_refl _) _
      have eG : G.at_ H'.next = .cells (eW (xa, xb)) .var 102 := by rw [hG]; simp
      have hnG : G.next = H'.next + 1 := by rw [hG]; simp
      have st1 : aSt 4 (Pt H'.next) (.agg (eW (xa, xb)).toArray) (H'.alloc (.cells [.int .i64 0, .int .i64 0, .int .i64 0, .int .i64 0] .var 102)) = some G := by
        rw [hG]; simp
      clear hG
      simp only [st1, bnd_some', aAdd_ptr, Nat.zero_add]
      have ga : aLdAgg 2 (.pointer (some ⟨H'.next, 0, none⟩)) G = some (vV xa) := by simp [eG]
      have gb : aLdAgg 2 (.pointer (some ⟨H'.next, 2, none⟩)) G = some (vV xb) := by simp [eG]
      have g4 : aLdAgg 4 (.pointer (some ⟨H'.next, 0, none⟩)) G = some (vW (xa, xb)) := by simp [eG]
      simp only [ga, gb, bnd_some']
      have hSG : St G p m F := hS.kept (hk.trans (hkG.lower hkn))
      refine (c22 hSG hl xa xb).use ?_
      have hTG := hT'.kept hkG
      simp only [Sm.run] at hrun
      cases hq : m.eqv xa xb with
      | true =>
        rw [hq] at hrun
        simp only [aCond_true, if_true] at hrun ⊢
        exact ha fn _ _ (by omega) ⟨T, r, fn, rfl, by omega, hTG, hk.trans (hkG.lower hkn), by omega, fun _ => by omega, by simp at hb ⊢; omega, by simpa using hrun⟩
      | false =>
        rw [hq] at hrun
        simp only [aCond_false, Bool.false_eq_true, if_false] at hrun ⊢
        unfold S21_53
        simp only [g4, bnd_some']
        refine (c48 hSG hl xa xb).mono fun t H2 ht => ?_
        unfold partsRes at ht
        cases hp : m.parts xa xb with
        | none =>
          rw [hp] at ht hrun
          obtain ⟨rfl, hk2⟩ := ht
          rw [← hrun]
          simp [runV]
          exact hk0.trans ((hk.trans ((hkG.trans (hk2.lower hkG.next)).lower hkn)).lower hk0.next)
        | some l =>
          rw [hp] at ht hrun
          obtain ⟨B, rfl, hB, hk2⟩ := ht
          have hll := Nat.le_trans (parts_len hp) (hl xa)
          have hk2n := hk2.next
          simp [-List.length_reverse]
          have w3 := wrap64 (x := (l.length : Int) - 1) (by omega) (by omega)
          rw [w3]
          have hT2 : Ow 4 eW 102 G0.next H2 T r.reverse := hTG.kept hk2
          have hB2 : Ow 4 eW 102 G.next H2 B l := hB
          refine aLoop_vs l.length (fun i vs H3 => ∃ T', vs = [.slice T' (r.reverse ++ l.reverse.take i).length (r.reverse ++ l.reverse.take i).length, .int .i64 ((l.length : Int) - 1 - i)] ∧ Ow 4 eW 102 G0.next H3 T' (r.reverse ++ l.reverse.take i) ∧ Ow 4 eW 102 G0.next H3 B l ∧ Keep G0.next G0 H3 ∧ ∀ x y, T' = some x → B = some y → x.block ≠ y.block) ⟨T, by simp, by simpa using hT2, hB2.lower (by omega), (hk.trans ((hkG.trans (hk2.lower hkG.next)).lower hkn)), ?_⟩ ?_
          · intro x y hx hy
            have := (hTG.blkOf hx).2.2.1
            have := (hB2.blkOf hy).2.1
            omega
          rintro i vs H3 again2 hi ⟨T', rfl, hT3, hB3, hk3, hne⟩ ha2
          unfold S21_52
          have hll2 : (r.reverse ++ l.reverse.take i).length = r.length + i := by simp; omega
          by_cases hlt : i < l.length
          · have h1 : 0 ≤ (l.length : Int) - 1 - i := by omega
            simp only [nth_1, aBin_geq, bnd_some', decide_eq_true h1, aCond_true]
            unfold S21_51
            have ej : ((l.length : Int) - 1 - i).toNat = l.length - 1 - i := by omega
            have i2 := hB3.rd.idx (k := .i64) (j := (l.length : Int) - 1 - i) (c := l.length) h1 (by omega)
            rw [ej] at i2
            have hj : l.length - 1 - i < l.length := by omega
            have l2 := hB3.rd.agg hj
            have e3 : l.reverse.take (i + 1) = l.reverse.take i ++ [l[l.length - 1 - i]] := by
              rw [List.take_succ_eq_append_getElem (by simp; exact hlt), List.getElem_reverse]
            have w4 := wrap64 (x := (l.length : Int) - 1 - i - 1) (by omega) (by omega)
            simp [i2, l2, -aLdAgg_ptr, -List.length_append, -List.length_reverse, -List.length_take]
            have := app1W (lo := G0.next) (v := l[l.length - 1 - i]) (K := fun t66_48 H_49 => again2 [t66_48, .int .i64 (IntKind.i64.wrap ((l.length : Int) - 1 - i - 1))] H_49) (by have := hk3.next; exact this) hT3 (by rw [hll2]; simp at hb; omega) fun H4 hO4 hn4 hat4 => by
              rw [w4]
              have hk34 := hk3.next
              refine ha2 _ H4 hlt ⟨_, by rw [e3, ← List.append_assoc, List.length_append (bs := [_])]; simp only [List.length_singleton]; congr 3; omega, by rw [e3, ← List.append_assoc]; exact hO4, hB3.at hn4 fun y hy => hat4 _ (hB3.blkOf hy).2.2.1 fun x hx => hne x y hx hy, ⟨by omega, fun c hc => ?_⟩, ?_⟩
              · rw [hat4 c (by omega) fun x hx => by have := (hT3.blkOf hx).2.1; omega]
                exact hk3.at_ c hc
              · intro x y hx hy
                cases hx
                have := (hB3.blkOf hy).2.2.1
                dsimp only
                omega
            exact this
          · have hie : i = l.length := by omega
            subst hie
            have h1 : ¬ 0 ≤ (l.length : Int) - 1 - (l.length : Nat) := by omega
            simp only [nth_zero, nth_1, aBin_geq, bnd_some', decide_eq_false h1, aCond_false]
            have e4 : l.reverse.take l.length = l.reverse := by rw [← List.length_reverse, List.take_length]
            rw [e4] at hT3 ⊢
            have e5 : r.reverse ++ l.reverse = (l ++ r).reverse := by simp
            rw [e5] at hT3 ⊢
            rw [List.length_reverse]
            exact ha fn _ _ (by omega) ⟨T', l ++ r, fn, rfl, by omega, hT3, hk3, by omega, fun _ => by omega, by simp at hb ⊢; omega, by simpa using hrun⟩
end Go.Proofs.Ytngldjajfpbmbaa.A

set_option linter.unusedVariables false
set_option linter.unusedSimpArgs false
namespace Go.Proofs.Ytngldjajfpbmbaa.A
open Go Go.Abs

theorem slotsOf_le {m : Sm} (hI : Inv m) (hV : Vd m) (v : V) : (m.slotsOf v).length ≤ 1048576 := by
  unfold Sm.slotsOf
  split
  · rename_i hv
    exact slots_le hI hV _ (List.mem_of_getElem? (ob_at hv))
  · simp
theorem keep_new {H H1 H2 : AHeap} {F F2 : Nat → Prop} (hk : Keep H.next H H1) (hF : ∀ b, F b → H.next ≤ b) (hf : Fr F H1 F2 H2) : Keep H.next H H2 :=
  ⟨Nat.le_trans hk.next hf.next, fun b hb => (hf.at_ b (Nat.lt_of_lt_of_le hb hk.next) fun h => by have := hF b h; omega).trans (hk.at_ b hb)⟩
def bx2 : Sm := ⟨50, 4, [mkOb 3 [(0, 0)], mkOb 3 [(0, 0)]], []⟩
theorem c20 {H : AHeap} : ACalls Try.prog 20 [] H fun r H' => r = .bool true ∧ H' = H := by
  refine ACalls.eq (S20_calls ?_) rfl
  unfold S20
  refine (c13 (by omega) (by omega)).mono fun r H1 ⟨p, F, hr, hS, hk, hF⟩ => ?_
  subst hr
  simp
  unfold S20_101
  simp
  refine (mkLit hS (Inv.new (by omega) (by omega)) 3 [(0, 0)] (by simp) (by simp)).mono fun r H2 ⟨hr, F2, hS2, hF2⟩ => ?_
  have em : (Sm.new 50).make 3 [(0, 0)] = (((7, 0), 0), ⟨50, 2, [mkOb 3 [(0, 0)]], []⟩) := rfl
  rw [em] at hr hS2
  subst hr
  unfold S20_100
  simp [at_alloc, at_upd]
  obtain ⟨G, hG⟩ : ∃ X, X = (H2.alloc (.cells [.int .i64 0, .int .i64 0] .var 28)).upd H2.next (.cells [.int .i64 7, .int .i64 0] .var 28) := ⟨_, rfl⟩
  have hkG : Keep H2.next H2 G := hG ▸ ((Keep.refl _ _).alloc (Nat.le_refl _) _).upd (Nat.le_refl _) _
  have eG : G.at_ H2.next = .cells [.int .i64 7, .int .i64 0] .var 28 := by rw [hG]; simp
  have hnG : G.next = H2.next + 1 := by rw [hG]; simp
  simp only [← hG]
  clear hG
  have hq : Lv G F2 H2.next (.cells [.int .i64 7, .int .i64 0] .var 28) := ⟨eG, by omega, fun hf => by have := hS2.lt _ hf; omega⟩
  have hSG := hS2.kept hkG
  have := mkLit hSG (m := ⟨50, 2, [mkOb 3 [(0, 0)]], []⟩) ⟨rfl, by decide, by decide⟩ 3 [(0, 0)] (by simp) (by simp)
  simp [hnG] at this
  refine this.mono fun r H3 ⟨hr, F3, hS3, hF3⟩ => ?_
  have em2 : (Sm.mk 50 2 [mkOb 3 [(0, 0)]] []).make 3 [(0, 0)] = (((7, 1), 0), bx2) := rfl
  rw [em2] at hr hS3
  subst hr
  have hq3 := hq.fr hF3
  have hne : H2.next ≠ H3.next := by have := hq3.lt; omega
  simp [at_alloc, at_upd, hne, hq3.at_]
  have hk4 : ∀ x y, Keep H3.next H3 ((H3.alloc x).upd H3.next y) := fun x y => ((Keep.refl _ _).alloc (Nat.le_refl _) _).upd (Nat.le_refl _) _
  have hI2 : Inv bx2 := ⟨rfl, by decide, by decide⟩
  have hV2 : Vd bx2 := ⟨fun o ho v hv h7 => by
    simp [bx2, mkOb] at ho
    subst ho
    simp at hv
    subst hv
    simp at h7, fun o ho h10 => by simp [bx2, mkOb] at ho; subst ho; simp at h10⟩
  have hl := slotsOf_le hI2 hV2
  have hS4 := hS3.kept (hk4 (.cells [.int .i64 0, .int .i64 0] .var 28) (.cells [.int .i64 7, .int .i64 1] .var 28))
  refine (c21 hS4 hl (7, 0) (7, 1) (by omega)).use ?_
  have er : bx2.run (5 : Int).toNat [((7, 0), (7, 1))] = (true, 3, 0) := rfl
  rw [er]
  unfold S20_99
  simp [runV, at_alloc, at_upd, hne, hq3.at_]
  refine (c22 hS4 hl (7, 0) (7, 0)).use ?_
  have ev : bx2.eqv (7, 0) (7, 0) = true := rfl
  simp [ev, at_alloc, at_upd, hne, hq3.at_]
  refine (c22 hS4 hl (7, 0) (7, 1)).use ?_
  have ev2 : bx2.eqv (7, 0) (7, 1) = false := rfl
  simp [ev2]
  exact (keep_new hk hF (hF2.trans ((Fr.keep hkG).trans hF3))).trans ((hk4 _ _).lower (by
    have := hk.next; have := hF2.next; have := hkG.next; have := hF3.next; omega))

theorem make_ok {m : Sm} {k : Int} {xs : List V} (hs : shaped k xs.length = true) (hx : ∀ v ∈ xs, m.sound v = true) (hc : m.used + (mkOb k xs).cells ≤ m.lim) : m.make k xs = (((7, (m.objs.length : Int)), 0), m.put (mkOb k xs)) := by
  unfold Sm.make
  rw [if_pos hs, if_pos (List.all_eq_true.2 hx), if_neg (by omega)]
end Go.Proofs.Ytngldjajfpbmbaa.A

set_option linter.unusedVariables false
set_option linter.unusedSimpArgs false
namespace Go.Proofs.Ytngldjajfpbmbaa.A
open Go Go.Abs

/-- A tree of so many leaves, from a place on. -/
def upV (base j : Nat) : V := if j = 0 then (0, 0) else (7, (base : Int) + j - 1)
def tO (X : Nat → V) (base j : Nat) : Ob := mkOb 2 [X j, upV base j, X j]
def tL (X : Nat → V) (base i : Nat) : List Ob := (List.range i).map (tO X base)
/-- Two trees: the first done to i, the second to j. -/
def tM (X Y : Nat → V) (L i j : Nat) : Sm := ⟨4000, 4 * ((i : Int) + j), tL X 0 i ++ tL Y L j, []⟩
theorem tL_len (X : Nat → V) (base i : Nat) : (tL X base i).length = i := by simp [tL]
theorem tL_succ (X : Nat → V) (base i : Nat) : tL X base (i + 1) = tL X base i ++ [tO X base i] := by simp [tL, List.range_succ]
theorem tL_total (X : Nat → V) (base : Nat) : ∀ i : Nat, total (tL X base i) = 4 * i
  | 0 => rfl
  | i + 1 => by rw [tL_succ, total_append, tL_total X base i]; simp [total, tO, mkOb, Ob.cells]; omega
theorem tM_len (X Y : Nat → V) (L i j : Nat) : (tM X Y L i j).objs.length = i + j := by simp [tM, tL_len]
theorem tM_inv {X Y : Nat → V} {L i j : Nat} (h : i + j ≤ 400) : Inv (tM X Y L i j) := by
  refine ⟨?_, ?_, by simp [tM]⟩
  · simp only [tM, total_append, tL_total]; omega
  · simp only [tM]; omega
theorem tL_get {X : Nat → V} {base i j : Nat} (h : j < i) : (tL X base i)[j]? = some (tO X base j) := by simp [tL, h]
theorem upV_ix {m : Sm} {base j n : Nat} (h : base + j ≤ m.objs.length) : okIx m (upV base j) := by
  intro h7
  unfold upV at h7 ⊢
  split
  · rename_i h0; rw [if_pos h0] at h7; simp at h7
  · constructor <;> (dsimp only; omega)
theorem tM_vd {X Y : Nat → V} {L i j : Nat} (hX : ∀ n, (X n).1 = 4) (hY : ∀ n, (Y n).1 = 4) (hij : i = L ∨ j = 0) (hi : i ≤ L) : Vd (tM X Y L i j) := by
  refine ⟨fun o ho v hv => ?_, fun o ho h10 => ?_⟩
  · simp only [tM] at ho
    rcases List.mem_append.1 ho with ho | ho
    · simp only [tL, List.mem_map, List.mem_range] at ho
      obtain ⟨n, hn, rfl⟩ := ho
      simp [tO, mkOb] at hv
      rcases hv with rfl | rfl | rfl
      · intro h7; rw [hX] at h7; simp at h7
      · exact upV_ix (n := 0) (by rw [tM_len]; omega)
      · intro h7; rw [hX] at h7; simp at h7
    · simp only [tL, List.mem_map, List.mem_range] at ho
      obtain ⟨n, hn, rfl⟩ := ho
      simp [tO, mkOb] at hv
      rcases hv with rfl | rfl | rfl
      · intro h7; rw [hY] at h7; simp at h7
      · exact upV_ix (n := 0) (by rw [tM_len]; omega)
      · intro h7; rw [hY] at h7; simp at h7
  · simp only [tM] at ho
    rcases List.mem_append.1 ho with ho | ho <;>
    · simp only [tL, List.mem_map, List.mem_range] at ho
      obtain ⟨n, hn, rfl⟩ := ho
      simp [tO, mkOb] at h10
theorem upV_sound {m : Sm} {base j : Nat} (h : base + j ≤ m.objs.length) : m.sound (upV base j) = true := by
  unfold upV
  split
  · simp [Sm.sound]
  · exact sound_obj (by omega) (by omega)
theorem tM_make1 {X Y : Nat → V} {L i : Nat} (hX : ∀ n, (X n).1 = 4) (h : i < 200) : (tM X Y L i 0).make 2 [X i, upV 0 i, X i] = (((7, (i : Int)), 0), tM X Y L (i + 1) 0) := by
  have h1 : (tM X Y L i 0).sound (X i) = true := by simp [Sm.sound, hX]
  have h2 : (tM X Y L i 0).sound (upV 0 i) = true := upV_sound (by rw [tM_len]; omega)
  rw [make_ok (by simp [shaped]) (by simp [h1, h2]) (by simp [tM, mkOb, Ob.cells]; omega), tM_len]
  have e2 : (tM X Y L i 0).put (mkOb 2 [X i, upV 0 i, X i]) = tM X Y L (i + 1) 0 := by
    have e0 : tL Y L 0 = [] := rfl
    simp only [Sm.put, tM, tL_succ, e0, List.append_nil]
    congr 1
  rw [e2]
  rfl
theorem tM_make2 {X Y : Nat → V} {L j : Nat} (hY : ∀ n, (Y n).1 = 4) (hL : L ≤ 200) (h : j < 200) : (tM X Y L L j).make 2 [Y j, upV L j, Y j] = (((7, ((L + j : Nat) : Int)), 0), tM X Y L L (j + 1)) := by
  have h1 : (tM X Y L L j).sound (Y j) = true := by simp [Sm.sound, hY]
  have h2 : (tM X Y L L j).sound (upV L j) = true := upV_sound (by rw [tM_len]; omega)
  rw [make_ok (by simp [shaped]) (by simp [h1, h2]) (by simp [tM, mkOb, Ob.cells]; omega), tM_len]
  have e2 : (tM X Y L L j).put (mkOb 2 [Y j, upV L j, Y j]) = tM X Y L L (j + 1) := by
    simp only [Sm.put, tM, tL_succ, List.append_assoc]
    congr 1
  rw [e2]

section
variable {X Y : Nat → V} {L : Nat}
theorem tM_ob1 {j : Nat} (h : j < L) : okRef (tM X Y L L L) (7, (j : Int)) = true ∧ (tM X Y L L L).ob (7, (j : Int)) = tO X 0 j := by
  refine ⟨by rw [okRef_iff, tM_len]; simp; omega, ?_⟩
  simp only [Sm.ob, tM, Int.toNat_natCast, List.getD_eq_getElem?_getD]
  rw [List.getElem?_append_left (by rw [tL_len]; exact h), tL_get h]
  rfl
theorem tM_ob2 {j : Nat} (h : j < L) : okRef (tM X Y L L L) (7, ((L + j : Nat) : Int)) = true ∧ (tM X Y L L L).ob (7, ((L + j : Nat) : Int)) = tO Y L j := by
  refine ⟨by rw [okRef_iff, tM_len]; simp; omega, ?_⟩
  simp only [Sm.ob, tM, Int.toNat_natCast, List.getD_eq_getElem?_getD]
  rw [List.getElem?_append_right (by rw [tL_len]; omega), tL_len, Nat.add_sub_cancel_left, tL_get h]
  rfl
theorem leaf_kind {v : V} (h : v.1 = 4) : (tM X Y L L L).kindOf v = 0 ∧ (tM X Y L L L).slotsOf v = [] := by
  have : okRef (tM X Y L L L) v = false := by simp [okRef, h]
  simp [Sm.kindOf, Sm.slotsOf, this]
theorem eqv_self (m : Sm) (v : V) : m.eqv v v = true := by simp [Sm.eqv]
theorem tM_node {j : Nat} (h : j < L) : (tM X Y L L L).eqv (7, (j : Int)) (7, ((L + j : Nat) : Int)) = false ∧ (tM X Y L L L).parts (7, (j : Int)) (7, ((L + j : Nat) : Int)) = some [(X j, Y j), (upV 0 j, upV L j), (X j, Y j)] := by
  obtain ⟨a1, a2⟩ := tM_ob1 (X := X) (Y := Y) h
  obtain ⟨b1, b2⟩ := tM_ob2 (X := X) (Y := Y) h
  have k1 : (tM X Y L L L).kindOf (7, (j : Int)) = 2 := by unfold Sm.kindOf; rw [if_pos a1, a2]; rfl
  have k2 : (tM X Y L L L).kindOf (7, ((L + j : Nat) : Int)) = 2 := by unfold Sm.kindOf; rw [if_pos b1, b2]; rfl
  have s1 : (tM X Y L L L).slotsOf (7, (j : Int)) = [X j, upV 0 j, X j] := by unfold Sm.slotsOf; rw [if_pos a1, a2]; rfl
  have s2 : (tM X Y L L L).slotsOf (7, ((L + j : Nat) : Int)) = [Y j, upV L j, Y j] := by unfold Sm.slotsOf; rw [if_pos b1, b2]; rfl
  have ne : ¬ ((7, (j : Int)) : V) = (7, ((L + j : Nat) : Int)) := by intro e; have := congrArg Prod.snd e; dsimp only at this; omega
  refine ⟨?_, ?_⟩
  · unfold Sm.eqv
    rw [k1, decide_eq_false ne]
    rfl
  · unfold Sm.parts
    rw [k1, k2, s1, s2, if_pos ⟨rfl, rfl, .inr (.inl rfl)⟩]
    rfl
theorem up_zero : upV 0 0 = (0, 0) ∧ upV L 0 = (0, 0) := ⟨rfl, rfl⟩
theorem up_succ (j : Nat) : upV 0 (j + 1) = (7, (j : Int)) ∧ upV L (j + 1) = (7, ((L + j : Nat) : Int)) := by
  constructor
  · unfold upV; rw [if_neg (by omega)]; congr 1; omega
  · unfold upV; rw [if_neg (by omega)]; congr 1; omega
theorem run_skip {m : Sm} {a b : V} (h : m.eqv a b = true) (f : Nat) (r : List (V × V)) : m.run (f + 1) ((a, b) :: r) = m.run f r := by simp only [Sm.run, h, if_true]
theorem run_open {m : Sm} {a b : V} {l : List (V × V)} (h : m.eqv a b = false) (h' : m.parts a b = some l) (f : Nat) (r : List (V × V)) : m.run (f + 1) ((a, b) :: r) = m.run f (l ++ r) := by simp only [Sm.run, h, h', Bool.false_eq_true, if_false]
theorem run_no {m : Sm} {a b : V} (h : m.eqv a b = false) (h' : m.parts a b = none) (f : Nat) (r : List (V × V)) : m.run (f + 1) ((a, b) :: r) = (false, f, 0) := by simp only [Sm.run, h, h', Bool.false_eq_true, if_false]
theorem run_down (hXY : ∀ n, n < L → X n = Y n) : ∀ (i f : Nat) (rest : List (V × V)), i < L → (tM X Y L L L).run (f + 2 * (i + 1) + 1) (((7, (i : Int)), (7, ((L + i : Nat) : Int))) :: rest) = (tM X Y L L L).run f (((List.range (i + 1)).map fun j => (X j, Y j)) ++ rest)
  | 0, f, rest, h => by
    obtain ⟨n1, n2⟩ := tM_node (X := X) (Y := Y) h
    have e := hXY 0 h
    rw [show f + 2 * (0 + 1) + 1 = f + 1 + 1 + 1 by omega, run_open n1 n2, List.cons_append, run_skip (by rw [e]; exact eqv_self _ _), List.cons_append, run_skip (by rw [(up_zero (L := L)).1, (up_zero (L := L)).2]; exact eqv_self _ _)]
    rfl
  | i + 1, f, rest, h => by
    obtain ⟨n1, n2⟩ := tM_node (X := X) (Y := Y) h
    have e := hXY (i + 1) h
    have ih := run_down hXY i f ((X (i + 1), Y (i + 1)) :: rest) (by omega)
    rw [show f + 2 * (i + 1 + 1) + 1 = f + 2 * (i + 1) + 1 + 1 + 1 by omega, run_open n1 n2, List.cons_append, run_skip (by rw [e]; exact eqv_self _ _), List.cons_append, (up_succ (L := L) i).1, (up_succ (L := L) i).2]
    rw [List.cons_append, List.nil_append, ih, List.range_succ (n := i + 1)]
    simp
theorem run_same (m : Sm) : ∀ (l : List (V × V)) (f : Nat) (rest : List (V × V)), (∀ x ∈ l, x.1 = x.2) → m.run (f + l.length) (l ++ rest) = m.run f rest
  | [], f, rest, _ => rfl
  | (a, b) :: l, f, rest, h => by
    have e : a = b := h (a, b) (by simp)
    subst e
    simp only [List.length_cons, ← Nat.add_assoc, List.cons_append, Sm.run, eqv_self, if_true]
    exact run_same m l f rest fun x hx => h x (by simp [hx])
theorem run_eq (hXY : ∀ n, n < L → X n = Y n) {i : Nat} (h : i < L) (f : Nat) : (tM X Y L L L).run (f + (i + 1) + 2 * (i + 1) + 1) [((7, (i : Int)), (7, ((L + i : Nat) : Int)))] = (true, f, 0) := by
  rw [run_down hXY i _ _ h]
  have := run_same (tM X Y L L L) ((List.range (i + 1)).map fun j => (X j, Y j)) f [] (by
    intro x hx
    obtain ⟨j, hj, rfl⟩ := List.mem_map.1 hx
    rw [List.mem_range] at hj
    exact hXY j (by omega))
  simp only [List.length_map, List.length_range] at this
  rw [this]
  simp [Sm.run]
theorem run_ne (hX : ∀ n, (X n).1 = 4) (hY : ∀ n, (Y n).1 = 4) {k : Nat} (hk : X k ≠ Y k) : ∀ (d f : Nat) (rest : List (V × V)), k + d < L → (∀ n, k < n → n ≤ k + d → X n = Y n) → (tM X Y L L L).run (f + 2 * d + 2) (((7, ((k + d : Nat) : Int)), (7, ((L + (k + d) : Nat) : Int))) :: rest) = (false, f, 0)
  | 0, f, rest, h, _ => by
    obtain ⟨n1, n2⟩ := tM_node (X := X) (Y := Y) (j := k) (by omega)
    have lx := leaf_kind (X := X) (Y := Y) (L := L) (hX k)
    have ly := leaf_kind (X := X) (Y := Y) (L := L) (hY k)
    have e1 : (tM X Y L L L).eqv (X k) (Y k) = false := by unfold Sm.eqv; rw [decide_eq_false hk, lx.1]; rfl
    have e2 : (tM X Y L L L).parts (X k) (Y k) = none := by
      unfold Sm.parts
      rw [if_neg]
      rintro ⟨_, _, h⟩
      rw [lx.1] at h
      simp at h
    simp only [Nat.add_zero, Nat.mul_zero]
    rw [show f + 2 = f + 1 + 1 by omega, run_open n1 n2, List.cons_append, run_no e1 e2]
  | d + 1, f, rest, h, he => by
    obtain ⟨n1, n2⟩ := tM_node (X := X) (Y := Y) (j := k + (d + 1)) (by omega)
    have e := he (k + (d + 1)) (by omega) (by omega)
    have ih := run_ne hX hY hk d f ((X (k + (d + 1)), Y (k + (d + 1))) :: rest) (by omega) fun n h1 h2 => he n h1 (by omega)
    rw [show f + 2 * (d + 1) + 2 = f + 2 * d + 2 + 1 + 1 by omega, run_open n1 n2, List.cons_append, run_skip (by rw [e]; exact eqv_self _ _), List.cons_append]
    have u := up_succ (L := L) (k + d)
    rw [show k + (d + 1) = k + d + 1 by omega, u.1, u.2]
    exact ih
end
end Go.Proofs.Ytngldjajfpbmbaa.A

set_option linter.unusedVariables false
set_option linter.unusedSimpArgs false
namespace Go.Proofs.Ytngldjajfpbmbaa.A
open Go Go.Abs

/-- Below a place nothing is changed, nor is the store there. -/
structure Wb (H0 H : AHeap) (F : Nat → Prop) : Prop where
  keep : Keep H0.next H0 H
  hi : ∀ b, F b → H0.next ≤ b
theorem Wb.fr {H0 H H' : AHeap} {F F' : Nat → Prop} (h : Wb H0 H F) (k : Fr F H F' H') : Wb H0 H' F' :=
  ⟨keep_new h.keep h.hi k, fun b hb => by rcases k.new b hb with h1 | h1; exact h.hi b h1; have := h.keep.next; omega⟩
theorem Wb.kept {H0 H H' : AHeap} {F : Nat → Prop} (h : Wb H0 H F) (k : Keep H.next H H') : Wb H0 H' F := h.fr (Fr.keep k)
theorem Wb.upd {H0 H : AHeap} {F : Nat → Prop} (h : Wb H0 H F) {q : Nat} (hq : H0.next ≤ q) (x : Blk) : Wb H0 (H.upd q x) F := ⟨h.keep.upd hq x, h.hi⟩

theorem l5_117 {H0 H : AHeap} {p q t : Nat} {m m' : Sm} {F : Nat → Prop} {z u : V} {N i : Int} {R : Value → AHeap → Prop} {again : List Value → AHeap → Prop} (hS : St H p m F) (hI : Inv m) (hq : Lv H F q (.cells (eV u) .var 28)) (ht : Lv H F t (.cells (eV z) .var 28)) (hW : Wb H0 H F) (hq0 : H0.next ≤ q)
    (hm : m.make 2 [z, u, z] = (((7, N), 0), m')) (hw : IntKind.i64.wrap (i + 1) = i + 1)
    (ha : ∀ H' F', St H' p m' F' → Lv H' F' q (.cells (eV (7, N)) .var 28) → Wb H0 H' F' → (∀ A xs, Lr H F A xs → Lr H' F' A xs) → again [.int .i64 (i + 1)] H') :
    S5_117 R (Pt p) (Pt q) [.int .i64 i] again (Pt t) H := by
  unfold S5_117
  have lz : aLdAgg 2 (Pt t) H = some (vV z) := by simp [ht.at_]
  have lu : aLdAgg 2 (Pt q) H = some (vV u) := by simp [hq.at_]
  simp only [lz, lu, bnd_some', aBuildSlice_eq]
  simp
  have := mkLit hS hI 2 [z, u, z] (by simp) (by simp)
  simp [hm] at this
  refine this.mono fun r H2 ⟨hr, F2, hS2, hF2⟩ => ?_
  rw [hm] at hS2 hr
  subst hr
  unfold S5_91
  have hq2 := hq.fr hF2
  have hne : q ≠ H2.next := by have := hq2.lt; omega
  simp [at_alloc, at_upd, hne, hq2.at_, hw]
  have hk2 : Keep H2.next H2 ((H2.alloc (.cells [.int .i64 0, .int .i64 0] .var 28)).upd H2.next (.cells [.int .i64 7, .int .i64 N] .var 28)) := ((Keep.refl _ _).alloc (Nat.le_refl _) _).upd (Nat.le_refl _) _
  refine ha _ F2 ((hS2.kept hk2).updnf hq2.nf) (hq2.kept hk2).upd (((hW.fr hF2).kept hk2).upd hq0 _) fun A xs h => ((h.fr hF2).kept hk2).updvar (hq2.kept hk2)

abbrev eU (x : Int) : List Value := [.int .u8 x]
def lvX (xs : List Int) (j : Nat) : V := (4, xs.getD j 0)
def lvY (xs : List Int) (b : Bool) (k j : Nat) : V := if b = true ∧ j = k then (4, xs.getD j 0 + 1) else (4, xs.getD j 0)
/-- The tree that is built in the n-th turn. -/
theorem l5_118 {H0 H : AHeap} {lo p q : Nat} {m m' : Sm} {F : Nat → Prop} {A0 : Option Addr} {xs : List Int} {b : Bool} {k n i : Nat} {N : Int} {u : V} {va : Value} {R : Value → AHeap → Prop} {again : List Value → AHeap → Prop} (hlo : lo ≤ H0.next) (hX : Rd 1 eU lo H0 A0 xs) (hxs : ∀ x ∈ xs, 0 ≤ x ∧ x < 256) (hlen : xs.length ≤ 200)
    (hi : i < xs.length) (hn : n = 0 ∨ n = 1) (hS : St H p m F) (hI : Inv m) (hq : Lv H F q (.cells (eV u) .var 28)) (hW : Wb H0 H F) (hq0 : H0.next ≤ q)
    (hm : m.make 2 [if n = 0 then lvX xs i else lvY xs b k i, u, if n = 0 then lvX xs i else lvY xs b k i] = (((7, N), 0), m'))
    (ha : ∀ H' F', St H' p m' F' → Lv H' F' q (.cells (eV (7, N)) .var 28) → Wb H0 H' F' → (∀ A ys, Lr H F A ys → Lr H' F' A ys) → again [.int .i64 ((i : Int) + 1)] H') :
    S5_118 (.slice A0 xs.length xs.length) (.bool b) R (Pt p) (.int .i64 k) [va, .int .i64 n] (Pt q) [.int .i64 i] H again := by
  unfold S5_118
  have hXH := hX.keep (H' := H) fun c hc => hW.keep.at_ c (by omega)
  have i1 := hXH.idx (k := .i64) (j := (i : Int)) (c := xs.length) (by omega) (by omega)
  rw [Int.toNat_natCast] at i1
  have l1 := hXH.ld (enc := Value.int .u8) hi
  obtain ⟨x0, x1⟩ := hxs xs[i] (List.getElem_mem hi)
  have eg : xs.getD i 0 = xs[i] := by rw [List.getD_eq_getElem?_getD, List.getElem?_eq_getElem hi]; rfl
  have w1 := wrap64 (x := xs[i]) (by omega) (by omega)
  have w2 := wrap64 (x := xs[i] + 1) (by omega) (by omega)
  have w3 := wrap64 (x := (i : Int) + 1) (by omega) (by omega)
  have hk1 : ∀ x y, Keep H.next H ((H.alloc x).upd H.next y) := fun x y => ((Keep.refl _ _).alloc (Nat.le_refl _) _).upd (Nat.le_refl _) _
  have hk2 : ∀ x y z, Keep H.next H (((H.alloc x).upd H.next y).upd H.next z) := fun x y z => (hk1 x y).upd (Nat.le_refl _) _
  have hnew : ¬ F H.next := fun hf => by have := hS.lt _ hf; omega
  have hne : q ≠ H.next := by have := hq.lt; omega
  simp [i1, l1, w1, -aLdCell_ptr]
  rw [aJoin_eq]
  have done : ∀ x y z : Blk, ∀ w : V, z = .cells (eV w) .var 28 → (if n = 0 then lvX xs i else lvY xs b k i) = w → S5_117 R (Pt p) (Pt q) [.int .i64 i] again (Pt H.next) (((H.alloc x).upd H.next y).upd H.next z) := by
    intro x y z w hz hw
    rw [hw] at hm
    exact l5_117 (hS.kept (hk2 _ _ _)) hI (hq.kept (hk2 _ _ _)) ⟨by rw [AHeap.at_upd_same, hz], by simp, hnew⟩ (hW.kept (hk2 _ _ _)) hq0 hm w3 fun H' F' h1 h2 h3 h4 => ha H' F' h1 h2 h3 fun A ys hA => h4 A ys (hA.kept (hk2 _ _ _))
  have done1 : ∀ x y : Blk, ∀ w : V, y = .cells (eV w) .var 28 → (if n = 0 then lvX xs i else lvY xs b k i) = w → S5_117 R (Pt p) (Pt q) [.int .i64 i] again (Pt H.next) ((H.alloc x).upd H.next y) := by
    intro x y w hz hw
    rw [hw] at hm
    exact l5_117 (hS.kept (hk1 _ _)) hI (hq.kept (hk1 _ _)) ⟨by rw [AHeap.at_upd_same, hz], by simp, hnew⟩ (hW.kept (hk1 _ _)) hq0 hm w3 fun H' F' h1 h2 h3 h4 => ha H' F' h1 h2 h3 fun A ys hA => h4 A ys (hA.kept (hk1 _ _))
  rcases hn with rfl | rfl
  · simp
    exact done1 _ _ (4, xs[i]) rfl (by simp [lvX, hi])
  · cases b with
    | false =>
      simp
      exact done1 _ _ (4, xs[i]) rfl (by simp [lvY, hi])
    | true =>
      by_cases hik : i = k
      · subst hik
        simp [at_upd, w2]
        exact done _ _ _ (4, xs[i] + 1) rfl (by simp [lvY, hi])
      · have hik' : ¬ (i : Int) = k := by omega
        simp [hik, hik']
        exact done1 _ _ (4, xs[i]) rfl (by simp [lvY, hi, hik])
end Go.Proofs.Ytngldjajfpbmbaa.A

set_option linter.unusedVariables false
set_option linter.unusedSimpArgs false
namespace Go.Proofs.Ytngldjajfpbmbaa.A
open Go Go.Abs

def rootsV (L n : Nat) : List V := (List.range n).map fun (j : Nat) => ((7 : Int), (((j + 1) * L : Nat) : Int) - 1)
theorem rootsV_succ (L n : Nat) : rootsV L (n + 1) = rootsV L n ++ [(7, (((n + 1) * L : Nat) : Int) - 1)] := by simp [rootsV, List.range_succ]
theorem rootsV_len (L n : Nat) : (rootsV L n).length = n := by simp [rootsV]
def stM (X Y : Nat → V) (L n i : Nat) : Sm := if n = 0 then tM X Y L i 0 else if n = 1 then tM X Y L L i else tM X Y L L L
theorem stM_next (X Y : Nat → V) (L : Nat) {n : Nat} (hn : n = 0 ∨ n = 1) : stM X Y L n L = stM X Y L (n + 1) 0 := by
  rcases hn with rfl | rfl <;> rfl

theorem l5_201 {H : AHeap} {p : Nat} {F : Nat → Prop} {A : Option Addr} {X Y : Nat → V} {L f : Nat} {b : Bool} (hX : ∀ n, (X n).1 = 4) (hY : ∀ n, (Y n).1 = 4) (hL : 1 ≤ L) (hL2 : L ≤ 200) (hS : St H p (tM X Y L L L) F) (hA : Lr H F A (rootsV L 2)) {x : Value} :
    S5_201 (.bool b) (fun r _ => r = .bool true) (Pt p) [.slice A 2 2, x] (runV (!b, f, 0)) H := by
  unfold S5_201
  have i0 := hA.ow.rd.idx (k := .i64) (j := (0 : Int)) (c := 2) (by omega) (by simp [rootsV_len])
  have l0 := hA.ow.rd.agg (j := 0) (by simp [rootsV_len])
  have i1 := hA.ow.rd.idx (k := .i64) (j := (1 : Int)) (c := 2) (by omega) (by simp [rootsV_len])
  have l1 := hA.ow.rd.agg (j := 1) (by simp [rootsV_len])
  have e0 : (rootsV L 2)[0]'(by simp [rootsV_len]) = (7, ((L - 1 : Nat) : Int)) := by simp [rootsV]; omega
  have e1 : (rootsV L 2)[1]'(by simp [rootsV_len]) = (7, ((L + (L - 1) : Nat) : Int)) := by simp [rootsV]; omega
  rw [e0] at l0
  rw [e1] at l1
  rw [rootsV_len] at i0 i1
  have i0' : aIdxAddr 2 (.slice A 2 2) (.int .i64 0) = some (slot 2 A 0) := i0
  have i1' : aIdxAddr 2 (.slice A 2 2) (.int .i64 1) = some (slot 2 A 1) := i1
  have bb : ((!b) == !b) = true := by simp
  simp [runV, bb, i0', i1', l0, l1, -aLdAgg_ptr]
  have hl := slotsOf_le (tM_inv (X := X) (Y := Y) (L := L) (i := L) (j := L) (by omega)) (tM_vd hX hY (.inl rfl) (Nat.le_refl _))
  refine (c22 hS hl (7, ((L - 1 : Nat) : Int)) (7, ((L + (L - 1) : Nat) : Int))).use ?_
  rw [(tM_node (X := X) (Y := Y) (j := L - 1) (by omega)).1]
  simp

theorem c5 {H0 : AHeap} {lo : Nat} {A0 : Option Addr} {xs : List Int} {at_ : Nat} {b : Bool} (hlo : lo ≤ H0.next) (hX : Rd 1 eU lo H0 A0 xs) (hxs : ∀ x ∈ xs, 0 ≤ x ∧ x < 256) (hat : at_ < 256) :
    ACalls Try.prog 5 [.slice A0 xs.length xs.length, .int .u8 at_, .bool b] H0 fun r _ => r = .bool true := by
  refine S5_calls ?_
  unfold S5
  refine (c13 (by omega) (by omega)).mono fun r H1 ⟨p, F, hr, hS, hkp, hF⟩ => ?_
  subst hr
  simp
  refine c20.use ?_
  unfold S5_204
  by_cases hbig : 200 < xs.length
  · have h1 : (200 : Int) < xs.length := by omega
    simp [h1]
    exact c20.use rfl
  by_cases hz : xs.length = 0
  · have h1 : ¬ (200 : Int) < xs.length := by omega
    have h2 : (xs.length : Int) = 0 := by omega
    have h3 : xs = [] := List.eq_nil_of_length_eq_zero hz
    subst h3
    simp
    exact c20.use rfl
  have h1 : ¬ (200 : Int) < xs.length := by omega
  have h2 : ¬ (xs.length : Int) = 0 := by omega
  have h3 : ¬ xs = [] := fun e => hz (by rw [e]; rfl)
  obtain ⟨k, hk⟩ : ∃ k, k = at_ % xs.length := ⟨_, rfl⟩
  have hkl : k < xs.length := hk ▸ Nat.mod_lt _ (by omega)
  have wk := wrap64 (x := (at_ : Int)) (by omega) (by omega)
  have ek : (at_ : Int).tmod xs.length = (k : Int) := by rw [Int.tmod_eq_emod_of_nonneg (by omega), hk]; exact (Int.natCast_emod _ _).symm
  simp [h1, h2, h3, wk, aBin_rem _ _ _ _ h2, ek]
  have gX : ∀ n, (lvX xs n).1 = 4 := fun n => rfl
  have gY : ∀ n, (lvY xs b k n).1 = 4 := fun n => by unfold lvY; split <;> rfl
  have e13 : Sm.new 4000 = stM (lvX xs) (lvY xs b k) xs.length 0 0 := rfl
  rw [e13] at hS
  have hW : Wb H0 H1 F := ⟨hkp, hF⟩
  refine aLoop_vs 2 (fun n vs H' => ∃ A F, vs = [.slice A (rootsV xs.length n).length (rootsV xs.length n).length, .int .i64 n] ∧ St H' p (stM (lvX xs) (lvY xs b k) xs.length n 0) F ∧ Wb H0 H' F ∧ Lr H' F A (rootsV xs.length n) ∧ ∀ x, A = some x → H0.next ≤ x.block) ⟨none, F, rfl, hS, hW, Lr.nil _ _, fun x hx => by cases hx⟩ ?_
  clear hS hW hF hkp
  rintro n vs H' again hn ⟨A, F, rfl, hS, hW, hA, hA0⟩ ha
  unfold S5_203
  rw [rootsV_len]
  by_cases hlt : n < 2
  · have hn2 : n = 0 ∨ n = 1 := by omega
    have hlt' : (n : Int) < 2 := by omega
    simp [hlt']
    unfold S5_127
    simp [at_alloc]
    obtain ⟨q, hq⟩ : ∃ q, q = H'.next := ⟨_, rfl⟩
    rw [← hq]
    have hk1 : ∀ x y, Keep H'.next H' ((H'.alloc x).upd H'.next y) := fun x y => ((Keep.refl _ _).alloc (Nat.le_refl _) _).upd (Nat.le_refl _) _
    have hnew : ¬ F H'.next := fun hf => by have := hS.lt _ hf; omega
    have hq0 : H0.next ≤ q := by have := hW.keep.next; omega
    refine aLoop_vs xs.length (fun i vs H2 => ∃ F, vs = [.int .i64 i] ∧ St H2 p (stM (lvX xs) (lvY xs b k) xs.length n i) F ∧ Wb H0 H2 F ∧ Lr H2 F A (rootsV xs.length n) ∧ Lv H2 F q (.cells (eV (upV (n * xs.length) i)) .var 28)) ⟨F, rfl, ?_, ?_, ?_, ?_⟩ ?_
    · rw [hq]; exact hS.kept (hk1 _ _)
    · rw [hq]; exact hW.kept (hk1 _ _)
    · rw [hq]; exact hA.kept (hk1 _ _)
    · rw [hq]; exact ⟨by simp [upV], by simp, hnew⟩
    clear hS hW hnew hk1 hA
    rintro i vs H2 again2 hi ⟨F2, rfl, hS2, hW2, hA2, hq2⟩ ha2
    unfold S5_126
    by_cases hil : i < xs.length
    · simp [hil]
      have hI : Inv (stM (lvX xs) (lvY xs b k) xs.length n i) := by
        rcases hn2 with rfl | rfl
        · exact tM_inv (by omega)
        · exact tM_inv (by omega)
      have hm : (stM (lvX xs) (lvY xs b k) xs.length n i).make 2 [if n = 0 then lvX xs i else lvY xs b k i, upV (n * xs.length) i, if n = 0 then lvX xs i else lvY xs b k i] = (((7, ((n * xs.length + i : Nat) : Int)), 0), stM (lvX xs) (lvY xs b k) xs.length n (i + 1)) := by
        rcases hn2 with rfl | rfl
        · simpa [stM] using tM_make1 (X := lvX xs) (Y := lvY xs b k) (L := xs.length) gX (i := i) (by omega)
        · simpa [stM] using tM_make2 (X := lvX xs) (Y := lvY xs b k) (L := xs.length) gY (by omega) (j := i) (by omega)
      exact l5_118 hlo hX hxs (by omega) hil hn2 hS2 hI hq2 hW2 hq0 hm fun H3 F3 h1 h2 h3 h4 => ha2 _ H3 hil ⟨F3, by simp, h1, h3, h4 _ _ hA2, by
        have : upV (n * xs.length) (i + 1) = (7, ((n * xs.length + i : Nat) : Int)) := by unfold upV; rw [if_neg (by omega)]; congr 1; omega
        rw [this]; exact h2⟩
    · have hie : i = xs.length := by omega
      subst hie
      simp [hil]
      unfold S5_125
      have w1 := wrap64 (x := (n : Int) + 1) (by omega) (by omega)
      have hqa := hq2.at_
      obtain ⟨N, hN⟩ : ∃ N : Int, N = (((n + 1) * xs.length : Nat) : Int) - 1 := ⟨_, rfl⟩
      have er : upV (n * xs.length) xs.length = (7, N) := by rw [hN]; unfold upV; rw [if_neg hz, Nat.add_mul]; congr 1; omega
      have e9 : rootsV xs.length (n + 1) = rootsV xs.length n ++ [(7, N)] := by rw [rootsV_succ, hN]
      rw [er] at hqa
      simp [hqa]
      have := app1 (v := (7, N)) (K := fun t92_122 H_123 => bnd (aBin BinOp.add EK.no (nth [Value.slice A n n, Value.int IntKind.i64 ↑n] 1) (Value.int IntKind.i64 1)) fun t49_124 => again [t92_122, t49_124] H_123) hS2.lt hA2 (by rw [rootsV_len]; omega) fun H3 hA3 hn3 hat3 => by
        simp only [nth_1, aBin_add, bnd_some', w1]
        have hW2n := hW2.keep.next
        refine ha _ H3 hlt ⟨_, F2, by rw [e9, List.length_append]; rfl, by
          rw [← stM_next _ _ _ hn2]
          exact hS2.frame hn3 fun c hc => hat3 c (hS2.lt c hc) fun x hx => by rintro rfl; exact hA2.nf x hx hc, ⟨⟨by omega, fun c hc => ?_⟩, hW2.hi⟩, by rw [e9]; exact hA3, fun x hx => by cases hx; show H0.next ≤ H2.next + 1; omega⟩
        rw [hat3 c (by omega) fun x hx => by have := hA0 x hx; omega]
        exact hW2.keep.at_ c hc
      rw [rootsV_len] at this
      exact this
  · have hne : n = 2 := by omega
    subst hne
    simp
    unfold S5_202
    have i0 := hA.ow.rd.idx (k := .i64) (j := (0 : Int)) (c := 2) (by omega) (by simp [rootsV_len])
    have l0 := hA.ow.rd.agg (j := 0) (by simp [rootsV_len])
    have i1 := hA.ow.rd.idx (k := .i64) (j := (1 : Int)) (c := 2) (by omega) (by simp [rootsV_len])
    have l1 := hA.ow.rd.agg (j := 1) (by simp [rootsV_len])
    have e0 : (rootsV xs.length 2)[0]'(by simp [rootsV_len]) = (7, ((xs.length - 1 : Nat) : Int)) := by simp [rootsV]; omega
    have e1 : (rootsV xs.length 2)[1]'(by simp [rootsV_len]) = (7, ((xs.length + (xs.length - 1) : Nat) : Int)) := by simp [rootsV]; omega
    rw [e0] at l0
    rw [e1] at l1
    rw [rootsV_len] at i0 i1
    have i0' : aIdxAddr 2 (.slice A 2 2) (.int .i64 0) = some (slot 2 A 0) := i0
    have i1' : aIdxAddr 2 (.slice A 2 2) (.int .i64 1) = some (slot 2 A 1) := i1
    have hS' : St H' p (tM (lvX xs) (lvY xs b k) xs.length xs.length xs.length) F := hS
    have hl := slotsOf_le (tM_inv (X := lvX xs) (Y := lvY xs b k) (L := xs.length) (i := xs.length) (j := xs.length) (by omega)) (tM_vd gX gY (.inl rfl) (Nat.le_refl _))
    simp only [nth_zero, i0', i1', l0, l1, bnd_some']
    refine (c21 hS' hl (7, ((xs.length - 1 : Nat) : Int)) (7, ((xs.length + (xs.length - 1) : Nat) : Int)) (fuel := 2000) (by omega)).use ?_
    obtain ⟨L, hL⟩ : ∃ L, L = xs.length := ⟨_, rfl⟩
    have e2 : (2000 : Int).toNat = 2000 := rfl
    rw [e2]
    cases b with
    | false =>
      have hrun := run_eq (X := lvX xs) (Y := lvY xs false k) (L := xs.length) (fun n _ => by simp [lvX, lvY]) (i := xs.length - 1) (by omega) (2000 - (3 * xs.length + 1))
      rw [show 2000 - (3 * xs.length + 1) + (xs.length - 1 + 1) + 2 * (xs.length - 1 + 1) + 1 = 2000 by omega] at hrun
      rw [hrun]
      exact l5_201 (b := false) gX gY (by omega) (by omega) hS' hA
    | true =>
      have hrun := run_ne (X := lvX xs) (Y := lvY xs true k) (L := xs.length) gX gY (k := k) (by
        intro e
        have := congrArg Prod.snd e
        simp [lvX, lvY] at this
        omega) (xs.length - 1 - k) (2000 - (2 * (xs.length - 1 - k) + 2)) [] (by omega) (fun n h1 h2 => by
        simp [lvX, lvY]
        intro e
        omega)
      rw [show 2000 - (2 * (xs.length - 1 - k) + 2) + 2 * (xs.length - 1 - k) + 2 = 2000 by omega, show k + (xs.length - 1 - k) = xs.length - 1 by omega] at hrun
      rw [hrun]
      exact l5_201 (b := true) gX gY (by omega) (by omega) hS' hA
theorem c5i {H0 : AHeap} {lo : Nat} {A0 : Option Addr} {xs : List Int} {a : Int} {b : Bool} (hlo : lo ≤ H0.next) (hX : Rd 1 eU lo H0 A0 xs) (hxs : ∀ x ∈ xs, 0 ≤ x ∧ x < 256) (ha : 0 ≤ a ∧ a < 256) :
    ACalls Try.prog 5 [.slice A0 xs.length xs.length, .int .u8 a, .bool b] H0 fun r _ => r = .bool true := by
  obtain ⟨n, rfl⟩ := Int.eq_ofNat_of_zero_le ha.1
  exact c5 hlo hX hxs (by omega)
end Go.Proofs.Ytngldjajfpbmbaa.A
