/- Contracts of functions that the statement reaches; each theorem carries its own conditions, the last theorem of the claim has none. -/
import Derived.Test.YtngldjajfpbmbaaS20
set_option linter.unusedVariables false
set_option linter.unusedSimpArgs false
namespace Go.Proofs.Ytngldjajfpbmbaa.A
open Go Go.Abs

abbrev eW (x : V × V) : List Value := [.int .i64 x.1.1, .int .i64 x.1.2, .int .i64 x.2.1, .int .i64 x.2.2]
abbrev vW (x : V × V) : Value := .agg #[.int .i64 x.1.1, .int .i64 x.1.2, .int .i64 x.2.1, .int .i64 x.2.2]
/-- The parts of two values of one shape. -/
def Sm.parts (m : Sm) (a b : V) : Option (List (V × V)) :=
  if m.kindOf a = m.kindOf b ∧ (m.slotsOf a).length = (m.slotsOf b).length ∧ (m.kindOf a = 1 ∨ m.kindOf a = 2 ∨ m.kindOf a = 3 ∨ m.kindOf a = 4) then some ((m.slotsOf a).zip (m.slotsOf b)) else none

theorem app1W {lo : Nat} {H : AHeap} {A : Option Addr} {xs : List (V × V)} {v : V × V} {K : Value → AHeap → Prop} (hlo : lo ≤ H.next) (h : Ow 4 eW 102 lo H A xs) (hn : xs.length ≤ 2199023255552)
    (hk : ∀ H', Ow 4 eW 102 lo H' (some ⟨H.next + 1, 0, none⟩) (xs ++ [v]) → H.next ≤ H'.next → (∀ b, b < H.next → (∀ x, A = some x → x.block ≠ b) → H'.at_ b = H.at_ b) → K (.slice (some ⟨H.next + 1, 0, none⟩) (xs.length + 1) (xs.length + 1)) H') :
    aAppend 4 32 102 (.slice A xs.length xs.length) (.slice (some ⟨H.next, 0, none⟩) 1 1) (H.alloc (.cells (eW v) (.row 4) 102)) K := by
  have hR : Rd 4 eW (H.next + 1) (H.alloc (.cells (eW v) (.row 4) 102)) (some ⟨H.next, 0, none⟩) [v] := Rd.mk' (by simp) (by omega) (AHeap.at_alloc_new _ _) (by simp) (by simp) (by simp)
  have := (h.alloc (.cells (eW v) (.row 4) 102)).append (bytes := 32) (c := xs.length) (c' := 1) (K := K) hR (by simp; omega) (by simp only [maxLen, List.length_singleton]; omega) (by simp only [List.length_singleton]; omega) fun H' hO hn' hat _ => by
    simp at hO hn' hat
    rw [List.length_append, List.length_singleton]
    refine hk H' hO (by omega) fun b hb hA => ?_
    rw [hat b (by omega) fun o s hh => hA _ hh rfl, AHeap.at_alloc_ne _ _ (by omega)]
  simpa using this

def partsRes (m : Sm) (a b : V) (H : AHeap) (r : Value) (H' : AHeap) : Prop := match m.parts a b with
  | none => r = .tuple #[.slice none 0 0, .bool false] ∧ Keep H.next H H'
  | some l => ∃ B, r = .tuple #[.slice B l.length l.length, .bool true] ∧ Ow 4 eW 102 H.next H' B l ∧ Keep H.next H H'
theorem c48 {H : AHeap} {p : Nat} {m : Sm} {F : Nat → Prop} (h : St H p m F) (hl : ∀ v, (m.slotsOf v).length ≤ 1048576) (a b : V) : ACalls Try.prog 48 [Pt p, vW (a, b)] H (partsRes m a b H) := by
  refine S48_calls ?_
  unfold S48
  have hk : ∀ x, Keep H.next H (H.alloc x) := fun x => (Keep.refl _ _).alloc (Nat.le_refl _) _
  obtain ⟨G, hG⟩ : ∃ X, X = H.alloc (.cells (vcells (vW (a, b))) .var 102) := ⟨_, rfl⟩
  have eG : G.at_ H.next = .cells (eW (a, b)) .var 102 := by rw [hG]; simp
  have hkG : Keep H.next H G := hG ▸ hk _
  have hGn : G.next = H.next + 1 := by rw [hG]; simp
  simp only [aBox_eq, ← hG]
  clear hG
  have ga : ∀ G', G'.at_ H.next = .cells (eW (a, b)) .var 102 → aLdAgg 2 (.pointer (some ⟨H.next, 0, none⟩)) G' = some (vV a) := by intro G' h'; simp [h']
  have gb : ∀ G', G'.at_ H.next = .cells (eW (a, b)) .var 102 → aLdAgg 2 (.pointer (some ⟨H.next, 2, none⟩)) G' = some (vV b) := by intro G' h'; simp [h']
  have hS := h.kept hkG
  refine ⟨by simp, ?_⟩
  simp only [aAdd_ptr, bnd_some', ga G eG, Nat.zero_add]
  refine (c36 hS a).use ?_
  simp only [gb G eG, bnd_some']
  refine (c36 hS b).use ?_
  unfold S48_106
  by_cases h1 : m.kindOf a = m.kindOf b
  · simp only [h1, aBin_neq, bnd_some', decide_true, Bool.not_true, aGuardK_ff, aAdd_ptr, Nat.zero_add, ga G eG, gb G eG]
    refine (c37 hS a).use ?_
    refine ⟨by simp only [gb G eG, bnd_some'], (c37 hS b).use ?_⟩
    by_cases h2 : (m.slotsOf a).length = (m.slotsOf b).length
    · simp only [h2, aBin_neq, bnd_some', decide_true, Bool.not_true, aPick_ff, aCond_false]
      rw [aJoin_eq]
      have no : ∀ x, ¬ (m.kindOf b = 1 ∨ m.kindOf b = 2 ∨ m.kindOf b = 3 ∨ m.kindOf b = 4) → x = Value.bool false → S48_102 (Pt p) (partsRes m a b H) (.pointer (some ⟨H.next, 0, none⟩)) [x] G := by
        rintro x hno rfl
        unfold S48_102 partsRes
        have : m.parts a b = none := by unfold Sm.parts; rw [if_neg]; rintro ⟨_, _, h⟩; rw [h1] at h; exact hno h
        rw [this]
        simp
        exact hkG
      have yes : ∀ x, (m.kindOf b = 1 ∨ m.kindOf b = 2 ∨ m.kindOf b = 3 ∨ m.kindOf b = 4) → x = Value.bool true → S48_102 (Pt p) (partsRes m a b H) (.pointer (some ⟨H.next, 0, none⟩)) [x] G := by
        rintro x hy rfl
        unfold S48_102
        have hp : m.parts a b = some ((m.slotsOf a).zip (m.slotsOf b)) := by unfold Sm.parts; rw [if_pos ⟨h1, h2, by rw [h1]; exact hy⟩]
        simp only [nth_zero, aCond_true, aAdd_ptr, bnd_some', Nat.zero_add, ga G eG]
        refine (c37 hS a).use ?_
        have hla := hl a
        have hlz : ((m.slotsOf a).zip (m.slotsOf b)).length = (m.slotsOf a).length := by simp [h2]
        refine aLoop_vs (m.slotsOf a).length (fun i vs H' => ∃ B, vs = [.slice B (((m.slotsOf a).zip (m.slotsOf b)).take i).length (((m.slotsOf a).zip (m.slotsOf b)).take i).length, .int .i64 i] ∧ Ow 4 eW 102 G.next H' B (((m.slotsOf a).zip (m.slotsOf b)).take i) ∧ Keep G.next G H') ⟨none, rfl, Ow.nil _ _ _ _ _, Keep.refl _ _⟩ ?_
        rintro i vs H' again hi ⟨B, rfl, hB, hk'⟩ ha
        unfold S48_96
        have hkn := hk'.next
        by_cases hlt : i < (m.slotsOf a).length
        · have hlt' : i < (m.slotsOf b).length := by omega
          have w1 := wrap64 (x := (i : Int) + 1) (by omega) (by omega)
          simp [hlt, -List.length_take, -List.length_zip]
          unfold S48_95
          have eH' : H'.at_ H.next = .cells (eW (a, b)) .var 102 := by rw [hk'.at_ _ (by omega)]; exact eG
          simp only [aAdd_ptr, bnd_some', Nat.zero_add, ga H' eH', nth_1]
          refine (c18 (hS.kept hk') a i).use ?_
          have hk3 : ∀ x y, Keep H'.next H' ((H'.alloc x).upd H'.next y) := fun x y => ((Keep.refl _ _).alloc (Nat.le_refl _) _).upd (Nat.le_refl _) _
          have gb2 : ∀ x y, aLdAgg 2 (.pointer (some ⟨H.next, 2, none⟩)) ((H'.alloc x).upd H'.next y) = some (vV b) := fun x y => gb _ (by rw [(hk3 x y).at_ _ (by omega)]; exact eH')
          simp [at_alloc, gb2, -aLdAgg_ptr, -List.length_take, -List.length_zip]
          refine (c18 ((hS.kept hk').kept (hk3 _ _)) b i).use ?_
          unfold S48_94
          have l8 : ∀ (x : Blk) (y : V) (z w : Blk), aLdAgg 2 (Pt H'.next) ((((H'.alloc x).upd H'.next (.cells [.int .i64 y.1, .int .i64 y.2] .var 28)).alloc z).upd (H'.next + 1) w) = some (vV y) := by
            intro x y z w
            simp [at_alloc, at_upd]
          have l10 : ∀ (x : AHeap) (y : V), aLdAgg 2 (Pt (H'.next + 1)) (x.upd (H'.next + 1) (.cells [.int .i64 y.1, .int .i64 y.2] .var 28)) = some (vV y) := by
            intro x y
            simp [at_alloc, at_upd]
          have hk4 : ∀ x y z w, Keep H'.next H' ((((H'.alloc x).upd H'.next y).alloc z).upd (H'.next + 1) w) := fun x y z w => ((hk3 x y).alloc (by simp) _).upd (by omega) _
          have hz : ((m.slotsOf a).zip (m.slotsOf b))[i]? = some ((m.slotsOf a)[i], (m.slotsOf b)[i]) := zip_at (List.getElem?_eq_getElem hlt) (List.getElem?_eq_getElem hlt')
          simp [at_alloc, l8, l10, -aLdAgg_ptr, -List.length_take, -List.length_zip]
          rw [get_slots hlt, get_slots hlt']
          obtain ⟨G2, hG2⟩ : ∃ X, X = (((H'.alloc (.cells [.int .i64 0, .int .i64 0] .var 28)).upd H'.next (.cells [.int .i64 (m.slotsOf a)[i].1, .int .i64 (m.slotsOf a)[i].2] .var 28)).alloc (.cells [.int .i64 0, .int .i64 0] .var 28)).upd (H'.next + 1) (.cells [.int .i64 (m.slotsOf b)[i].1, .int .i64 (m.slotsOf b)[i].2] .var 28) := ⟨_, rfl⟩
          have hkG2 : Keep H'.next H' G2 := hG2 ▸ hk4 _ _ _ _
          have hnG2 : G2.next = H'.next + 1 + 1 := by rw [hG2]; simp
          simp only [← hG2]
          clear hG2
          have hlt3 : (((m.slotsOf a).zip (m.slotsOf b)).take i).length = i := by rw [List.length_take, hlz]; omega
          have := app1W (lo := G.next) (v := ((m.slotsOf a)[i], (m.slotsOf b)[i])) (K := fun t68_91 H_92 => again [t68_91, .int .i64 (IntKind.i64.wrap ((i : Int) + 1))] H_92) (by rw [hnG2]; omega) (hB.kept hkG2) (by omega) fun H3 hO3 hn3 hat3 => by
            rw [w1]
            have e3 : ((m.slotsOf a).zip (m.slotsOf b)).take (i + 1) = ((m.slotsOf a).zip (m.slotsOf b)).take i ++ [((m.slotsOf a)[i], (m.slotsOf b)[i])] := by
              rw [List.take_add_one, hz]; rfl
            refine ha _ H3 hlt ⟨_, by rw [e3, List.length_append]; rfl, by rw [e3]; exact hO3, ⟨by have := hkG2.next; omega, fun c hc => ?_⟩⟩
            rw [hat3 c (by have := hkG2.next; omega) fun x hx => by have := ((hB.kept hkG2).blkOf hx).2.1; omega, hkG2.at_ c (by omega)]
            exact hk'.at_ c hc
          rw [hnG2] at this
          exact this
        · have hie : i = (m.slotsOf a).length := by omega
          subst hie
          have e3 : ((m.slotsOf a).zip (m.slotsOf b)).take (m.slotsOf a).length = (m.slotsOf a).zip (m.slotsOf b) := by rw [← hlz, List.take_length]
          rw [e3] at hB ⊢
          simp [-List.length_zip]
          unfold partsRes
          rw [hp]
          exact ⟨B, rfl, hB.lower (by omega), hkG.trans (hk'.lower (by omega))⟩
      by_cases g1 : m.kindOf b = 1
      · simp [g1]; exact yes _ (by simp [g1]) rfl
      by_cases g2 : m.kindOf b = 2
      · simp [g1]; unfold S48_101; simp [g2]; exact yes _ (by simp [g2]) rfl
      by_cases g3 : m.kindOf b = 3
      · simp [g1]; unfold S48_101; simp [g2, g3]; exact yes _ (by simp [g3]) rfl
      by_cases g4 : m.kindOf b = 4
      · simp [g1]; unfold S48_101; simp [g2, g3, g4]; exact yes _ (by simp [g4]) rfl
      · simp [g1]; unfold S48_101; simp [g2, g3, g4]; exact no _ (by simp [g1, g2, g3, g4]) rfl
    · have h2' : ¬ ((m.slotsOf a).length : Int) = (m.slotsOf b).length := by omega
      have hp : m.parts a b = none := by unfold Sm.parts; rw [if_neg]; rintro ⟨_, h, _⟩; exact h2 h
      simp [h2', partsRes, hp, hkG]
  · have hp : m.parts a b = none := by unfold Sm.parts; rw [if_neg]; rintro ⟨h, _⟩; exact h1 h
    simp [h1, partsRes, hp, hkG]
end Go.Proofs.Ytngldjajfpbmbaa.A
