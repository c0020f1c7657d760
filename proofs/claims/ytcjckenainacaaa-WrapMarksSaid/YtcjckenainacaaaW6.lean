import Derived.Test.YtcjckenainacaaaW5
set_option linter.unusedVariables false
set_option linter.unusedSimpArgs false
namespace Go.Proofs.Ytcjckenainacaaa.A
open Go Go.Abs

def ribS (n : Int) : List Int := if n < 1 then [] else [n]
theorem sound_mark (n : Int) : sound (markM n) (markS n) = true := by
  unfold sound small markM markS
  by_cases h : n = 0 ∨ n < -1
  · simp only [h, if_true]; decide +kernel
  · simp only [h, if_false]
    simp [okW, okSubs, okMarks]
    omega
theorem sound_rib (n : Int) : sound [] (ribS n) = true := by
  unfold sound small ribS
  by_cases h : n < 1
  · simp only [h, if_true]; decide +kernel
  · simp only [h, if_false]
    have hc : List.count 0 [n] = 0 := by rw [List.count_eq_zero]; simp; omega
    rw [Bool.and_eq_true]
    refine ⟨by simp, decide_eq_true ⟨?_, ?_, hc⟩⟩
    · intro s hs
      simp at hs
      omega
    · intro i hi
      simp at hi

theorem c3 {H : AHeap} {n : Int} : ACalls Try.prog 3 [.int .i64 n] H fun v H' => v = .bool true := by
  refine S3_calls ?_
  unfold S3
  refine c9.mono fun a H1 ⟨h1, k1⟩ => ?_
  refine c10.mono fun b H2 ⟨h2, k2⟩ => ?_
  have h1 := (h1.kept k2).up k2.next
  have sm := sound_mark n
  have sr := sound_rib n
  change IsW H2.next H2 b [] (ribS n) at h2
  obtain ⟨A, B, rfl, hA, hB⟩ := h1
  obtain ⟨C, D, rfl, hC, hD⟩ := h2
  unfold S3_248
  simp [at_alloc, at_upd, setCells, Nat.add_assoc]
  obtain ⟨H3, hH3⟩ : ∃ X, X = ((((H2.alloc (.cells [.slice none 0 0, .slice none 0 0] .var 24)).alloc (.cells [.slice none 0 0, .slice none 0 0] .var 24)).upd H2.next (.cells [.slice A (markM n).length (markM n).length, .slice B (markS n).length (markS n).length] .var 24)).upd (H2.next + 1) (.cells [.slice C 0 0, .slice D (ribS n).length (ribS n).length] .var 24)) := ⟨_, rfl⟩
  have x1 : H3.at_ H2.next = .cells [.slice A (markM n).length (markM n).length, .slice B (markS n).length (markS n).length] .var 24 := by rw [hH3]; simp [at_upd]
  have x2 : H3.at_ (H2.next + 1) = .cells [.slice C 0 0, .slice D (ribS n).length (ribS n).length] .var 24 := by rw [hH3]; simp [at_upd]
  have xk : Keep H2.next H2 H3 := by rw [hH3]; repeat (first | exact Keep.refl _ _ | refine Keep.alloc ?_ (by simp <;> omega) _ | refine Keep.upd ?_ (by simp) _)
  have xl : H2.next ≤ H3.next := xk.next
  rw [← hH3]
  clear hH3
  have hA := hA.kept xk
  have hB := hB.kept xk
  have hC := hC.kept xk
  have hD := hD.kept xk
  have cM := c12 (H := H3) xl hA hB
  have cR := c12 (H := H3) xl hC hD
  rw [sm] at cM
  rw [sr] at cR
  have key : ∀ b : Bool, b = (decide (0 < n) || decide (n = -1)) → S3_247 (.int .i64 n) (fun v H' => v = .bool true) (.pointer (some ⟨H2.next, 0, none⟩)) (.pointer (some ⟨H2.next + 1, 0, none⟩)) (.bool b) (.bool true) H3 := by
    intro b hb
    unfold S3_247
    simp [x1, x2]
    refine cM.use ?_
    simp [x1, x2]
    refine cR.use ?_
    simp [x1, x2]
    unfold S3_246
    by_cases hp : 0 < n
    · have m1 : markM n = [n] := by simp [markM]; omega
      have m2 : markS n = [0] := by simp [markS]; omega
      have m3 : ribS n = [n] := by simp [ribS]; omega
      rw [m1] at hA; rw [m2] at hB; rw [m3] at hD; rw [m1, m2] at x1; rw [m3] at x2
      have i1 := hA.idx (k := .i64) (j := 0) (c := 1) (by omega) (by simp)
      have i2 := hB.idx (k := .i64) (j := 0) (c := 1) (by omega) (by simp)
      have i3 := hD.idx (k := .i64) (j := 0) (c := 1) (by omega) (by simp)
      have l1 := hA.ld (j := 0) (by simp)
      have l2 := hB.ld (j := 0) (by simp)
      have l3 := hD.ld (j := 0) (by simp)
      simp at i1 i2 i3 l1 l2 l3
      have hbt : b = true := by rw [hb]; simp [hp]
      subst hbt
      simp [x1, x2, i1, i2, i3, l1, l2, l3]
      unfold S3_245
      simp [x1, x2, i1, i2, i3, l1, l2, l3, hp, show ¬ n < 1 by omega]
    · have m3 : ribS n = [] := by simp [ribS]; omega
      by_cases hq : n = -1
      · subst hq
        have m1 : markM (-1) = [-1] := by decide
        have m2 : markS (-1) = [0] := by decide
        rw [m1] at hA; rw [m2] at hB; rw [m3] at hD; rw [m1, m2] at x1; rw [m3] at x2
        have i1 := hA.idx (k := .i64) (j := 0) (c := 1) (by omega) (by simp)
        have i2 := hB.idx (k := .i64) (j := 0) (c := 1) (by omega) (by simp)
        have l1 := hA.ld (j := 0) (by simp)
        have l2 := hB.ld (j := 0) (by simp)
        simp at i1 i2 l1 l2
        have hbt : b = true := by rw [hb]; rfl
        subst hbt
        simp [x1, x2, i1, i2, l1, l2]
        unfold S3_245
        simp [x1, x2, i1, i2, l1, l2]
      · have m1 : markM n = [] := by simp [markM]; omega
        have m2 : markS n = [] := by simp [markS]; omega
        rw [m1] at hA; rw [m2] at hB; rw [m3] at hD; rw [m1, m2] at x1; rw [m3] at x2
        have hbt : b = false := by rw [hb]; simp [hp, hq]
        subst hbt
        simp [x1, x2]
        unfold S3_245
        simp [x1, x2, hp, show n < 1 by omega]
  by_cases hp : 0 < n
  · simp [hp]
    refine c11.use ?_
    exact key true (by simp [hp])
  · simp [hp]
    refine c11.use ?_
    exact key _ (by simp [hp])
end Go.Proofs.Ytcjckenainacaaa.A
