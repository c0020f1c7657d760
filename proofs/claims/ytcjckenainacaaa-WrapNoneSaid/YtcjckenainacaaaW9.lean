/- Contracts of functions that the statement reaches; each theorem carries its own conditions, the last theorem of the claim has none. -/
import Derived.Test.YtcjckenainacaaaW4
set_option linter.unusedVariables false
set_option linter.unusedSimpArgs false
namespace Go.Proofs.Ytcjckenainacaaa.A
open Go Go.Abs

theorem cut_nil_r (m s : List Int) : cut m s [] [] = false := by simp [cut]
theorem cut_nil_l (m s : List Int) : cut [] [] m s = false := by simp [cut]
theorem sound_nil : sound [] [] = true := by decide +kernel
theorem join_nil_r (m s : List Int) : joinL m s [] [] = if sound m s then (m, s, 0) else ([], [], 2) := by
  by_cases h : sound m s = true
  · have h' := h
    simp only [sound, Bool.and_eq_true] at h'
    simp only [joinL, h, sound_nil, cut_nil_r, join2, List.append_nil, h'.1, h'.2, if_true]
    rfl
  · simp [joinL, h]
theorem join_nil_l (m s : List Int) : joinL [] [] m s = if sound m s then (m, s, 0) else ([], [], 2) := by
  by_cases h : sound m s = true
  · have h' := h
    simp only [sound, Bool.and_eq_true] at h'
    simp only [joinL, h, sound_nil, cut_nil_l, join2, List.nil_append, h'.1, h'.2, if_true]
    rfl
  · simp [joinL, h]

/-- WrapNone. -/
theorem c5 {lo : Nat} {H : AHeap} {a : Value} {m s : List Int} (hl : lo ≤ H.next) (ha : IsW lo H a m s) : ACalls Try.prog 5 [a] H fun v H' => v = .bool true := by
  refine S5_calls ?_
  unfold S5
  refine HW.box hl ha fun H1 w1 k1 n1 => ?_
  refine c11.use ?_
  obtain ⟨v1, e1, i1⟩ := w1.ld
  unfold S5_114
  simp [e1]
  obtain ⟨A, B, rfl, hA, hB⟩ := i1
  refine c13.use ?_
  have i1 : IsW H1.next H1 (W A m.length B s.length) m s := ⟨A, B, rfl, hA, hB⟩
  by_cases hs : (decide (m.length ≤ 2000) && decide (s.length ≤ 2000)) = true
  · simp only [hs]
    simp
    have hs' : m.length ≤ 2000 ∧ s.length ≤ 2000 := by simpa using hs
    unfold S5_113
    simp [e1]
    refine (c16 (Nat.le_refl _) i1 (by omega) (by omega)).mono fun v2 H2 ⟨i2, k2⟩ => ?_
    simp [aFill]
    refine (c15w (Nat.le_refl _) i2 (IsW.emp _ _)).mono fun v3 H3 hv => ?_
    obtain ⟨v3', rfl, i3, k3⟩ := hv
    unfold S5_112
    obtain ⟨H4, e4, w4, k4⟩ := HW.new i3
    have k24 := k2.trans ((k3.trans (k4.lower k3.next)).lower k2.next)
    have k14 : Keep H1.next H1 H4 := k24
    have w14 := w1.kept k14
    have hp : H.next ≠ H3.next := by have := w1.1; have := k2.next; have := k3.next; omega
    obtain ⟨v5, e5, i5⟩ := w14.ld
    simp [-aSt_ptr, -aLdAgg_ptr, e4, aFill, e5]
    refine (c16 (Nat.le_refl _) i5 (by omega) (by omega)).mono fun v6 H6 ⟨i6, k6⟩ => ?_
    refine (c15w (Nat.le_refl _) (IsW.emp _ _) i6).mono fun v7 H7 hv => ?_
    obtain ⟨v7', rfl, i7, k7⟩ := hv
    unfold S5_111
    obtain ⟨H8, e8, w8, k8⟩ := HW.new i7
    have k48 : Keep H4.next H4 H8 := k6.trans ((k7.trans (k8.lower k7.next)).lower k6.next)
    have w18 := w14.kept k48
    have w48 := w4.kept k48
    obtain ⟨C, D, x8, i8'⟩ := w18.isW
    obtain ⟨_, _, h, hC, hD⟩ := i8'
    injection h with h
    simp at h
    obtain ⟨rfl, rfl⟩ := h
    simp [-aSt_ptr, e8, x8]
    refine (c18 hC hD).use ?_
    rw [join_nil_r] at w48 ⊢
    rw [join_nil_l] at w8 ⊢
    by_cases hso : sound m s = true
    · simp only [hso, if_true] at w48 w8 ⊢
      obtain ⟨v9, e9, i9⟩ := w48.ld
      obtain ⟨v10, e10, i10⟩ := w8.ld
      obtain ⟨v11, e11, i11⟩ := w18.ld
      simp
      unfold S5_110
      simp [e9, e11]
      refine (c17 (Nat.le_refl _) i9 i11 (by omega) (by omega)).use ?_
      simp [e10, e11]
      refine (c17 (Nat.le_refl _) i10 i11 (by omega) (by omega)).use ?_
      simp
    · simp only [hso, if_false]
      simp
      unfold S5_64
      simp
  · have hs2 : (decide (m.length ≤ 2000) && decide (s.length ≤ 2000)) = false := by simpa using hs
    simp only [hs2]
    simp
    exact c11.use rfl
end Go.Proofs.Ytcjckenainacaaa.A
