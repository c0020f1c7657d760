/- Contracts of functions that the statement reaches; each theorem carries its own conditions, the last theorem of the claim has none. -/
import Derived.Test.YtcjckenainacaaaW4
set_option linter.unusedVariables false
set_option linter.unusedSimpArgs false
namespace Go.Proofs.Ytcjckenainacaaa.A
open Go Go.Abs

@[simp] theorem blkOf_ptr (b o : Nat) (s : Option Nat) : blkOf (.pointer (some ⟨b, o, s⟩)) = b := nr rfl
def light (m s : List Int) : Bool := decide (m.length ≤ 2000) && decide (s.length ≤ 2000)
theorem light_iff {m s : List Int} (h : light m s = true) : m.length ≤ 2000 ∧ s.length ≤ 2000 := by simpa [light] using h
theorem c13w {lo : Nat} {H : AHeap} {a : Value} {m s : List Int} (ha : IsW lo H a m s) : ACalls Try.prog 13 [a] H fun v H' => v = .bool (light m s) ∧ H' = H := by
  obtain ⟨A, B, rfl, _, _⟩ := ha
  exact c13
theorem HW.nil (H : AHeap) : HW H.next (H.alloc (.cells [.slice none 0 0, .slice none 0 0] .var 24)) [] [] := ⟨by simp, none, none, by simp, Rd.nil _ _ _ _, Rd.nil _ _ _ _⟩
theorem Keep.new (H : AHeap) (x : Blk) : Keep H.next H (H.alloc x) := (Keep.refl _ _).alloc (Nat.le_refl _) _

/-- WrapJoins. -/
theorem c8 {lo : Nat} {H : AHeap} {a b : Value} {m s n t : List Int} (hl : lo ≤ H.next) (ha : IsW lo H a m s) (hb : IsW lo H b n t) : ACalls Try.prog 8 [a, b] H fun v H' => v = .bool true := by
  refine S8_calls ?_
  unfold S8
  refine HW.box hl ha fun H1 w1 k1 n1 => ?_
  refine HW.box (lo := lo) (by omega) (hb.kept (k1.lower hl)) fun H2 w2 k2 n2 => ?_
  have w1 := w1.kept k2
  have hne : H.next ≠ H1.next := by omega
  refine c11.use ?_
  obtain ⟨v1, e1, i1⟩ := w1.ld
  obtain ⟨v2, e2, i2⟩ := w2.ld
  generalize H.next = p1 at *
  generalize H1.next = p2 at *
  clear k1 k2 n1 n2
  unfold S8_201
  simp [-aLdAgg_ptr, e1]
  refine (c13w i1).use ?_
  cases h1 : light m s
  · simp
    exact c11.use rfl
  simp [-aLdAgg_ptr, e2]
  refine (c13w i2).use ?_
  cases h2 : light n t
  · simp
    exact c11.use rfl
  have h1 := light_iff h1
  have h2 := light_iff h2
  simp
  unfold S8_200
  simp [-aLdAgg_ptr, e1, e2]
  have kA := Keep.new H2 (.cells [.slice none 0 0, .slice none 0 0] .var 24)
  have w5 := HW.nil H2
  have g5 : H2.next ≠ p1 ∧ H2.next ≠ p2 := by have := w1.1; have := w2.1; omega
  refine (c16 (Nat.le_succ _) (i1.kept kA) (by omega) (by omega)).mono fun v3 H3 ⟨i3, k3⟩ => ?_
  have kA3 := kA.trans (k3.lower (Nat.le_succ _))
  refine ⟨⟨by rw [Keep.ldAgg kA3 w2.1, e2]; simp, k3.at_ _ (by simp)⟩, ?_⟩
  refine (c16 kA3.next (i2.kept kA3) (by omega) (by omega)).mono fun v4 H4 ⟨i4, k4⟩ => ?_
  have w5 := w5.kept k3
  refine ⟨k4.at_ _ w5.1, ?_⟩
  refine (c15w (Nat.le_refl _) ((i3.kept k4).up k4.next) i4).mono fun v H5 hv => ?_
  obtain ⟨v5, rfl, i5, k5⟩ := hv
  have w5 := w5.kept k4
  unfold S8_198
  refine ⟨k5.at_ _ w5.1, ?_⟩
  have w5 := w5.kept k5
  obtain ⟨H6, e6, w56, _, q6⟩ := w5.put i5
  have kA4 := kA3.trans (k4.lower kA3.next)
  have kA5 := kA4.trans (k5.lower kA4.next)
  have w16 := q6 _ _ _ g5.1.symm (w1.kept kA5)
  have w26 := q6 _ _ _ g5.2.symm (w2.kept kA5)
  clear q6
  obtain ⟨A, B, x1, j1⟩ := w16.isW
  obtain ⟨C, D, x2, j2⟩ := w26.isW
  obtain ⟨_, _, hh, hA, hB⟩ := j1
  simp at hh
  obtain ⟨rfl, rfl⟩ := hh
  obtain ⟨_, _, hh, hC, hD⟩ := j2
  simp at hh
  obtain ⟨rfl, rfl⟩ := hh
  simp [-aSt_ptr, -aLdAgg_ptr, e6, x1, x2]
  refine (c19 (Nat.le_refl _) hA hB hC hD).mono fun v H7 hv => ?_
  obtain ⟨E, F, rfl, hE, hF, k7⟩ := hv
  have w17 := w16.kept k7
  have w27 := w26.kept k7
  have w57 := w56.kept k7
  obtain ⟨v17, e17, i17⟩ := w17.ld
  have x17 := (k7.at_ _ w16.1).trans x1
  unfold S8_197
  simp [-aLdAgg_ptr, e17, x17]
  refine (c16 (Nat.le_refl _) i17 (by omega) (by omega)).mono fun v8 H8 ⟨i8, k8⟩ => ?_
  have x18 := (k8.at_ _ w17.1).trans x17
  unfold S8_196
  simp [x18]
  refine (c12w (Nat.le_refl _) i8).use ?_
  refine ⟨⟨by simp [x18], by simp [x18]⟩, ?_⟩
  refine (c18 ((hA.kept k7).kept (k8.lower k7.next)) ((hB.kept k7).kept (k8.lower k7.next))).use ?_
  have w18 := w17.kept k8
  have w28 := w27.kept k8
  have w58 := w57.kept k8
  obtain ⟨u1, e1, i1⟩ := w18.ld
  obtain ⟨u2, e2, i2⟩ := w28.ld
  obtain ⟨u5, e5, i5⟩ := w58.ld
  unfold S8_191
  simp [-aLdAgg_ptr, e1, e2, e5, aFill, setCells]
  have i9 : IsW H8.next H8 (.agg #[.slice E (joinL m s n t).1.length (joinL m s n t).1.length, .slice F (joinL m s n t).2.1.length (joinL m s n t).2.1.length]) (joinL m s n t).1 (joinL m s n t).2.1 :=
    ⟨E, F, rfl, (hE.kept k8).up k8.next, (hF.kept k8).up k8.next⟩
  have hj1 : (joinL m s n t).1.length ≤ 100000 ∧ (joinL m s n t).2.1.length ≤ 100000 := by
    unfold joinL join2
    split
    · simp
    split <;> split <;> try (split)
    all_goals first | (simp; done) | (simp; simp [sound, small] at *; omega)
  refine (c17 (Nat.le_refl _) i5 i9 (by omega) (by omega)).use ?_
  simp [-aLdAgg_ptr, e1, e2]
  refine (c16 (Nat.le_refl _) i1 (by omega) (by omega)).mono fun v9 H9 ⟨i10, k9⟩ => ?_
  have f1 := (Keep.ldAgg k9 (n := 2) (o := 0) w18.1).trans e1
  have f2 := (Keep.ldAgg k9 (n := 2) (o := 0) w28.1).trans e2
  simp [-aLdAgg_ptr, f1, f2]
  refine (c16 k9.next (i2.kept k9) (by omega) (by omega)).mono fun v10 H10 ⟨i11, k10⟩ => ?_
  have k810 := k9.trans (k10.lower k9.next)
  have f1 := (Keep.ldAgg k810 (n := 2) (o := 0) w18.1).trans e1
  have f2 := (Keep.ldAgg k810 (n := 2) (o := 0) w28.1).trans e2
  simp [-aLdAgg_ptr, f1, f2]
  refine (c20 (Nat.le_refl _) ((i10.kept k10).up k10.next) i11 (by omega) (by omega)).use ?_
  simp [-aLdAgg_ptr, f1, f2]
  refine (c17 (Nat.le_refl _) ((i1.kept k810).up k810.next) ((i2.kept k810).up k810.next) (by omega) (by omega)).use ?_
  simp
end Go.Proofs.Ytcjckenainacaaa.A
