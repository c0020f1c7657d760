/- Contracts of functions that the statement reaches; each theorem carries its own conditions, the last theorem of the claim has none. -/
import Derived.Test.YtcjckenainacaaaW3
set_option linter.unusedVariables false
set_option linter.unusedSimpArgs false
namespace Go.Proofs.Ytcjckenainacaaa.A
open Go Go.Abs

def join2 (m s n t : List Int) : List Int × List Int × Int :=
  if !small (m ++ n) (s ++ t) then ([], [], 6) else if !decide (okW (m ++ n) (s ++ t)) then ([], [], 2) else (m ++ n, s ++ t, 0)
def joinL (m s n t : List Int) : List Int × List Int × Int :=
  if !sound m s || !sound n t then ([], [], 2)
  else if cut m s n t then join2 m.dropLast s.dropLast n.tail t.tail else join2 m s n t

theorem l103 {lo p2 p3 p4 : Nat} {H : AHeap} {R : Value → AHeap → Prop} {A B C D : Option Addr} {m s n t : List Int} (h2 : lo ≤ p2) (h3 : lo ≤ p3) (h4 : lo ≤ p4) (k2 : p2 < H.next) (k3 : p3 < H.next) (k4 : p4 < H.next)
    (a2 : H.at_ p2 = .cells [.slice A m.length m.length, .slice B s.length s.length] .var 24) (a3 : H.at_ p3 = .cells [.slice C n.length n.length, .slice D t.length t.length] .var 24) (a4 : H.at_ p4 = .cells [.slice none 0 0, .slice none 0 0] .var 24)
    (hA : Ints lo H A m) (hB : Ints lo H B s) (hC : Ints lo H C n) (hD : Ints lo H D t) (lm : m.length ≤ 256) (ls : s.length ≤ 256) (ln : n.length ≤ 256) (lt : t.length ≤ 256)
    (hR : ∀ v H', IsW H'.next H' v (join2 m s n t).1 (join2 m s n t).2.1 → Keep lo H H' → R (.tuple #[v, .int .i64 (join2 m s n t).2.2]) H') :
    S15_103 R (.pointer (some ⟨p2, 0, none⟩)) (.pointer (some ⟨p3, 0, none⟩)) (.pointer (some ⟨p4, 0, none⟩)) H := by
  unfold S15_103
  have n2 : p2 ≠ H.next := by omega
  have n3 : p3 ≠ H.next := by omega
  have n4 : p4 ≠ H.next := by omega
  have n2' : p2 ≠ H.next + 1 := by omega
  have n3' : p3 ≠ H.next + 1 := by omega
  have n4' : p4 ≠ H.next + 1 := by omega
  have n2'' : p2 ≠ H.next + 2 := by omega
  have n3'' : p3 ≠ H.next + 2 := by omega
  have n4'' : p4 ≠ H.next + 2 := by omega
  simp [a2, a3, a4, at_alloc, n2, n3, n4, aFill, setCells, Nat.add_assoc]
  obtain ⟨H3, hH3⟩ : ∃ X, X = (((H.alloc (.cells [.slice A m.length m.length, .slice C n.length n.length] (.row 1) 22)).alloc (.cells [.slice B s.length s.length, .slice D t.length t.length] (.row 1) 22)).alloc (.cells [.slice none 0 0, .slice none 0 0] .var 24)) := ⟨_, rfl⟩
  have x1 : H3.at_ H.next = .cells [.slice A m.length m.length, .slice C n.length n.length] (.row 1) 22 := by rw [hH3]; simp [at_alloc, Nat.add_assoc]
  have x2 : H3.at_ (H.next + 1) = .cells [.slice B s.length s.length, .slice D t.length t.length] (.row 1) 22 := by rw [hH3]; simp [at_alloc, Nat.add_assoc]
  have x3 : H3.at_ (H.next + 2) = .cells [.slice none 0 0, .slice none 0 0] .var 24 := by rw [hH3]; simp [at_alloc, Nat.add_assoc]
  have xn : H3.next = H.next + 3 := by rw [hH3]; rfl
  have xk : Keep H.next H H3 := by rw [hH3]; repeat (first | exact Keep.refl _ _ | refine Keep.alloc ?_ (by simp <;> omega) _)
  rw [← hH3]
  clear hH3
  have hll : lo ≤ H.next := by omega
  have q1 : Rd 1 eS H3.next H3 (some ⟨H.next, 0, none⟩) [(A, m), (C, n)] := Rd.mk' (by simp) (by omega) x1 (by simp) rfl rfl
  refine (c24 (Nat.le_refl _) q1 (by
    intro p hp
    simp at hp
    rcases hp with rfl | rfl
    · exact (hA.keep fun b hb => xk.at_ b (by omega)).up (by omega)
    · exact (hC.keep fun b hb => xk.at_ b (by omega)).up (by omega)) (by simp; omega) (by simp)).mono fun v H4 hv => ?_
  obtain ⟨A1, rfl, o1, kp1⟩ := hv
  have y : ∀ b, b < H.next + 3 → H4.at_ b = H3.at_ b := fun b hb => kp1.at_ b (by omega)
  have y2 := (y p2 (by omega)).trans ((xk.at_ p2 k2).trans a2)
  have y3 := (y p3 (by omega)).trans ((xk.at_ p3 k3).trans a3)
  have y4 := (y p4 (by omega)).trans ((xk.at_ p4 k4).trans a4)
  have y5 := (y (H.next + 1) (by omega)).trans x2
  have y6 := (y (H.next + 2) (by omega)).trans x3
  simp [y2, y3, y5, y6, blkOf, Nat.add_assoc, x2, x3]
  have q2 : Rd 1 eS H4.next H4 (some ⟨H.next + 1, 0, none⟩) [(B, s), (D, t)] := Rd.mk' (by simp) (by have := kp1.next; omega) y5 (by simp) rfl rfl
  refine (c24 (Nat.le_refl _) q2 (by
    intro p hp
    simp at hp
    rcases hp with rfl | rfl
    · exact (hB.keep fun b hb => (y b (by omega)).trans (xk.at_ b (by omega))).up (by have := kp1.next; omega)
    · exact (hD.keep fun b hb => (y b (by omega)).trans (xk.at_ b (by omega))).up (by have := kp1.next; omega)) (by simp; omega) (by simp)).mono fun v H5 hv => ?_
  obtain ⟨A2, rfl, o2, kp2⟩ := hv
  have z : ∀ b, b < H.next + 3 → H5.at_ b = H4.at_ b := fun b hb => kp2.at_ b (by have := kp1.next; omega)
  have z4 := (z p4 (by omega)).trans y4
  have z6 := (z (H.next + 2) (by omega)).trans y6
  have o1' := (o1.kept kp2).rd
  have o2' := o2.rd
  have kp : Keep lo H H5 := (xk.lower hll).trans ((kp1.lower (by omega)).trans (kp2.lower (by have := kp1.next; omega)))
  have hnx : H.next + 3 ≤ H5.next := by have := kp1.next; have := kp2.next; omega
  unfold S15_71
  simp [z6, y6, blkOf, Nat.add_assoc, aFill, setCells, at_upd]
  have o1'' : Ints H5.next H5 A1 (m ++ n) := by simpa using o1'
  have o2'' : Ints H5.next H5 A2 (s ++ t) := by simpa using o2'
  have u1 := o1''
  have ne4 : p4 ≠ H.next + 2 := by omega
  -- the result's block
  have fin : ∀ (H6 : AHeap) (b : List Value) (v : Value) (rm rs : List Int), H6.at_ p4 = .cells b .var 24 → H6.next = H5.next → True := fun _ _ _ _ _ _ _ => trivial
  refine c21.use ?_
  have o1u : Ints H.next (H5.upd (H.next + 2) (.cells [.slice A1 (m.length + n.length) (m.length + n.length), .slice A2 (s.length + t.length) (s.length + t.length)] .var 24)) none [] := Rd.nil _ _ _ _
  by_cases hs : small (m ++ n) (s ++ t) = true
  · have hs' : (decide (m.length + n.length ≤ 256) && decide (s.length + t.length ≤ 256)) = true := by simpa [small] using hs
    have ow1 : Ow 1 eI 3 H3.next H5 A1 (m ++ n) := by simpa using o1.kept kp2
    have ow2 : Ow 1 eI 3 H3.next H5 A2 (s ++ t) := by simpa using o2.lower (Nat.le_trans kp1.next (Nat.le_refl _))
    have ow1' : ∀ x, Ow 1 eI 3 H3.next (H5.upd (H.next + 2) x) A1 (m ++ n) := fun x => ow1.keep (Nat.le_refl _) fun b hb _ => AHeap.at_upd_ne _ _ (by omega)
    have ow2' : ∀ x, Ow 1 eI 3 H3.next (H5.upd (H.next + 2) x) A2 (s ++ t) := fun x => ow2.keep (Nat.le_refl _) fun b hb _ => AHeap.at_upd_ne _ _ (by omega)
    simp [hs', at_upd]
    have hc := c22 (H := H5.upd (H.next + 2) (.cells [.slice A1 (m.length + n.length) (m.length + n.length), .slice A2 (s.length + t.length) (s.length + t.length)] .var 24)) (Nat.le_refl _) (ow1' _).rd (ow2' _).rd (by simp; omega) (by simp; omega)
    simp only [List.length_append] at hc
    refine hc.use ?_
    unfold S15_70
    by_cases hw : okW (m ++ n) (s ++ t)
    · have hj : join2 m s n t = (m ++ n, s ++ t, 0) := by simp [join2, hs, hw]
      rw [hj] at hR
      simp [hw, at_upd, ne4, z4, aFill, setCells]
      refine hR _ _ ⟨A1, A2, by simp, ?_, ?_⟩ ?_
      · exact ((ow1' _).keep (H' := (H5.upd (H.next + 2) _).upd p4 _) (Nat.le_refl _) fun b hb _ => AHeap.at_upd_ne _ _ (show b ≠ p4 by omega)).rd
      · exact ((ow2' _).keep (H' := (H5.upd (H.next + 2) _).upd p4 _) (Nat.le_refl _) fun b hb _ => AHeap.at_upd_ne _ _ (show b ≠ p4 by omega)).rd
      · exact (kp.upd (by omega) _).upd (by omega) _
    · have hj : join2 m s n t = ([], [], 2) := by simp [join2, hs, hw]
      rw [hj] at hR
      simp [hw, at_upd, ne4, z4, aFill, setCells]
      refine hR _ _ ⟨none, none, rfl, Rd.nil _ _ _ _, Rd.nil _ _ _ _⟩ ?_
      exact (kp.upd (by omega) _).upd (by omega) _
  · have hs' : (decide (m.length + n.length ≤ 256) && decide (s.length + t.length ≤ 256)) = false := by simpa [small] using hs
    have hj : join2 m s n t = ([], [], 6) := by simp [join2, hs]
    rw [hj] at hR
    simp [hs', at_upd, ne4, z4, aFill, setCells]
    refine hR _ _ ⟨none, none, rfl, Rd.nil _ _ _ _, Rd.nil _ _ _ _⟩ ?_
    exact (kp.upd (by omega) _).upd (by omega) _

theorem c15 {lo : Nat} {H : AHeap} {A B C D : Option Addr} {m s n t : List Int} (hl : lo ≤ H.next) (hA : Ints lo H A m) (hB : Ints lo H B s) (hC : Ints lo H C n) (hD : Ints lo H D t) :
    ACalls Try.prog 15 [W A m.length B s.length, W C n.length D t.length] H fun v H' => ∃ v', v = .tuple #[v', .int .i64 (joinL m s n t).2.2] ∧ IsW H'.next H' v' (joinL m s n t).1 (joinL m s n t).2.1 ∧ Keep H.next H H' := by
  refine S15_calls ?_
  unfold S15
  simp [at_alloc, Nat.add_assoc]
  obtain ⟨H3, hH3⟩ : ∃ X, X = (((H.alloc (.cells [.slice A m.length m.length, .slice B s.length s.length] .var 24)).alloc (.cells [.slice C n.length n.length, .slice D t.length t.length] .var 24)).alloc (.cells [.slice none 0 0, .slice none 0 0] .var 24)) := ⟨_, rfl⟩
  have x1 : H3.at_ H.next = .cells [.slice A m.length m.length, .slice B s.length s.length] .var 24 := by rw [hH3]; simp [at_alloc, Nat.add_assoc]
  have x2 : H3.at_ (H.next + 1) = .cells [.slice C n.length n.length, .slice D t.length t.length] .var 24 := by rw [hH3]; simp [at_alloc, Nat.add_assoc]
  have x3 : H3.at_ (H.next + 2) = .cells [.slice none 0 0, .slice none 0 0] .var 24 := by rw [hH3]; simp [at_alloc, Nat.add_assoc]
  have xn : H3.next = H.next + 3 := by rw [hH3]; rfl
  have xk : Keep H.next H H3 := by rw [hH3]; repeat (first | exact Keep.refl _ _ | refine Keep.alloc ?_ (by simp <;> omega) _)
  dsimp only [vcells]
  rw [← hH3]
  clear hH3
  have hA := hA.keep fun b hb => xk.at_ b (by omega)
  have hB := hB.keep fun b hb => xk.at_ b (by omega)
  have hC := hC.keep fun b hb => xk.at_ b (by omega)
  have hD := hD.keep fun b hb => xk.at_ b (by omega)
  simp
  refine (c12 (by omega) hA hB).use ?_
  unfold S15_105
  by_cases s1 : sound m s = true
  · by_cases s2 : sound n t = true
    · simp [s1, x2]
      refine (c12 (by omega) hC hD).use ?_
      simp [s2]
      unfold S15_104
      rw [aJoin_eq]
      simp [x1, x2]
      have z1 : m.length ≤ 256 ∧ s.length ≤ 256 := by simp [sound, small] at s1; exact s1.1
      have z2 : n.length ≤ 256 ∧ t.length ≤ 256 := by simp [sound, small] at s2; exact s2.1
      refine (c23 (lo := lo) (by omega) hA hB hC hD (by omega) (by omega)).use ?_
      by_cases hc : cut m s n t = true
      · have hj : joinL m s n t = join2 m.dropLast s.dropLast n.tail t.tail := by simp [joinL, s1, s2, hc]
        rw [hj]
        simp [hc]
        have hc' := hc
        simp only [cut, Bool.and_eq_true, decide_eq_true_eq] at hc'
        obtain ⟨⟨⟨⟨⟨⟨⟨p1, p2⟩, p3⟩, p4⟩, _⟩, _⟩, _⟩, _⟩ := hc'
        have e1 := wrap64 (x := (m.length : Int) - 1) (by omega) (by omega)
        have e2 := wrap64 (x := (s.length : Int) - 1) (by omega) (by omega)
        have i1 := hA.sliceHi (k := .i64) (j := (m.length : Int) - 1) (by omega) (by omega)
        have i2 := hB.sliceHi (k := .i64) (j := (s.length : Int) - 1) (by omega) (by omega)
        have i3 := hC.sliceLo (k := .i64) (i := 1) (by omega) (by omega)
        have i4 := hD.sliceLo (k := .i64) (i := 1) (by omega) (by omega)
        have r1 := hA.take (j := m.length - 1) (by omega)
        have r2 := hB.take (j := s.length - 1) (by omega)
        have r3 := hC.drop (i := 1) (by omega)
        have r4 := hD.drop (i := 1) (by omega)
        rw [show ((m.length : Int) - 1).toNat = m.length - 1 by omega] at i1
        rw [show ((s.length : Int) - 1).toNat = s.length - 1 by omega] at i2
        rw [show (1 : Int).toNat = 1 from rfl] at i3 i4
        rw [← List.dropLast_eq_take] at r1 r2
        rw [List.drop_one] at r3 r4
        unfold S15_102
        simp [x1, x2, at_upd, aFill, setCells, e1, e2, i1, i2, i3, i4]
        have kk : ∀ x y, Keep H.next H3 ((H3.upd H.next x).upd (H.next + 1) y) := fun x y => ((Keep.refl _ _).upd (Nat.le_refl _) _).upd (by omega) _
        have r1 := (r1.up hl).kept (kk (.cells [.slice (adv 1 A 0) (m.length - 1) (m.length - 1), .slice (adv 1 B 0) (s.length - 1) (s.length - 1)] .var 24) (.cells [.slice (adv 1 C 1) (n.length - 1) (n.length - 1), .slice (adv 1 D 1) (t.length - 1) (t.length - 1)] .var 24))
        have r2 := (r2.up hl).kept (kk (.cells [.slice (adv 1 A 0) (m.length - 1) (m.length - 1), .slice (adv 1 B 0) (s.length - 1) (s.length - 1)] .var 24) (.cells [.slice (adv 1 C 1) (n.length - 1) (n.length - 1), .slice (adv 1 D 1) (t.length - 1) (t.length - 1)] .var 24))
        have r3 := (r3.up hl).kept (kk (.cells [.slice (adv 1 A 0) (m.length - 1) (m.length - 1), .slice (adv 1 B 0) (s.length - 1) (s.length - 1)] .var 24) (.cells [.slice (adv 1 C 1) (n.length - 1) (n.length - 1), .slice (adv 1 D 1) (t.length - 1) (t.length - 1)] .var 24))
        have r4 := (r4.up hl).kept (kk (.cells [.slice (adv 1 A 0) (m.length - 1) (m.length - 1), .slice (adv 1 B 0) (s.length - 1) (s.length - 1)] .var 24) (.cells [.slice (adv 1 C 1) (n.length - 1) (n.length - 1), .slice (adv 1 D 1) (t.length - 1) (t.length - 1)] .var 24))
        refine l103 (lo := H.next) (Nat.le_refl _) (by omega) (by omega) (by simp; omega) (by simp; omega) (by simp; omega) ?_ ?_ ?_ r1 r2 r3 r4 (by simp; omega) (by simp; omega) (by simp; omega) (by simp; omega) fun v H' h1 h2 => ⟨v, rfl, h1, xk.trans ((kk _ _).trans h2)⟩
        · simp [at_upd]
        · simp [at_upd]
        · simp [at_upd, x3]
          intro hh
          omega
      · have hj : joinL m s n t = join2 m s n t := by simp [joinL, s1, s2, hc]
        rw [hj]
        simp [hc]
        exact l103 (lo := H.next) (Nat.le_refl _) (by omega) (by omega) (by omega) (by omega) (by omega) x1 x2 x3 (hA.up hl) (hB.up hl) (hC.up hl) (hD.up hl) z1.1 z1.2 z2.1 z2.2 fun v H' h1 h2 => ⟨v, rfl, h1, xk.trans h2⟩
    · simp [s1, x2]
      refine (c12 (by omega) hC hD).use ?_
      have hj : joinL m s n t = ([], [], 2) := by simp [joinL, s2]
      simp [s2, x3, aFill, setCells, at_upd, hj]
      exact ⟨⟨none, none, rfl, Rd.nil _ _ _ _, Rd.nil _ _ _ _⟩, xk.upd (by omega) _⟩
  · have hj : joinL m s n t = ([], [], 2) := by simp [joinL, s1]
    simp [s1, x3, aFill, setCells, at_upd, hj]
    exact ⟨⟨none, none, rfl, Rd.nil _ _ _ _, Rd.nil _ _ _ _⟩, xk.upd (by omega) _⟩

theorem c15w {lo : Nat} {H : AHeap} {a b : Value} {m s n t : List Int} (hl : lo ≤ H.next) (ha : IsW lo H a m s) (hb : IsW lo H b n t) :
    ACalls Try.prog 15 [a, b] H fun v H' => ∃ v', v = .tuple #[v', .int .i64 (joinL m s n t).2.2] ∧ IsW H'.next H' v' (joinL m s n t).1 (joinL m s n t).2.1 ∧ Keep H.next H H' := by
  obtain ⟨A, B, rfl, hA, hB⟩ := ha
  obtain ⟨C, D, rfl, hC, hD⟩ := hb
  exact c15 hl hA hB hC hD
theorem c12w {lo : Nat} {H : AHeap} {a : Value} {m s : List Int} (hl : lo ≤ H.next) (ha : IsW lo H a m s) : ACalls Try.prog 12 [a] H fun v H' => v = .bool (sound m s) ∧ H' = H := by
  obtain ⟨A, B, rfl, hA, hB⟩ := ha
  exact c12 hl hA hB

/-- answers. -/
theorem c11 {H : AHeap} : ACalls Try.prog 11 [] H fun v H' => v = .bool true ∧ H' = H := by
  refine ACalls.eq (S11_calls ?_) rfl
  unfold S11
  refine c10.mono fun a H1 ⟨h1, k1⟩ => ?_
  refine c9.mono fun b H2 ⟨h2, k2⟩ => ?_
  refine (c15w (Nat.le_refl _) ((h1.kept k2).up k2.next) h2).mono fun v H3 hv => ?_
  obtain ⟨v', rfl, h3, k3⟩ := hv
  have hj : joinL [] (if (2 : Int) < 1 then [] else [2]) (markM 5) (markS 5) = ([5], [2, 0], 0) := by decide +kernel
  rw [hj] at h3 ⊢
  obtain ⟨A, B, rfl, hA, hB⟩ := h3
  have i2 := (hB.alloc (Nat.le_refl _) (.cells [.slice none 0 0, .slice none 0 0] .var 24)).upd (c := H3.next) (Nat.le_refl _) (.cells [.slice A 1 1, .slice B 2 2] .var 24)
  have e1 := i2.idx (k := .i64) (j := 0) (c := 2) (by omega) (by simp)
  have e2 := i2.ld (j := 0) (by simp)
  simp at e1 e2
  unfold S11_80
  simp [at_alloc, at_upd, setCells, e1, e2]
  exact k1.trans (((k2.lower k1.next).trans ((k3.lower (Nat.le_trans k1.next k2.next)).alloc (by have := k1.next; have := k2.next; have := k3.next; omega) _)).upd (by have := k1.next; have := k2.next; have := k3.next; omega) _)
end Go.Proofs.Ytcjckenainacaaa.A
