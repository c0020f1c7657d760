/- Contracts of functions that the statement reaches; each theorem carries its own conditions, the last theorem of the claim has none. -/
import Derived.Test.YtcjckenainacaaaW10
set_option linter.unusedVariables false
set_option linter.unusedSimpArgs false
namespace Go.Proofs.Ytcjckenainacaaa.A
open Go Go.Abs

def catL (m s n t : List Int) : List Int × List Int := if cut m s n t then (m.dropLast ++ n.tail, s.dropLast ++ t.tail) else (m ++ n, s ++ t)
theorem join2_ok {m s n t : List Int} (h : (join2 m s n t).2.2 = 0) : (join2 m s n t).1 = m ++ n ∧ (join2 m s n t).2.1 = s ++ t := by
  unfold join2 at h ⊢
  split
  · rename_i h1; rw [if_pos h1] at h; exact absurd h (by decide)
  · rename_i h1; rw [if_neg h1] at h
    split
    · rename_i h2; rw [if_pos h2] at h; exact absurd h (by decide)
    · exact ⟨rfl, rfl⟩
theorem joinL_ok {m s n t : List Int} (h : (joinL m s n t).2.2 = 0) : sound m s = true ∧ sound n t = true ∧ (joinL m s n t).1 = (catL m s n t).1 ∧ (joinL m s n t).2.1 = (catL m s n t).2 := by
  by_cases h1 : sound m s = true
  · by_cases h2 : sound n t = true
    · refine ⟨h1, h2, ?_⟩
      by_cases hc : cut m s n t = true
      · have hj : joinL m s n t = join2 m.dropLast s.dropLast n.tail t.tail := by simp [joinL, h1, h2, hc]
        rw [hj] at h ⊢
        simpa [catL, hc] using join2_ok h
      · have hj : joinL m s n t = join2 m s n t := by simp [joinL, h1, h2, hc]
        rw [hj] at h ⊢
        simpa [catL, hc] using join2_ok h
    · have hj : joinL m s n t = ([], [], 2) := by simp [joinL, h2]
      rw [hj] at h
      exact absurd h (by decide)
  · have hj : joinL m s n t = ([], [], 2) := by simp [joinL, h1]
    rw [hj] at h
    exact absurd h (by decide)

def cutR (y w : Int) (o r : List Int) : Bool := decide (0 < o.length) && decide (0 < r.length) && !decide (y = -1) && decide (o.headD 0 = -1) && decide (w = 0) && decide (r.headD 0 = 0)
def cutF (m s : List Int) (x z : Int) : Bool := decide (0 < m.length) && decide (0 < s.length) && !decide (m.getLastD 0 = -1) && decide (x = -1) && decide (s.getLastD 0 = 0) && decide (z = 0)
theorem cut_last (ls bs : List Int) (y w : Int) (o r : List Int) : cut (ls ++ [y]) (bs ++ [w]) o r = cutR y w o r := by
  simp [cut, cutR]
theorem cut_first (m s : List Int) (x z : Int) (n t : List Int) : cut m s (x :: n) (z :: t) = cutF m s x z := by
  simp [cut, cutF]
theorem ends {l : List Int} (h : 2 ≤ l.length) : ∃ x l' y, l = x :: (l' ++ [y]) := by
  cases l with
  | nil => simp at h
  | cons x l =>
    cases l with
    | nil => simp at h
    | cons z l => exact ⟨x, (z :: l).dropLast, (z :: l).getLast (by simp), by rw [List.dropLast_concat_getLast]⟩
theorem catL_assoc {m s n t o r : List Int} (hn : 2 ≤ n.length) (ht : 2 ≤ t.length) :
    catL (catL m s n t).1 (catL m s n t).2 o r = catL m s (catL n t o r).1 (catL n t o r).2 := by
  obtain ⟨x, n', y, rfl⟩ := ends hn
  obtain ⟨z, t', w, rfl⟩ := ends ht
  have e1 : catL m s (x :: (n' ++ [y])) (z :: (t' ++ [w])) = if cutF m s x z then (m.dropLast ++ n' ++ [y], s.dropLast ++ t' ++ [w]) else (m ++ x :: n' ++ [y], s ++ z :: t' ++ [w]) := by
    unfold catL
    rw [cut_first]
    split <;> simp
  have e2 : catL (x :: (n' ++ [y])) (z :: (t' ++ [w])) o r = if cutR y w o r then (x :: (n' ++ o.tail), z :: (t' ++ r.tail)) else (x :: (n' ++ [y] ++ o), z :: (t' ++ [w] ++ r)) := by
    unfold catL
    rw [show x :: (n' ++ [y]) = (x :: n') ++ [y] from rfl, show z :: (t' ++ [w]) = (z :: t') ++ [w] from rfl, cut_last, List.dropLast_concat, List.dropLast_concat]
    split <;> simp
  rw [e1, e2]
  cases h1 : cutF m s x z <;> cases h2 : cutR y w o r <;> simp only [Bool.false_eq_true, if_false, if_true] <;> unfold catL <;> rw [cut_last, cut_first, h1, h2] <;> simp only [Bool.false_eq_true, if_false, if_true, List.dropLast_concat, List.tail_cons] <;> simp
theorem joinL_assoc {m s n t o r : List Int} (hn : 2 ≤ n.length) (h1 : (joinL m s n t).2.2 = 0) (h2 : (joinL n t o r).2.2 = 0)
    (h3 : (joinL (joinL m s n t).1 (joinL m s n t).2.1 o r).2.2 = 0) (h4 : (joinL m s (joinL n t o r).1 (joinL n t o r).2.1).2.2 = 0) :
    (joinL (joinL m s n t).1 (joinL m s n t).2.1 o r).1 = (joinL m s (joinL n t o r).1 (joinL n t o r).2.1).1 ∧
    (joinL (joinL m s n t).1 (joinL m s n t).2.1 o r).2.1 = (joinL m s (joinL n t o r).1 (joinL n t o r).2.1).2.1 := by
  obtain ⟨_, sb, a1, a2⟩ := joinL_ok h1
  obtain ⟨_, _, b1, b2⟩ := joinL_ok h2
  obtain ⟨_, _, c1, c2⟩ := joinL_ok h3
  obtain ⟨_, _, d1, d2⟩ := joinL_ok h4
  have ht : 2 ≤ t.length := by
    simp only [sound, Bool.and_eq_true, decide_eq_true_eq] at sb
    have h5 := sb.2.2.2
    have h6 := List.count_le_length (a := (0 : Int)) (l := t)
    omega
  have := catL_assoc (m := m) (s := s) (o := o) (r := r) hn ht
  rw [c1, c2, d1, d2, a1, a2, b1, b2, this]
  exact ⟨rfl, rfl⟩

theorem joinL_len (m s n t : List Int) : (joinL m s n t).1.length ≤ 100000 ∧ (joinL m s n t).2.1.length ≤ 100000 := by
  unfold joinL join2
  split
  · simp
  split <;> split <;> try (split)
  all_goals first | (simp; done) | (simp; simp [sound, small] at *; omega)

/-- WrapOrder. -/
theorem c4 {lo : Nat} {H : AHeap} {a b c : Value} {m s n t o r : List Int} (hl : lo ≤ H.next) (ha : IsW lo H a m s) (hb : IsW lo H b n t) (hc : IsW lo H c o r) : ACalls Try.prog 4 [a, b, c] H fun v H' => v = .bool true := by
  refine S4_calls ?_
  unfold S4
  refine HW.box hl ha fun H1 w1 k1 n1 => ?_
  refine HW.box (lo := lo) (by omega) (hb.kept (k1.lower hl)) fun H2 w2 k2 n2 => ?_
  have k12 := k1.trans (k2.lower (by omega))
  refine HW.box (lo := lo) (by omega) (hc.kept (k12.lower hl)) fun H3 w3 k3 n3 => ?_
  have w1 := (w1.kept k2).kept k3
  have w2 := w2.kept k3
  have hne : H.next ≠ H1.next ∧ H.next ≠ H2.next ∧ H1.next ≠ H2.next := by omega
  refine c11.use ?_
  obtain ⟨v1, e1, i1⟩ := w1.ld
  obtain ⟨v2, e2, i2⟩ := w2.ld
  obtain ⟨v3, e3, i3⟩ := w3.ld
  generalize H.next = p1 at *
  generalize H1.next = p2 at *
  generalize H2.next = p3 at *
  clear k1 k2 k3 n1 n2 n3 k12
  unfold S4_264
  simp [-aLdAgg_ptr, e1]
  refine (c13w i1).use ?_
  cases h1 : light m s
  · simp
    exact c11.use rfl
  simp [-aLdAgg_ptr, e2]
  refine (c13w i2).use ?_
  cases h2 : light n t
  · simp
    exact c11.use rfl
  simp [-aLdAgg_ptr, e3]
  refine (c13w i3).use ?_
  cases h3 : light o r
  · simp
    exact c11.use rfl
  have h1 := light_iff h1
  have h2 := light_iff h2
  have h3 := light_iff h3
  simp
  unfold S4_263
  simp [-aLdAgg_ptr, e1, e2]
  refine (c14 (Nat.le_refl _) i1 i2).mono fun v H4 hv => ?_
  obtain ⟨x, rfl, ix, k4⟩ := hv
  obtain ⟨H5, f5, wx, k5⟩ := HW.new ix
  have k45 := k4.trans (k5.lower k4.next)
  have w1 := w1.kept k45
  have w2 := w2.kept k45
  have w3 := w3.kept k45
  obtain ⟨v1, e1, i1⟩ := w1.ld
  obtain ⟨v2, e2, i2⟩ := w2.ld
  obtain ⟨v3, e3, i3⟩ := w3.ld
  simp [-aLdAgg_ptr, -aSt_ptr, f5, e2, e3]
  refine (c14 (Nat.le_refl _) i2 i3).mono fun v H6 hv => ?_
  obtain ⟨y, rfl, iy, k6⟩ := hv
  obtain ⟨H7, f7, wy, k7⟩ := HW.new iy
  have k67 := k6.trans (k7.lower k6.next)
  have w1 := w1.kept k67
  have w2 := w2.kept k67
  have w3 := w3.kept k67
  have wx := wx.kept k67
  obtain ⟨v1, e1, i1⟩ := w1.ld
  obtain ⟨v2, e2, i2⟩ := w2.ld
  obtain ⟨v3, e3, i3⟩ := w3.ld
  obtain ⟨vx, ex, jx⟩ := wx.ld
  obtain ⟨vy, ey, jy⟩ := wy.ld
  obtain ⟨C, D, x2, _⟩ := w2.isW
  unfold S4_262
  by_cases q1 : ¬ (joinL m s n t).2.2 = 0
  · simp [-aLdAgg_ptr, -aSt_ptr, f7, q1]
  replace q1 := Decidable.not_not.1 q1
  by_cases q2 : ¬ (joinL n t o r).2.2 = 0
  · simp [-aLdAgg_ptr, -aSt_ptr, f7, q1, q2]
  replace q2 := Decidable.not_not.1 q2
  by_cases q3 : n.length < 2
  · simp [-aLdAgg_ptr, -aSt_ptr, f7, q1, q2, x2, show (n.length : Int) < 2 by omega]
  simp [-aLdAgg_ptr, -aSt_ptr, f7, q1, q2, x2, show ¬ (n.length : Int) < 2 by omega, ex, e3]
  refine (c14 (Nat.le_refl _) jx i3).mono fun v H8 hv => ?_
  obtain ⟨p, rfl, ip, k8⟩ := hv
  obtain ⟨H9, f9, wp, k9⟩ := HW.new ip
  have k89 := k8.trans (k9.lower k8.next)
  have w1 := w1.kept k89
  have w2 := w2.kept k89
  have w3 := w3.kept k89
  have wy := wy.kept k89
  obtain ⟨v1, e1, i1⟩ := w1.ld
  obtain ⟨vy, ey, jy⟩ := wy.ld
  unfold S4_261
  simp [-aLdAgg_ptr, -aSt_ptr, f9, e1, ey]
  refine (c14 (Nat.le_refl _) i1 jy).mono fun v H10 hv => ?_
  obtain ⟨q, rfl, iq, k10⟩ := hv
  obtain ⟨H11, f11, wq, k11⟩ := HW.new iq
  have k1011 := k10.trans (k11.lower k10.next)
  have w1 := w1.kept k1011
  have w2 := w2.kept k1011
  have w3 := w3.kept k1011
  have wp := wp.kept k1011
  unfold S4_260
  by_cases q4 : ¬ (joinL (joinL m s n t).1 (joinL m s n t).2.1 o r).2.2 = 0
  · simp [-aLdAgg_ptr, -aSt_ptr, f11, q4]
  replace q4 := Decidable.not_not.1 q4
  by_cases q5 : ¬ (joinL m s (joinL n t o r).1 (joinL n t o r).2.1).2.2 = 0
  · simp [-aLdAgg_ptr, -aSt_ptr, f11, q4, q5]
  replace q5 := Decidable.not_not.1 q5
  have hassoc := joinL_assoc (by omega) q1 q2 q4 q5
  simp [-aLdAgg_ptr, -aSt_ptr, f11, q4, q5]
  clear e1 e2 e3 i1 i2 i3 ix iy jx jy ex ey x2 ip iq f5 f7 f9 f11 wx wy
  obtain ⟨v1, e1, i1⟩ := w1.ld
  obtain ⟨v2, e2, i2⟩ := w2.ld
  obtain ⟨v3, e3, i3⟩ := w3.ld
  generalize H8.next = pp at *
  generalize H10.next = pq at *
  clear k4 k5 k45 k6 k7 k67 k8 k9 k89 k10 k11 k1011
  -- u = join(own a, own b)
  unfold S4_259
  simp [-aLdAgg_ptr, e1, e2]
  have kA := Keep.new H11 (.cells [.slice none 0 0, .slice none 0 0] .var 24)
  have w5 := HW.nil H11
  have d1 := w1.1
  have d2 := w2.1
  have d3 := w3.1
  have dp := wp.1
  have dq := wq.1
  refine (c16 (Nat.le_succ _) (i1.kept kA) (by omega) (by omega)).mono fun u1 J1 ⟨iu1, l1⟩ => ?_
  have kA1 := kA.trans (l1.lower (Nat.le_succ _))
  refine ⟨⟨by rw [Keep.ldAgg kA1 w2.1, e2]; simp, l1.at_ _ (by simp)⟩, ?_⟩
  refine (c16 kA1.next (i2.kept kA1) (by omega) (by omega)).mono fun u2 J2 ⟨iu2, l2⟩ => ?_
  have w5 := w5.kept l1
  refine ⟨l2.at_ _ w5.1, ?_⟩
  have w5 := w5.kept l2
  refine (c15w (Nat.le_refl _) ((iu1.kept l2).up l2.next) iu2).mono fun v J3 hv => ?_
  obtain ⟨u3, rfl, iu3, l3⟩ := hv
  unfold S4_257
  refine ⟨l3.at_ _ w5.1, ?_⟩
  have w5 := w5.kept l3
  obtain ⟨J4, f4, w5, _, q6⟩ := w5.put iu3
  have kA3 := (kA1.trans (l2.lower kA1.next)).trans (l3.lower (Nat.le_trans kA1.next l2.next))
  have w1 := q6 _ _ _ (by omega) (w1.kept kA3)
  have w2 := q6 _ _ _ (by omega) (w2.kept kA3)
  have w3 := q6 _ _ _ (by omega) (w3.kept kA3)
  have wp := q6 _ _ _ (by omega) (wp.kept kA3)
  have wq := q6 _ _ _ (by omega) (wq.kept kA3)
  generalize H11.next = pu at *
  clear q6 kA kA1 kA3 l1 l2 l3 e1 e2 e3 i1 i2 i3
  obtain ⟨v5, e5, i5⟩ := w5.ld
  obtain ⟨v3, e3, i3⟩ := w3.ld
  simp [-aLdAgg_ptr, -aSt_ptr, f4, e5, e3]
  -- v = join(u, own c)
  have kA := Keep.new J4 (.cells [.slice none 0 0, .slice none 0 0] .var 24)
  have w6 := HW.nil J4
  have d1 := w1.1
  have d2 := w2.1
  have d3 := w3.1
  have dp := wp.1
  have dq := wq.1
  have d5 := w5.1
  refine (c16 (Nat.le_succ _) (i3.kept kA) (by omega) (by omega)).mono fun u1 J5 ⟨iu1, l1⟩ => ?_
  have kA1 := kA.trans (l1.lower (Nat.le_succ _))
  refine ⟨⟨by rw [Keep.ldAgg kA1 w5.1, e5]; simp, l1.at_ _ (by simp)⟩, ?_⟩
  have w6 := w6.kept l1
  refine (c15w (Nat.le_refl _) ((i5.kept kA1).up kA1.next) iu1).mono fun v J6 hv => ?_
  obtain ⟨u3, rfl, iu3, l3⟩ := hv
  unfold S4_255
  refine ⟨l3.at_ _ w6.1, ?_⟩
  have w6 := w6.kept l3
  obtain ⟨J7, f7, w6, _, q6⟩ := w6.put iu3
  have kA3 := kA1.trans (l3.lower kA1.next)
  have w1 := q6 _ _ _ (by omega) (w1.kept kA3)
  have w2 := q6 _ _ _ (by omega) (w2.kept kA3)
  have w3 := q6 _ _ _ (by omega) (w3.kept kA3)
  have wp := q6 _ _ _ (by omega) (wp.kept kA3)
  have wq := q6 _ _ _ (by omega) (wq.kept kA3)
  generalize J4.next = pv at *
  clear q6 kA kA1 kA3 l1 l3 e3 i3 e5 i5 w5 d5 f4
  obtain ⟨v2, e2, i2⟩ := w2.ld
  obtain ⟨v3, e3, i3⟩ := w3.ld
  simp [-aLdAgg_ptr, -aSt_ptr, f7, e2, e3]
  -- s = join(own b, own c)
  have kA := Keep.new J7 (.cells [.slice none 0 0, .slice none 0 0] .var 24)
  have w5 := HW.nil J7
  have d1 := w1.1
  have d2 := w2.1
  have d3 := w3.1
  have dp := wp.1
  have dq := wq.1
  have d6 := w6.1
  refine (c16 (Nat.le_succ _) (i2.kept kA) (by omega) (by omega)).mono fun u1 J8 ⟨iu1, l1⟩ => ?_
  have kA1 := kA.trans (l1.lower (Nat.le_succ _))
  refine ⟨⟨by rw [Keep.ldAgg kA1 w3.1, e3]; simp, l1.at_ _ (by simp)⟩, ?_⟩
  refine (c16 kA1.next (i3.kept kA1) (by omega) (by omega)).mono fun u2 J9 ⟨iu2, l2⟩ => ?_
  have w5 := w5.kept l1
  refine ⟨l2.at_ _ w5.1, ?_⟩
  have w5 := w5.kept l2
  refine (c15w (Nat.le_refl _) ((iu1.kept l2).up l2.next) iu2).mono fun v J10 hv => ?_
  obtain ⟨u3, rfl, iu3, l3⟩ := hv
  unfold S4_253
  refine ⟨l3.at_ _ w5.1, ?_⟩
  have w5 := w5.kept l3
  obtain ⟨J11, f11, w5, _, q6⟩ := w5.put iu3
  have kA3 := (kA1.trans (l2.lower kA1.next)).trans (l3.lower (Nat.le_trans kA1.next l2.next))
  have w1 := q6 _ _ _ (by omega) (w1.kept kA3)
  have wp := q6 _ _ _ (by omega) (wp.kept kA3)
  have wq := q6 _ _ _ (by omega) (wq.kept kA3)
  have w6 := q6 _ _ _ (by omega) (w6.kept kA3)
  generalize J7.next = ps at *
  clear q6 kA kA1 kA3 l1 l2 l3 e2 e3 i2 i3 f7
  obtain ⟨v5, e5, i5⟩ := w5.ld
  obtain ⟨v1, e1, i1⟩ := w1.ld
  simp [-aLdAgg_ptr, -aSt_ptr, f11, e5, e1]
  -- t = join(own a, s)
  have kA := Keep.new J11 (.cells [.slice none 0 0, .slice none 0 0] .var 24)
  have w7 := HW.nil J11
  have dp := wp.1
  have dq := wq.1
  have d5 := w5.1
  have d6 := w6.1
  refine (c16 (Nat.le_succ _) (i1.kept kA) (by omega) (by omega)).mono fun u1 J12 ⟨iu1, l1⟩ => ?_
  have kA1 := kA.trans (l1.lower (Nat.le_succ _))
  refine ⟨⟨by rw [Keep.ldAgg kA1 w5.1, e5]; simp, l1.at_ _ (by simp)⟩, ?_⟩
  have w7 := w7.kept l1
  refine (c15w (Nat.le_refl _) iu1 ((i5.kept kA1).up kA1.next)).mono fun v J13 hv => ?_
  obtain ⟨u3, rfl, iu3, l3⟩ := hv
  unfold S4_251
  refine ⟨l3.at_ _ w7.1, ?_⟩
  have w7 := w7.kept l3
  obtain ⟨J14, f14, w7, _, q6⟩ := w7.put iu3
  have kA3 := kA1.trans (l3.lower kA1.next)
  have wp := q6 _ _ _ (by omega) (wp.kept kA3)
  have wq := q6 _ _ _ (by omega) (wq.kept kA3)
  have w6 := q6 _ _ _ (by omega) (w6.kept kA3)
  obtain ⟨gp, ep, ip⟩ := wp.ld
  obtain ⟨gq, eq, iq⟩ := wq.ld
  obtain ⟨g6, e6, i6⟩ := w6.ld
  obtain ⟨g7, e7, i7⟩ := w7.ld
  have b1 := joinL_len (joinL m s n t).1 (joinL m s n t).2.1 o r
  have b2 := joinL_len m s (joinL n t o r).1 (joinL n t o r).2.1
  simp [-aLdAgg_ptr, -aSt_ptr, f14, q4, q5, e6, ep]
  refine (c17 (Nat.le_refl _) i6 ip (by omega) (by omega)).use ?_
  simp [-aLdAgg_ptr, -aSt_ptr, e7, eq]
  refine (c17 (Nat.le_refl _) i7 iq (by omega) (by omega)).use ?_
  simp [-aLdAgg_ptr, -aSt_ptr, e6, e7]
  refine (c17 (Nat.le_refl _) i6 i7 (by omega) (by omega)).use ?_
  simp [hassoc]
end Go.Proofs.Ytcjckenainacaaa.A
