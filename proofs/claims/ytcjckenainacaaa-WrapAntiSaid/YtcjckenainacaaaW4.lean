/- Contracts of functions that the statement reaches; each theorem carries its own conditions, the last theorem of the claim has none. -/
import Derived.Test.YtcjckenainacaaaW5
set_option linter.unusedVariables false
set_option linter.unusedSimpArgs false
namespace Go.Proofs.Ytcjckenainacaaa.A
open Go Go.Abs

theorem c25 {lo : Nat} {H : AHeap} {A B : Option Addr} {xs ys : List Int} (hA : Ints lo H A xs) (hB : Ints lo H B ys) (hm : xs.length ≤ 140737488355328) :
    ACalls Try.prog 25 [.slice A xs.length xs.length, .slice B ys.length ys.length] H fun v H' => v = .bool (decide (xs = ys)) ∧ H' = H := by
  refine ACalls.eq (S25_calls ?_) rfl
  unfold S25
  by_cases hl : xs.length = ys.length
  · simp [hl]
    refine aLoop_st xs.length (fun i => [.int .i64 i]) (fun i H' => H' = H ∧ xs.take i = ys.take i) rfl ⟨rfl, rfl⟩ ?_
    rintro i H' again hi ⟨rfl, hg⟩ ha
    unfold S25_15
    by_cases h : i < xs.length
    · have h' : i < ys.length := by omega
      have hw := wrap64 (x := (i : Int) + 1) (by omega) (by omega)
      have i1 := hA.idx (k := .i64) (j := (i : Int)) (c := xs.length) (by omega) (by omega)
      have i2 := hB.idx (k := .i64) (j := (i : Int)) (c := ys.length) (by omega) (by omega)
      simp [h, h', i1, i2]
      unfold S25_14
      simp [h, h', i1, i2, hA.ld h, hB.ld h', hw]
      refine aCond_of (fun hd => ?_) fun hd => ?_
      · simp at hd
        simp
        intro e
        subst e
        exact hd rfl
      · simp at hd
        have := ha _ h ⟨rfl, by rw [List.take_succ_eq_append_getElem h, List.take_succ_eq_append_getElem h', hg, hd]⟩
        simp [hw]
        exact this
    · have h' : ¬ i < ys.length := by omega
      simp [h, h']
      have hie : i = xs.length := by omega
      rw [hie, List.take_length] at hg
      rw [hl, List.take_length] at hg
      exact hg
  · have hl' : ¬ (xs.length : Int) = ys.length := by omega
    simp [hl, hl']
    intro e
    subst e
    exact hl rfl

theorem c27 {lo : Nat} {H : AHeap} {A B : Option Addr} {xs ys : List Int} (hA : Ints lo H A xs) (hB : Ints lo H B ys) (hm : xs.length ≤ 140737488355328) :
    ACalls Try.prog 27 [.slice A xs.length xs.length, .slice B ys.length ys.length] H fun v H' => v = .bool (decide (xs = ys)) ∧ H' = H := by
  refine ACalls.eq (S27_calls ?_) rfl
  unfold S27
  by_cases hl : xs.length = ys.length
  · simp [hl]
    refine aLoop_st xs.length (fun i => [.int .i64 i]) (fun i H' => H' = H ∧ xs.take i = ys.take i) rfl ⟨rfl, rfl⟩ ?_
    rintro i H' again hi ⟨rfl, hg⟩ ha
    unfold S27_15
    by_cases h : i < xs.length
    · have h' : i < ys.length := by omega
      have hw := wrap64 (x := (i : Int) + 1) (by omega) (by omega)
      have i1 := hA.idx (k := .i64) (j := (i : Int)) (c := xs.length) (by omega) (by omega)
      have i2 := hB.idx (k := .i64) (j := (i : Int)) (c := ys.length) (by omega) (by omega)
      simp [h, h', i1, i2]
      unfold S27_14
      simp [h, h', i1, i2, hA.ld h, hB.ld h', hw]
      refine aCond_of (fun hd => ?_) fun hd => ?_
      · simp at hd
        simp
        intro e
        subst e
        exact hd rfl
      · simp at hd
        have := ha _ h ⟨rfl, by rw [List.take_succ_eq_append_getElem h, List.take_succ_eq_append_getElem h', hg, hd]⟩
        simp [hw]
        exact this
    · have h' : ¬ i < ys.length := by omega
      simp [h, h']
      have hie : i = xs.length := by omega
      rw [hie, List.take_length] at hg
      rw [hl, List.take_length] at hg
      exact hg
  · have hl' : ¬ (xs.length : Int) = ys.length := by omega
    simp [hl, hl']
    intro e
    subst e
    exact hl rfl

theorem c26 {lo : Nat} {H : AHeap} {A B : Option Addr} {ms ss : List Int} (hA : Ints lo H A ms) (hB : Ints lo H B ss) (hm : ms.length ≤ 140737488355328) (hs : ss.length ≤ 140737488355328) :
    ACalls Try.prog 26 [.slice A ms.length ms.length, .slice B ss.length ss.length] H fun v H' => v = .bool (decide (okW ms ss)) ∧ H' = H := by
  refine ACalls.eq (S26_calls ?_) rfl
  unfold S26
  refine aLoop_st ss.length (fun i => [.int .i64 ((ss.take i).count 0), .int .i64 i]) (fun i H' => H' = H ∧ ∀ j (h : j < ss.length), j < i → 0 ≤ ss[j]) rfl ⟨rfl, by simp⟩ ?_
  rintro i H' again hi ⟨rfl, hg⟩ ha
  unfold S26_78
  by_cases h : i < ss.length
  · simp [h]
    unfold S26_17
    rw [aJoin_eq]
    simp [hB.idx (show (0:Int) ≤ i by omega) (show (i:Int) < ss.length by omega), hB.ld h, h]
    have hc := List.count_le_length (a := (0 : Int)) (l := ss.take i)
    have hlt := List.length_take_le i ss
    have hc2 := count_take_succ h
    have hw1 := wrap64 (x := (i : Int) + 1) (by omega) (by omega)
    have hw2 := wrap64 (x := (((ss.take i).count 0 : Nat) : Int) + 1) (by omega) (by omega)
    refine aCond_of (fun hd => ?_) fun hd => ?_
    · simp
      intro hok
      have := hok.1 ss[i] (List.getElem_mem h)
      simp at hd
      omega
    have ha' := ha _ h ⟨rfl, fun j hj hji => by
      rcases Nat.lt_or_ge j i with h1 | h1
      · exact hg j hj h1
      · have : j = i := by omega
        subst this
        simpa using hd⟩
    unfold S26_16
    simp [hB.idx (show (0:Int) ≤ i by omega) (show (i:Int) < ss.length by omega), hB.ld h, h]
    refine aCond_of (fun hz => ?_) fun hz => ?_
    · simp at hz
      simp [hw1, hw2]
      simp only [hz, if_true] at hc2
      rw [hc2] at ha'
      exact ha'
    · simp at hz
      simp [hw1, hw2]
      simp only [hz, if_false] at hc2
      rw [hc2] at ha'
      exact ha'
  · simp [h]
    have hie : i = ss.length := by omega
    subst hie
    simp only [List.take_length]
    refine aLoop_st ms.length (fun i => [.int .i64 i]) (fun i H2 => H2 = H' ∧ ∀ j (h : j < ms.length), j < i → 1 ≤ ms[j] ∨ (ms[j] = -1 ∧ j = 0)) rfl ⟨rfl, by simp⟩ ?_
    rintro i H2 again hi ⟨rfl, hg'⟩ ha
    unfold S26_77
    by_cases h : i < ms.length
    · simp [h]
      unfold S26_74
      have hld := hA.ld h
      have hbad : ¬ (1 ≤ ms[i] ∨ ms[i] = -1 ∧ i = 0) → ¬ okW ms ss := fun hb hok => hb (hok.2.1 i h)
      have hgood : (1 ≤ ms[i] ∨ ms[i] = -1 ∧ i = 0) → again [.int .i64 ((i : Int) + 1)] H2 := fun hg => by
        refine ha _ h ⟨rfl, fun j hj hji => ?_⟩
        rcases Nat.lt_or_ge j i with h1 | h1
        · exact hg' j hj h1
        · have : j = i := by omega
          subst this
          exact hg
      generalize ms[i] = x at hld hbad hgood
      have hw := wrap64 (x := (i : Int) + 1) (by omega) (by omega)
      by_cases h1 : x < 1 <;> by_cases h2 : x = -1 <;> cases h3 : decide (i = 0) <;> simp [hA.idx (show (0:Int) ≤ i by omega) (show (i:Int) < ms.length by omega), hld, h1, h2, h3, hw] <;>
        simp at h3 <;> first | exact hgood (by omega) | exact hbad (by omega) | omega
    · simp [h]
      have hie : i = ms.length := by omega
      subst hie
      have h1 : okSubs ss := fun s hs => by
        obtain ⟨j, hj, rfl⟩ := List.getElem_of_mem hs
        exact hg j hj hj
      have h2 : okMarks ms := fun j hj => hg' j hj hj
      simp only [okW, h1, h2, true_and]
      omega

theorem c18 {lo : Nat} {H : AHeap} {A B : Option Addr} {ms ss : List Int} (hA : Ints lo H A ms) (hB : Ints lo H B ss) :
    ACalls Try.prog 18 [.slice A ms.length ms.length, .slice B ss.length ss.length] H fun v H' => v = .bool (sound ms ss) ∧ H' = H := by
  refine ACalls.eq (S18_calls ?_) rfl
  unfold S18
  by_cases h1 : ms.length ≤ 256
  · have h1' : (ms.length : Int) ≤ 256 := by omega
    by_cases h2 : ss.length ≤ 256
    · have h2' : (ss.length : Int) ≤ 256 := by omega
      simp [h1', h2']
      refine (c26 hA hB (by omega) (by omega)).use ?_
      simp [sound, small, h1, h2]
    · have h2' : ¬ (ss.length : Int) ≤ 256 := by omega
      simp [h1', h2', sound, small, h1, h2]
  · have h1' : ¬ (ms.length : Int) ≤ 256 := by omega
    simp [h1', sound, small, h1]

theorem c13 {H : AHeap} {A B : Option Addr} {m s : Nat} : ACalls Try.prog 13 [W A m B s] H fun v H' => v = .bool (decide (m ≤ 2000) && decide (s ≤ 2000)) ∧ H' = H := by
  refine ACalls.eq (S13_calls ?_) rfl
  unfold S13
  by_cases h : (m : Int) ≤ 2000
  · simp [h, show m ≤ 2000 by omega]
    exact ⟨by omega, (Keep.refl _ _).alloc (Nat.le_refl _) _⟩
  · simp [h, show ¬ m ≤ 2000 by omega]
    exact (Keep.refl _ _).alloc (Nat.le_refl _) _

theorem Ow.emp {b lo : Nat} {H : AHeap} (hat : H.at_ b = .cells [] (.row 1) 3) (hl : lo ≤ b) (hb : b < H.next) : Ow 1 eI 3 lo H (some ⟨b, 0, none⟩) [] :=
  ⟨by simp, .inr ⟨b, [], rfl, hl, hb, hat, by simp, by simp⟩⟩

/-- own: a wrap that shares nothing. -/
theorem c16 {lo : Nat} {H : AHeap} {a : Value} {ms ss : List Int} (hl : lo ≤ H.next) (ha : IsW lo H a ms ss) (hm : ms.length ≤ 100000) (hs : ss.length ≤ 100000) :
    ACalls Try.prog 16 [a] H fun v H' => IsW H'.next H' v ms ss ∧ Keep H.next H H' := by
  obtain ⟨A, B, rfl, hA, hB⟩ := ha
  refine S16_calls ?_
  unfold S16
  simp [at_alloc, aFill, Nat.add_assoc]
  obtain ⟨H4, hH4⟩ : ∃ X, X = ((((H.alloc (.cells [.slice A ms.length ms.length, .slice B ss.length ss.length] .var 24)).alloc (.cells [.slice none 0 0, .slice none 0 0] .var 24)).alloc (.cells [] (.row 1) 3)).alloc (.cells [] (.row 1) 3)) := ⟨_, rfl⟩
  have x0 : H4.at_ H.next = .cells [.slice A ms.length ms.length, .slice B ss.length ss.length] .var 24 := by rw [hH4]; simp [at_alloc, Nat.add_assoc]
  have x1 : H4.at_ (H.next + 1) = .cells [.slice none 0 0, .slice none 0 0] .var 24 := by rw [hH4]; simp [at_alloc, Nat.add_assoc]
  have x2 : H4.at_ (H.next + 2) = .cells [] (.row 1) 3 := by rw [hH4]; simp [at_alloc, Nat.add_assoc]
  have x3 : H4.at_ (H.next + 3) = .cells [] (.row 1) 3 := by rw [hH4]; simp [at_alloc, Nat.add_assoc]
  have xn : H4.next = H.next + 4 := by rw [hH4]; rfl
  have xk : Keep H.next H H4 := by rw [hH4]; repeat (first | exact Keep.refl _ _ | refine Keep.alloc ?_ (by simp <;> omega) _)
  dsimp only [vcells]
  rw [← hH4]
  clear hH4
  have hA4 := (hA.kept (xk.lower hl)).up (show lo ≤ H4.next by omega)
  refine (Ow.emp (lo := H.next + 2) x2 (by omega) (by omega)).append (c := 0) hA4 (by omega) (by simp [maxLen]; omega) (by simp; omega) fun H5 o5 n5 a5 k5 => ?_
  have e0 : H5.at_ H.next = H4.at_ H.next := a5 _ (by omega) (by simp)
  have e1 : H5.at_ (H.next + 1) = H4.at_ (H.next + 1) := a5 _ (by omega) (by simp)
  have e3 : H5.at_ (H.next + 3) = H4.at_ (H.next + 3) := a5 _ (by omega) (by simp)
  have hB5 := (hB.kept ((xk.trans (k5.lower (by omega))).lower hl)).up (show lo ≤ H5.next by omega)
  simp [e0, x0]
  refine ⟨e3, ?_⟩
  refine (Ow.emp (b := H.next + 3) (lo := H.next + 3) (e3.trans x3) (by omega) (by omega)).append (bytes := 8) (c := 0) hB5 (by omega) (by simp [maxLen]; omega) (by simp; omega) fun H6 o6 n6 a6 k6 => ?_
  have g1 : H6.at_ (H.next + 1) = .cells [.slice none 0 0, .slice none 0 0] .var 24 := by rw [a6 _ (by omega) (by simp), e1, x1]
  have g4 : H6.at_ (H.next + 4) = H5.at_ (H.next + 4) := a6 _ (by omega) (by simp)
  have o56 : Rd 1 eI H6.next H6 (some ⟨H4.next, 0, none⟩) ms := by
    have := o5.rd
    rcases this.2 with ⟨h, _⟩ | ⟨b, o, cs, k, t, q1, q2, q3, q4⟩
    · cases h
    · injection q1 with q1
      injection q1 with q1 q1'
      subst q1; subst q1'
      refine ⟨this.1, .inr ⟨H4.next, 0, cs, k, t, rfl, by omega, ⟨?_, q3.2⟩, q4⟩⟩
      rw [← q3.1, xn]
      exact g4
  simp [g1, setCells, aFill]
  refine ⟨⟨_, _, rfl, o56.updVar g1 _, o6.rd.updVar g1 _⟩, (xk.trans ((k5.lower (by omega)).trans (k6.lower (by omega)))).upd (by omega) _⟩

theorem c17 {lo : Nat} {H : AHeap} {a b : Value} {m s n t : List Int} (hl : lo ≤ H.next) (ha : IsW lo H a m s) (hb : IsW lo H b n t) (hm : m.length ≤ 140737488355328) (hs : s.length ≤ 140737488355328) :
    ACalls Try.prog 17 [a, b] H fun v H' => v = .bool (decide (m = n) && decide (s = t)) ∧ H' = H := by
  obtain ⟨A, B, rfl, hA, hB⟩ := ha
  obtain ⟨C, D, rfl, hC, hD⟩ := hb
  refine ACalls.eq (S17_calls ?_) rfl
  unfold S17
  simp [at_alloc, Nat.add_assoc]
  have hk : ∀ x y, Keep H.next H ((H.alloc x).alloc y) := fun x y => ((Keep.refl _ _).alloc (Nat.le_refl _) _).alloc (by simp) _
  have g : ∀ {E : Option Addr} {xs : List Int}, Ints lo H E xs → ∀ x y, Ints lo ((H.alloc x).alloc y) E xs := fun h x y => (h.alloc hl x).alloc (Nat.le_succ_of_le hl) y
  refine (c25 (g hA _ _) (g hC _ _) hm).use ?_
  unfold S17_37
  by_cases h : m = n
  · simp [h, at_alloc]
    refine (c25 (g hB _ _) (g hD _ _) hs).use ?_
    simp [hk]
  · simp [h, hk]

theorem c20 {lo : Nat} {H : AHeap} {a b : Value} {m s n t : List Int} (hl : lo ≤ H.next) (ha : IsW lo H a m s) (hb : IsW lo H b n t) (hm : m.length ≤ 140737488355328) (hs : s.length ≤ 140737488355328) :
    ACalls Try.prog 20 [a, b] H fun v H' => v = .bool (decide (m = n) && decide (s = t)) ∧ H' = H := by
  obtain ⟨A, B, rfl, hA, hB⟩ := ha
  obtain ⟨C, D, rfl, hC, hD⟩ := hb
  refine ACalls.eq (S20_calls ?_) rfl
  unfold S20
  simp [at_alloc, Nat.add_assoc]
  have hk : ∀ x y, Keep H.next H ((H.alloc x).alloc y) := fun x y => ((Keep.refl _ _).alloc (Nat.le_refl _) _).alloc (by simp) _
  have g : ∀ {E : Option Addr} {xs : List Int}, Ints lo H E xs → ∀ x y, Ints lo ((H.alloc x).alloc y) E xs := fun h x y => (h.alloc hl x).alloc (Nat.le_succ_of_le hl) y
  refine (c27 (g hA _ _) (g hC _ _) hm).use ?_
  unfold S20_37
  by_cases h : m = n
  · simp [h, at_alloc]
    refine (c27 (g hB _ _) (g hD _ _) hs).use ?_
    simp [hk]
  · simp [h, hk]

/-- Two slices behind one another, in a row of their own. -/
theorem cat2 {lo : Nat} {H : AHeap} {A B : Option Addr} {xs ys : List Int} {K : Value → AHeap → Prop} (hl : lo ≤ H.next) (hA : Ints lo H A xs) (hB : Ints lo H B ys) (h1 : xs.length ≤ 100000) (h2 : ys.length ≤ 100000)
    (hk : ∀ b H', Ow 1 eI 3 H.next H' (some ⟨b, 0, none⟩) (xs ++ ys) → Keep H.next H H' → K (.slice (some ⟨b, 0, none⟩) (xs ++ ys).length (xs ++ ys).length) H') :
    aBuildSlice 1 0 3 [(.int .i64 0)] [] H fun t H1 => aAppend 1 8 3 t (.slice A xs.length xs.length) H1 fun t2 H2 => aAppend 1 8 3 t2 (.slice B ys.length ys.length) H2 K := by
  simp [aFill]
  have xk : Keep H.next H (H.alloc (.cells [] (.row 1) 3)) := (Keep.refl _ _).alloc (Nat.le_refl _) _
  refine (Ow.emp (b := H.next) (lo := H.next) (by simp) (by omega) (by simp)).append (c := 0) ((hA.kept (xk.lower hl)).up hl) (by simp) (by simp [maxLen]; omega) (by simp; omega) fun H2 o2 n2 a2 k2 => ?_
  have k2' := xk.trans k2
  refine o2.append ((hB.kept (k2'.lower hl)).up hl) (by have := k2'.next; omega) (by simp [maxLen]; omega) (by simp; omega) fun H3 o3 n3 a3 k3 => ?_
  simp only [List.nil_append] at o3 ⊢
  exact hk _ _ o3 (k2'.trans k3)

theorem l206 {lo : Nat} {H : AHeap} {R : Value → AHeap → Prop} {A B C D : Option Addr} {m s n t : List Int} (hl : lo ≤ H.next) (hA : Ints lo H A m) (hB : Ints lo H B s) (hC : Ints lo H C n) (hD : Ints lo H D t) (lm : m.length ≤ 256) (ls : s.length ≤ 256) (ln : n.length ≤ 256) (lt : t.length ≤ 256)
    (hR : ∀ A B H', Ints H'.next H' A (join2 m s n t).1 → Ints H'.next H' B (join2 m s n t).2.1 → Keep H.next H H' →
      R (.tuple #[.slice A (join2 m s n t).1.length (join2 m s n t).1.length, .slice B (join2 m s n t).2.1.length (join2 m s n t).2.1.length, .int .i64 (join2 m s n t).2.2]) H') :
    S19_206 R [.slice A m.length m.length, .slice B s.length s.length, .slice C n.length n.length, .slice D t.length t.length] H := by
  unfold S19_206
  simp only [nth_zero, nth_1, nth_2, nth_3]
  refine cat2 hl hA hC (by omega) (by omega) fun b1 H1 o1 k1 => ?_
  have hl1 : lo ≤ H1.next := Nat.le_trans hl k1.next
  refine cat2 hl1 (hB.kept (k1.lower hl)) (hD.kept (k1.lower hl)) (by omega) (by omega) fun b2 H2 o2 k2 => ?_
  have o1 := o1.kept k2
  have k := k1.trans (k2.lower k1.next)
  by_cases h1 : m.length + n.length ≤ 256
  · by_cases h2 : s.length + t.length ≤ 256
    · simp [show ¬ (256 : Int) < m.length + n.length by omega, show ¬ (256 : Int) < s.length + t.length by omega]
      have hc := c26 o1.rd o2.rd (by simp; omega) (by simp; omega)
      simp only [List.length_append] at hc
      refine hc.use ?_
      have hs : small (m ++ n) (s ++ t) = true := by simp [small, h1, h2]
      by_cases hw : okW (m ++ n) (s ++ t)
      · have hj : join2 m s n t = (m ++ n, s ++ t, 0) := by simp [join2, hs, hw]
        rw [hj] at hR
        simpa [hw] using hR _ _ _ o1.rd o2.rd k
      · have hj : join2 m s n t = ([], [], 2) := by simp [join2, hs, hw]
        rw [hj] at hR
        simpa [hw] using hR none none _ (Rd.nil _ _ _ _) (Rd.nil _ _ _ _) k
    · have hs : small (m ++ n) (s ++ t) = false := by simp [small]; omega
      have hj : join2 m s n t = ([], [], 6) := by simp [join2, hs]
      rw [hj] at hR
      simpa [show ¬ (256 : Int) < m.length + n.length by omega, show (256 : Int) < s.length + t.length by omega] using hR none none _ (Rd.nil _ _ _ _) (Rd.nil _ _ _ _) k
  · have hs : small (m ++ n) (s ++ t) = false := by simp [small]; omega
    have hj : join2 m s n t = ([], [], 6) := by simp [join2, hs]
    rw [hj] at hR
    simpa [show (256 : Int) < m.length + n.length by omega] using hR none none _ (Rd.nil _ _ _ _) (Rd.nil _ _ _ _) k

theorem c19 {lo : Nat} {H : AHeap} {A B C D : Option Addr} {m s n t : List Int} (hl : lo ≤ H.next) (hA : Ints lo H A m) (hB : Ints lo H B s) (hC : Ints lo H C n) (hD : Ints lo H D t) :
    ACalls Try.prog 19 [.slice A m.length m.length, .slice B s.length s.length, .slice C n.length n.length, .slice D t.length t.length] H fun v H' =>
      ∃ E F, v = .tuple #[.slice E (joinL m s n t).1.length (joinL m s n t).1.length, .slice F (joinL m s n t).2.1.length (joinL m s n t).2.1.length, .int .i64 (joinL m s n t).2.2] ∧
        Ints H'.next H' E (joinL m s n t).1 ∧ Ints H'.next H' F (joinL m s n t).2.1 ∧ Keep H.next H H' := by
  refine S19_calls ?_
  unfold S19
  refine (c18 hA hB).use ?_
  unfold S19_208
  by_cases s1 : sound m s = true
  · simp [s1]
    refine (c18 hC hD).use ?_
    by_cases s2 : sound n t = true
    · simp [s2]
      have z1 : m.length ≤ 256 ∧ s.length ≤ 256 := by simp [sound, small] at s1; exact s1.1
      have z2 : n.length ≤ 256 ∧ t.length ≤ 256 := by simp [sound, small] at s2; exact s2.1
      generalize hR : (fun v H' => ∃ E F, v = .tuple #[.slice E (joinL m s n t).1.length (joinL m s n t).1.length, .slice F (joinL m s n t).2.1.length (joinL m s n t).2.1.length, .int .i64 (joinL m s n t).2.2] ∧
        Ints H'.next H' E (joinL m s n t).1 ∧ Ints H'.next H' F (joinL m s n t).2.1 ∧ Keep H.next H H' : Value → AHeap → Prop) = R
      have hR' : ∀ E F H', Ints H'.next H' E (joinL m s n t).1 → Ints H'.next H' F (joinL m s n t).2.1 → Keep H.next H H' →
          R (.tuple #[.slice E (joinL m s n t).1.length (joinL m s n t).1.length, .slice F (joinL m s n t).2.1.length (joinL m s n t).2.1.length, .int .i64 (joinL m s n t).2.2]) H' := by
        intro E F H' h1 h2 h3
        subst hR
        exact ⟨E, F, rfl, h1, h2, h3⟩
      have hno : cut m s n t = false → S19_206 R [.slice A m.length m.length, .slice B s.length s.length, .slice C n.length n.length, .slice D t.length t.length] H := by
        intro hc
        have hj : joinL m s n t = join2 m s n t := by simp [joinL, s1, s2, hc]
        rw [hj] at hR'
        exact l206 hl hA hB hC hD z1.1 z1.2 z2.1 z2.2 hR'
      have hyes : cut m s n t = true → S19_205 (.slice A m.length m.length) (.slice B s.length s.length) (.slice C n.length n.length) (.slice D t.length t.length) (.int .i64 m.length) (.int .i64 s.length) (fun vs H => S19_206 R vs H) H := by
        intro hc
        have hj : joinL m s n t = join2 m.dropLast s.dropLast n.tail t.tail := by simp [joinL, s1, s2, hc]
        rw [hj] at hR'
        have hc' := hc
        simp only [cut, Bool.and_eq_true, decide_eq_true_eq] at hc'
        obtain ⟨⟨⟨⟨⟨⟨⟨p1, p2⟩, p3⟩, p4⟩, _⟩, _⟩, _⟩, _⟩ := hc'
        have e1 := wrap64 (x := (m.length : Int) - 1) (by omega) (by omega)
        have e2 := wrap64 (x := (s.length : Int) - 1) (by omega) (by omega)
        have i1 := hA.sliceHi (k := .i64) (j := (m.length : Int) - 1) (by omega) (by omega)
        have i2 := hB.sliceHi (k := .i64) (j := (s.length : Int) - 1) (by omega) (by omega)
        have i3 := hC.sliceLo (k := .i64) (i := 1) (by omega) (by omega)
        have i4 := hD.sliceLo (k := .i64) (i := 1) (by omega) (by omega)
        have r1 := hA.take (j := m.length - 1) (by omega)
        have r2 := hB.take (j := s.length - 1) (by omega)
        have r3 := hC.drop (i := 1) (by omega)
        have r4 := hD.drop (i := 1) (by omega)
        rw [show ((m.length : Int) - 1).toNat = m.length - 1 by omega] at i1
        rw [show ((s.length : Int) - 1).toNat = s.length - 1 by omega] at i2
        rw [show (1 : Int).toNat = 1 from rfl] at i3 i4
        rw [← List.dropLast_eq_take] at r1 r2
        rw [List.drop_one] at r3 r4
        unfold S19_205
        simp [e1, e2, i1, i2, i3, i4]
        have := l206 hl r1 r2 r3 r4 (by simp; omega) (by simp; omega) (by simp; omega) (by simp; omega) hR'
        simpa using this
      unfold S19_207
      rw [aLenSl_slice, bnd_some', aLenSl_slice, bnd_some', aJoin_eq]
      by_cases h1 : 0 < m.length
      · by_cases h2 : 0 < s.length
        · by_cases h3 : 0 < n.length
          · by_cases h4 : 0 < t.length
            · have e1 := wrap64 (x := (m.length : Int) - 1) (by omega) (by omega)
              have e2 := wrap64 (x := (s.length : Int) - 1) (by omega) (by omega)
              have iA := hA.idx (k := .i64) (j := (m.length : Int) - 1) (c := m.length) (by omega) (by omega)
              have iB := hB.idx (k := .i64) (j := (s.length : Int) - 1) (c := s.length) (by omega) (by omega)
              have iC := hC.idx (k := .i64) (j := 0) (c := n.length) (by omega) (by omega)
              have iD := hD.idx (k := .i64) (j := 0) (c := t.length) (by omega) (by omega)
              have lA := hA.ld (j := m.length - 1) (by omega)
              have lB := hB.ld (j := s.length - 1) (by omega)
              have lC := hC.ld (j := 0) (by omega)
              have lD := hD.ld (j := 0) (by omega)
              rw [show ((m.length : Int) - 1).toNat = m.length - 1 by omega] at iA
              rw [show ((s.length : Int) - 1).toNat = s.length - 1 by omega] at iB
              have g1 : m.getLastD 0 = m[m.length - 1] := by rw [List.getLastD_eq_getLast?, List.getLast?_eq_getElem?, List.getElem?_eq_getElem (by omega)]; rfl
              have g2 : s.getLastD 0 = s[s.length - 1] := by rw [List.getLastD_eq_getLast?, List.getLast?_eq_getElem?, List.getElem?_eq_getElem (by omega)]; rfl
              have g3 : n.headD 0 = n[0] := by cases n with | nil => simp at h3 | cons x xs => rfl
              have g4 : t.headD 0 = t[0] := by cases t with | nil => simp at h4 | cons x xs => rfl
              have hc : cut m s n t = (!decide (m[m.length - 1] = -1) && decide (n[0] = -1) && decide (s[s.length - 1] = 0) && decide (t[0] = 0)) := by
                simp only [cut, h1, h2, h3, h4, g1, g2, g3, g4, decide_true, Bool.true_and]
              rw [hc] at hno hyes
              generalize m[m.length - 1] = a at *
              generalize s[s.length - 1] = b at *
              generalize n[0] = c at *
              generalize t[0] = d at *
              clear hc g1 g2 g3 g4
              have f1 : (0 : Int) < m.length := by omega
              have f2 : (0 : Int) < s.length := by omega
              have f3 : (0 : Int) < n.length := by omega
              have f4 : (0 : Int) < t.length := by omega
              by_cases k1 : a = -1 <;> by_cases k2 : c = -1 <;> by_cases k3 : b = 0 <;> by_cases k4 : d = 0 <;>
                simp [h1, h2, h3, h4, f1, f2, f3, f4, e1, e2, iA, iB, iC, iD, lA, lB, lC, lD, k1, k2, k3, k4] <;> first | exact hno (by simp [k1, k2, k3, k4]) | exact hyes (by simp [k1, k2, k3, k4])
            · simpa [h1, h2, h3, h4] using hno (by simp [cut, h4])
          · simpa [h1, h2, h3] using hno (by simp [cut, h3])
        · simpa [h1, h2] using hno (by simp [cut, h2])
      · simpa [h1] using hno (by simp [cut, h1])
    · have hj : joinL m s n t = ([], [], 2) := by simp [joinL, s2]
      simp [s2, hj]
      exact ⟨none, none, ⟨rfl, rfl⟩, Rd.nil _ _ _ _, Rd.nil _ _ _ _⟩
  · have hj : joinL m s n t = ([], [], 2) := by simp [joinL, s1]
    simp [s1, hj]
    exact ⟨none, none, ⟨rfl, rfl⟩, Rd.nil _ _ _ _, Rd.nil _ _ _ _⟩

theorem c14 {lo : Nat} {H : AHeap} {a b : Value} {m s n t : List Int} (hl : lo ≤ H.next) (ha : IsW lo H a m s) (hb : IsW lo H b n t) :
    ACalls Try.prog 14 [a, b] H fun v H' => ∃ v', v = .tuple #[v', .bool (decide ((joinL m s n t).2.2 = 0))] ∧ IsW H'.next H' v' (joinL m s n t).1 (joinL m s n t).2.1 ∧ Keep H.next H H' := by
  obtain ⟨A, B, rfl, hA, hB⟩ := ha
  obtain ⟨C, D, rfl, hC, hD⟩ := hb
  refine S14_calls ?_
  unfold S14
  simp [at_alloc, Nat.add_assoc]
  obtain ⟨H3, hH3⟩ : ∃ X, X = (((H.alloc (.cells [.slice A m.length m.length, .slice B s.length s.length] .var 24)).alloc (.cells [.slice C n.length n.length, .slice D t.length t.length] .var 24)).alloc (.cells [.slice none 0 0, .slice none 0 0] .var 24)) := ⟨_, rfl⟩
  have x3 : H3.at_ (H.next + 2) = .cells [.slice none 0 0, .slice none 0 0] .var 24 := by rw [hH3]; simp [at_alloc, Nat.add_assoc]
  have xn : H3.next = H.next + 3 := by rw [hH3]; rfl
  have xk : Keep H.next H H3 := by rw [hH3]; repeat (first | exact Keep.refl _ _ | refine Keep.alloc ?_ (by simp <;> omega) _)
  dsimp only [vcells]
  rw [← hH3]
  clear hH3
  have xk' := xk.lower hl
  refine (c19 (lo := lo) (by omega) (hA.kept xk') (hB.kept xk') (hC.kept xk') (hD.kept xk')).mono fun v H4 hv => ?_
  obtain ⟨E, F, rfl, hE, hF, k4⟩ := hv
  have x4 : H4.at_ (H.next + 2) = .cells [.slice none 0 0, .slice none 0 0] .var 24 := (k4.at_ _ (by omega)).trans x3
  simp [x4, aFill, setCells]
  exact ⟨⟨E, F, rfl, hE.updVar x4 _, hF.updVar x4 _⟩, (xk.trans (k4.lower (by omega))).upd (by omega) _⟩

/-- A variable that holds a wrap. -/
def HW (p : Nat) (H : AHeap) (ms ss : List Int) : Prop := p < H.next ∧ ∃ A B, H.at_ p = .cells [.slice A ms.length ms.length, .slice B ss.length ss.length] .var 24 ∧ Ints H.next H A ms ∧ Ints H.next H B ss
theorem HW.kept {p : Nat} {H H' : AHeap} {ms ss : List Int} (h : HW p H ms ss) (hk : Keep H.next H H') : HW p H' ms ss := by
  obtain ⟨h0, A, B, h1, h2, h3⟩ := h
  exact ⟨Nat.lt_of_lt_of_le h0 hk.next, A, B, (hk.at_ p h0).trans h1, (h2.kept hk).up hk.next, (h3.kept hk).up hk.next⟩
theorem HW.alloc {p : Nat} {H : AHeap} {ms ss : List Int} (h : HW p H ms ss) (x : Blk) : HW p (H.alloc x) ms ss := h.kept ((Keep.refl _ _).alloc (Nat.le_refl _) _)
theorem HW.updVar {p q : Nat} {H : AHeap} {ms ss : List Int} (h : HW p H ms ss) {cs : List Value} {t : TypeId} (hq : H.at_ q = .cells cs .var t) (hpq : p ≠ q) (x : Blk) : HW p (H.upd q x) ms ss := by
  obtain ⟨h0, A, B, h1, h2, h3⟩ := h
  exact ⟨h0, A, B, (AHeap.at_upd_ne _ _ hpq).trans h1, h2.updVar hq _, h3.updVar hq _⟩
theorem HW.set {q : Nat} {H : AHeap} {A B : Option Addr} {ms ss : List Int} (hq0 : q < H.next) (hA : Ints H.next H A ms) (hB : Ints H.next H B ss) {cs : List Value} {t : TypeId} (hq : H.at_ q = .cells cs .var t) :
    HW q (H.upd q (.cells [.slice A ms.length ms.length, .slice B ss.length ss.length] .var 24)) ms ss :=
  ⟨hq0, A, B, AHeap.at_upd_same _ _ _, hA.updVar hq _, hB.updVar hq _⟩
theorem HW.isW {p : Nat} {H : AHeap} {ms ss : List Int} (h : HW p H ms ss) : ∃ A B, H.at_ p = .cells [.slice A ms.length ms.length, .slice B ss.length ss.length] .var 24 ∧ IsW H.next H (W A ms.length B ss.length) ms ss := by
  obtain ⟨h0, A, B, h1, h2, h3⟩ := h
  exact ⟨A, B, h1, A, B, rfl, h2, h3⟩

theorem IsW.updVar {lo q : Nat} {H : AHeap} {v : Value} {ms ss : List Int} (h : IsW lo H v ms ss) {cs : List Value} {t : TypeId} (hq : H.at_ q = .cells cs .var t) (x : Blk) : IsW lo (H.upd q x) v ms ss := by
  obtain ⟨A, B, h1, h2, h3⟩ := h
  exact ⟨A, B, h1, h2.updVar hq _, h3.updVar hq _⟩
/-- Its value. -/
theorem HW.ld {p : Nat} {H : AHeap} {ms ss : List Int} (h : HW p H ms ss) : ∃ v, aLdAgg 2 (.pointer (some ⟨p, 0, none⟩)) H = some v ∧ IsW H.next H v ms ss := by
  obtain ⟨A, B, h1, h2⟩ := h.isW
  exact ⟨_, by simp [h1], h2⟩
/-- A new variable for it. -/
theorem HW.new {H : AHeap} {v : Value} {ms ss : List Int} (h : IsW H.next H v ms ss) : ∃ H', aSt 2 (.pointer (some ⟨H.next, 0, none⟩)) v (H.alloc (.cells [.slice none 0 0, .slice none 0 0] .var 24)) = some H' ∧ HW H.next H' ms ss ∧ Keep H.next H H' := by
  obtain ⟨A, B, rfl, hA, hB⟩ := h
  have z : (H.alloc (.cells [.slice none 0 0, .slice none 0 0] .var 24)).at_ H.next = .cells [.slice none 0 0, .slice none 0 0] .var 24 := by simp
  exact ⟨_, by simp [setCells], HW.set (by simp) ((hA.alloc (Nat.le_refl _) _).up (by simp)) ((hB.alloc (Nat.le_refl _) _).up (by simp)) z, ((Keep.refl _ _).alloc (Nat.le_refl _) _).upd (Nat.le_refl _) _⟩
/-- Set anew. -/
theorem HW.put {p : Nat} {H : AHeap} {v : Value} {ms ss ms' ss' : List Int} (w : HW p H ms' ss') (h : IsW H.next H v ms ss) : ∃ H', aSt 2 (.pointer (some ⟨p, 0, none⟩)) v H = some H' ∧ HW p H' ms ss ∧ Keep p H H' ∧ ∀ q m s, q ≠ p → HW q H m s → HW q H' m s := by
  obtain ⟨A, B, rfl, hA, hB⟩ := h
  obtain ⟨C, D, h1, h2⟩ := w.isW
  exact ⟨_, by simp [h1, setCells], HW.set w.1 hA hB h1, (Keep.refl _ _).upd (Nat.le_refl _) _, fun q m s hq hw => hw.updVar h1 hq _⟩
/-- A parameter's variable. -/
theorem HW.box {H : AHeap} {lo : Nat} {v : Value} {ms ss : List Int} {K : Value → AHeap → Prop} (hl : lo ≤ H.next) (h : IsW lo H v ms ss) (hk : ∀ H', HW H.next H' ms ss → Keep H.next H H' → H'.next = H.next + 1 → K (.pointer (some ⟨H.next, 0, none⟩)) H') : aBox 24 v H K := by
  obtain ⟨A, B, rfl, hA, hB⟩ := h
  simp
  refine hk _ ⟨by simp, A, B, by simp, (hA.alloc hl _).up (by simp; omega), (hB.alloc hl _).up (by simp; omega)⟩ ((Keep.refl _ _).alloc (Nat.le_refl _) _) rfl
theorem Keep.ldAgg {lo n p o : Nat} {H H' : AHeap} (hk : Keep lo H H') (hp : p < lo) : aLdAgg n (.pointer (some ⟨p, o, none⟩)) H' = aLdAgg n (.pointer (some ⟨p, o, none⟩)) H := by simp [hk.at_ p hp]
theorem IsW.emp (lo : Nat) (H : AHeap) : IsW lo H (.agg #[.slice none 0 0, .slice none 0 0]) [] [] := ⟨none, none, rfl, Rd.nil _ _ _ _, Rd.nil _ _ _ _⟩
end Go.Proofs.Ytcjckenainacaaa.A
