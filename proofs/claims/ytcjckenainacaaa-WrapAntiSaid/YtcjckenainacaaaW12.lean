/- Contracts of functions that the statement reaches; each theorem carries its own conditions, the last theorem of the claim has none. -/
import Derived.Test.YtcjckenainacaaaW10
set_option linter.unusedVariables false
set_option linter.unusedSimpArgs false
namespace Go.Proofs.Ytcjckenainacaaa.A
open Go Go.Abs

/-- Sound, and without a mark that is taken away. -/
def good (m s : List Int) : Prop := (∀ x ∈ m, 1 ≤ x) ∧ (∀ x ∈ s, 0 ≤ x) ∧ s.count 0 = m.length
theorem good_ok {m s : List Int} (h : good m s) : okW m s := ⟨h.2.1, fun i hi => .inl (h.1 _ (List.getElem_mem hi)), h.2.2⟩
theorem good_sound {m s : List Int} (h : good m s) (h1 : m.length ≤ 256) (h2 : s.length ≤ 256) : sound m s = true := by
  simp [sound, small, h1, h2, good_ok h]
theorem good_of {m s : List Int} (h : sound m s = true) (hm : ∀ (h : 0 < m.length), m[0] ≠ -1) : good m s := by
  simp only [sound, Bool.and_eq_true, decide_eq_true_eq] at h
  refine ⟨fun x hx => ?_, h.2.1, h.2.2.2⟩
  obtain ⟨i, hi, rfl⟩ := List.getElem_of_mem hx
  rcases h.2.2.1 i hi with h1 | ⟨h1, rfl⟩
  · exact h1
  · exact absurd h1 (hm hi)
theorem count_pos (rs : List Int) (h : ∀ x ∈ rs, 1 ≤ x) : rs.count 0 = 0 := by
  rw [List.count_eq_zero]
  intro h0
  have := h 0 h0
  omega
theorem good_app {m s rs : List Int} (h : good m s) (hr : ∀ x ∈ rs, 1 ≤ x) : good m (rs ++ s) := by
  refine ⟨h.1, fun x hx => ?_, ?_⟩
  · rcases List.mem_append.1 hx with hx | hx
    · have := hr x hx; omega
    · exact h.2.1 x hx
  · rw [List.count_append, count_pos rs hr, h.2.2, Nat.zero_add]
theorem anti_ok {m s : List Int} (h : good m s) : okW (-1 :: m) (0 :: s) := by
  refine ⟨fun x hx => ?_, fun i hi => ?_, ?_⟩
  · rcases List.mem_cons.1 hx with rfl | hx
    · decide
    · exact h.2.1 x hx
  · cases i with
    | zero => exact .inr ⟨rfl, rfl⟩
    | succ i => exact .inl (h.1 _ (List.getElem_mem _))
  · rw [List.count_cons_self, h.2.2]; rfl
theorem markM_pos {k : Int} (h : 1 ≤ k) : markM k = [k] ∧ markS k = [0] := by
  unfold markM markS
  rw [if_neg (by omega), if_neg (by omega)]
  exact ⟨rfl, rfl⟩
theorem sound_rib1 {r : Int} (h : 1 ≤ r) : sound [] [r] = true := by
  refine good_sound ⟨by simp, ?_, ?_⟩ (by simp) (by simp)
  · intro x hx; simp at hx; omega
  · exact count_pos [r] (by simpa using h)
theorem join_rib {r : Int} {m s : List Int} (h : 1 ≤ r) (hg : good m s) (hm : m.length ≤ 256) (hs : s.length ≤ 255) : joinL [] [r] m s = (m, r :: s, 0) := by
  have h1 := sound_rib1 h
  have h2 := good_sound hg hm (by omega)
  have h3 := good_app hg (rs := [r]) (by simpa using h)
  have hc : cut [] [r] m s = false := by simp [cut]
  have h4 : small m (r :: s) = true := by simp [small]; omega
  have h5 := good_ok h3
  simp only [List.singleton_append] at h5
  simp [joinL, h1, h2, hc, join2, h4, h5]
theorem join_anti {m s : List Int} (hg : good m s) (hm : m.length ≤ 255) (hs : s.length ≤ 255) : joinL [-1] [0] m s = (-1 :: m, 0 :: s, 0) := by
  have h1 : sound [-1] [0] = true := by decide +kernel
  have h2 := good_sound hg (by omega) (by omega)
  have hc : cut [-1] [0] m s = false := by simp [cut]
  have h4 : small (-1 :: m) (0 :: s) = true := by simp [small]; omega
  simp [joinL, h1, h2, hc, join2, h4, anti_ok hg]
theorem join_last {k : Int} {rs m s : List Int} (hk : 1 ≤ k) (hr : ∀ x ∈ rs, 1 ≤ x) (hg : good m s) (h1 : rs.length ≤ 20) (hm : m.length ≤ 200) (hs : s.length ≤ 200) :
    joinL [k] (rs ++ [0]) (-1 :: m) (0 :: s) = (m, rs ++ s, 0) := by
  have g1 : good [k] [0] := ⟨by simpa using hk, by simp, by simp⟩
  have s1 : sound [k] (rs ++ [0]) = true := good_sound (good_app g1 hr) (by simp) (by simp; omega)
  have s2 : sound (-1 :: m) (0 :: s) = true := by
    simp only [sound, small, Bool.and_eq_true, decide_eq_true_eq, List.length_cons]
    exact ⟨by omega, anti_ok hg⟩
  have hc : cut [k] (rs ++ [0]) (-1 :: m) (0 :: s) = true := by simp [cut]; omega
  have h4 : small m (rs ++ s) = true := by simp [small]; omega
  simp [joinL, s1, s2, hc, join2, h4, good_ok (good_app hg hr)]

/-- The ribs around, after i rounds. -/
def ribsOf (R : List Int) (i : Nat) : List Int := ((R.take i).map (· + 1)).reverse
theorem ribsOf_succ {R : List Int} {i : Nat} (h : i < R.length) : ribsOf R (i + 1) = (R[i] + 1) :: ribsOf R i := by
  unfold ribsOf
  rw [List.take_succ_eq_append_getElem h, List.map_append, List.reverse_append]
  rfl
theorem ribsOf_pos {R : List Int} (h : ∀ x ∈ R, 0 ≤ x) (i : Nat) : ∀ x ∈ ribsOf R i, 1 ≤ x := by
  intro x hx
  unfold ribsOf at hx
  rw [List.mem_reverse, List.mem_map] at hx
  obtain ⟨y, hy, rfl⟩ := hx
  have := h y (List.mem_of_mem_take hy)
  omega
theorem ribsOf_len (R : List Int) (i : Nat) : (ribsOf R i).length ≤ i := by
  unfold ribsOf
  rw [List.length_reverse, List.length_map, List.length_take]
  omega

abbrev eU (x : Int) : List Value := [Value.int .u8 x]
theorem HW.putU {p : Nat} {H : AHeap} {v : Value} {ms ss ms' ss' : List Int} (w : HW p H ms' ss') (h : IsW H.next H v ms ss) : ∃ H', aSt 2 (.pointer (some ⟨p, 0, none⟩)) v H = some H' ∧ HW p H' ms ss ∧ (∀ q m s, q ≠ p → HW q H m s → HW q H' m s) ∧ ∀ A R, Rd 1 eU H.next H A R → Rd 1 eU H'.next H' A R := by
  obtain ⟨A, B, rfl, hA, hB⟩ := h
  obtain ⟨C, D, h1, h2⟩ := w.isW
  exact ⟨_, by simp [h1, setCells], HW.set w.1 hA hB h1, fun q m s hq hw => hw.updVar h1 hq _, fun A R h => h.updVar h1 _⟩

theorem l275 {p1 p7 : Nat} {H : AHeap} {m s R : List Int} {AR : Option Addr} {u : Value} {k : Int} (hk : 1 ≤ k) (hR : ∀ x ∈ R, 0 ≤ x ∧ x < 256) (hRl : R.length ≤ 20) (hg : good m s) (hm : m.length ≤ 200) (hs : s.length ≤ 200)
    (hne : p1 ≠ p7) (w1 : HW p1 H m s) (w7 : HW p7 H (-1 :: m) (0 :: s)) (iu : IsW H.next H u [k] [0]) (hA : Rd 1 eU H.next H AR R) :
    S6_275 (.slice AR R.length R.length) (fun v H' => v = .bool true) (.pointer (some ⟨p1, 0, none⟩)) (.pointer (some ⟨p7, 0, none⟩)) (.int .i64 0) u H := by
  unfold S6_275
  have d1 := w1.1
  have d7 := w7.1
  obtain ⟨H1, e1, w9, k1⟩ := HW.new iu
  replace w1 := w1.kept k1
  replace w7 := w7.kept k1
  replace hA := (hA.kept k1).up k1.next
  obtain ⟨v1, f1, i1⟩ := w1.ld
  simp [-aLdAgg_ptr, -aSt_ptr, e1, f1]
  generalize H.next = p9 at *
  refine (c16 (Nat.le_refl _) i1 (by omega) (by omega)).mono fun v2 H2 ⟨i2, k2⟩ => ?_
  have w7 := w7.kept k2
  replace w9 := w9.kept k2
  replace hA := (hA.kept k2).up k2.next
  have b7 := w7.1
  have b9 := w9.1
  obtain ⟨H3, e3, w10, k3⟩ := HW.new i2
  replace w7 := w7.kept k3
  replace w9 := w9.kept k3
  replace hA := (hA.kept k3).up k3.next
  simp [-aLdAgg_ptr, -aSt_ptr, e3]
  generalize H2.next = p10 at *
  clear e1 f1 e3 k1 k2 k3 i1 i2 w1 iu
  refine aLoop_vs R.length (fun i vs H => vs = [.int .i64 i] ∧ HW p7 H (-1 :: m) (0 :: s) ∧ HW p9 H [k] (ribsOf R i ++ [0]) ∧ HW p10 H m (ribsOf R i ++ s) ∧ Rd 1 eU H.next H AR R) ⟨rfl, w7, w9, w10, hA⟩ ?_
  clear w7 w9 w10 hA H3
  rintro i vs H again hi ⟨rfl, w7, w9, w10, hA⟩ ha
  have hrp := ribsOf_pos (fun x hx => (hR x hx).1) i
  have hrl := ribsOf_len R i
  unfold S6_274
  by_cases h : i < R.length
  · have hx := hR R[i] (List.getElem_mem h)
    have hw1 := wrap64 (x := R[i]) (by omega) (by omega)
    have hw2 := wrap64 (x := R[i] + 1) (by omega) (by omega)
    have hw3 := wrap64 (x := (i : Int) + 1) (by omega) (by omega)
    simp [h]
    unfold S6_235
    simp [h, hA.idx (show (0:Int) ≤ i by omega) (show (i:Int) < R.length by omega), hA.ld h, hw1, hw2]
    refine c10.mono fun v4 H4 ⟨i4, k4⟩ => ?_
    rw [if_neg (by omega)] at i4
    obtain ⟨H5, e5, w12, k5⟩ := HW.new i4
    have k45 := k4.trans (k5.lower k4.next)
    have b7 := w7.1
    have b9 := w9.1
    have b10 := w10.1
    have b4 := k4.next
    have w7 := w7.kept k45
    have w9 := w9.kept k45
    have w10 := w10.kept k45
    have hA := (hA.kept k45).up k45.next
    obtain ⟨v12, f12, i12⟩ := w12.ld
    obtain ⟨v9, f9, i9⟩ := w9.ld
    unfold S6_234
    simp [-aLdAgg_ptr, -aSt_ptr, e5, f12, f9]
    refine (c15w (Nat.le_refl _) i12 i9).mono fun v H6 hv => ?_
    obtain ⟨v6, rfl, i6, k6⟩ := hv
    have hj1 := join_rib (r := R[i] + 1) (by omega) (good_app (m := [k]) (s := [0]) ⟨by simpa using hk, by simp, by simp⟩ hrp) (by simp) (by simp; omega)
    rw [hj1] at i6 ⊢
    have w7 := w7.kept k6
    have w9 := w9.kept k6
    have w10 := w10.kept k6
    have w12 := w12.kept k6
    have hA := (hA.kept k6).up k6.next
    obtain ⟨H7, e7, w9, q7, r7⟩ := w9.putU i6
    have w7 := q7 _ _ _ (by omega) w7
    have w10 := q7 _ _ _ (by omega) w10
    have w12 := q7 _ _ _ (by omega) w12
    have hA7 := r7 _ _ hA
    obtain ⟨v12, f12, i12⟩ := w12.ld
    obtain ⟨v10, f10, i10⟩ := w10.ld
    simp [-aLdAgg_ptr, -aSt_ptr, e7, f12, f10]
    refine (c15w (Nat.le_refl _) i12 i10).mono fun v H8 hv => ?_
    obtain ⟨v8, rfl, i8, k8⟩ := hv
    have hj2 := join_rib (r := R[i] + 1) (by omega) (good_app hg hrp) (by omega) (by simp; omega)
    rw [hj2] at i8 ⊢
    have w7 := w7.kept k8
    have w9 := w9.kept k8
    have w10 := w10.kept k8
    have hA := (hA7.kept k8).up k8.next
    obtain ⟨H9, e9, w10, q9, r9⟩ := w10.putU i8
    have w7 := q9 _ _ _ (by omega) w7
    have w9 := q9 _ _ _ (by omega) w9
    have hA9 := r9 _ _ hA
    unfold S6_233
    simp [-aLdAgg_ptr, -aSt_ptr, e9, hw3]
    refine ha _ _ h ⟨by simp, w7, ?_, ?_, hA9⟩
    · rw [ribsOf_succ h]; exact w9
    · rw [ribsOf_succ h]; exact w10
  · have hie : i = R.length := by omega
    obtain ⟨v7, f7, i7⟩ := w7.ld
    obtain ⟨v9, f9, i9⟩ := w9.ld
    simp [h, -aLdAgg_ptr, -aSt_ptr, f7, f9]
    refine (c15w (Nat.le_refl _) i9 i7).mono fun v H4 hv => ?_
    obtain ⟨v4, rfl, i4, k4⟩ := hv
    rw [join_last hk hrp hg (by omega) hm hs] at i4 ⊢
    obtain ⟨H5, e5, w15, k5⟩ := HW.new i4
    have w10 := (w10.kept k4).kept k5
    obtain ⟨v15, f15, i15⟩ := w15.ld
    obtain ⟨v10, f10, i10⟩ := w10.ld
    unfold S6_273
    simp [-aLdAgg_ptr, -aSt_ptr, e5, f15, f10]
    refine (c17 (Nat.le_refl _) i15 i10 (by simp; omega) (by simp; omega)).use ?_
    simp

/-- WrapAnti. -/
theorem c6 {lo : Nat} {H : AHeap} {a : Value} {m s R : List Int} {AR : Option Addr} {k : Int} (hl : lo ≤ H.next) (ha : IsW lo H a m s) (hA : Rd 1 eU lo H AR R) (hR : ∀ x ∈ R, 0 ≤ x ∧ x < 256) (hk : 0 ≤ k ∧ k < 256) :
    ACalls Try.prog 6 [a, .slice AR R.length R.length, .int .u8 k] H fun v H' => v = .bool true := by
  refine S6_calls ?_
  unfold S6
  refine HW.box hl ha fun H1 w1 k1 n1 => ?_
  have hA := ((hA.kept (k1.lower hl)).up (show lo ≤ H1.next by omega))
  refine c11.use ?_
  obtain ⟨A, B, x1, i1⟩ := w1.isW
  have i1' := i1
  obtain ⟨_, _, hh, hM, hS⟩ := i1'
  simp at hh
  obtain ⟨rfl, rfl⟩ := hh
  generalize H.next = p1 at *
  clear k1 n1
  unfold S6_279
  simp [x1]
  refine (c13w i1).use ?_
  cases h1 : light m s
  · simp
    exact c11.use rfl
  simp [x1]
  refine (c18 hM hS).use ?_
  cases h2 : sound m s
  · simp
    exact c11.use rfl
  by_cases h3 : 200 < s.length
  · simp [x1, show (200 : Int) < s.length by omega]
    exact c11.use rfl
  by_cases h4 : 200 < m.length
  · simp [x1, show ¬ (200 : Int) < s.length by omega, show (200 : Int) < m.length by omega]
    exact c11.use rfl
  have hgo : (∀ (h : 0 < m.length), m[0] ≠ -1) → R.length ≤ 20 → S6_278 (.slice AR R.length R.length) (.int .u8 k) (fun v H' => v = .bool true) (.pointer (some ⟨p1, 0, none⟩)) H1 := by
    intro hm0 hR20
    have hg := good_of h2 hm0
    unfold S6_278
    obtain ⟨v1, e1, i1⟩ := w1.ld
    simp [-aLdAgg_ptr, e1]
    have kA := Keep.new H1 (.cells [.slice none 0 0, .slice none 0 0] .var 24)
    have w7 := HW.nil H1
    have d1 := w1.1
    refine c9.mono fun v2 H2 ⟨i2, k2⟩ => ?_
    have kA2 := kA.trans (k2.lower (Nat.le_succ _))
    refine ⟨⟨by rw [Keep.ldAgg kA2 w1.1, e1]; simp, k2.at_ _ (by simp)⟩, ?_⟩
    refine (c16 kA2.next (i1.kept kA2) (by omega) (by omega)).mono fun v3 H3 ⟨i3, k3⟩ => ?_
    have w7 := w7.kept k2
    unfold S6_276
    refine ⟨k3.at_ _ w7.1, ?_⟩
    have w7 := w7.kept k3
    refine (c15w (Nat.le_refl _) ((i2.kept k3).up k3.next) i3).mono fun v H4 hv => ?_
    obtain ⟨v4, rfl, i4, k4⟩ := hv
    have hm1 : markM (-1) = [-1] := by decide
    have hm2 : markS (-1) = [0] := by decide
    rw [hm1, hm2, join_anti hg (by omega) (by omega)] at i4 ⊢
    refine ⟨k4.at_ _ w7.1, ?_⟩
    have w7 := w7.kept k4
    have kA4 := (kA2.trans (k3.lower kA2.next)).trans (k4.lower (Nat.le_trans kA2.next k3.next))
    have w1 := w1.kept kA4
    have hA := (hA.kept kA4).up kA4.next
    obtain ⟨H5, e5, w7, q5, r5⟩ := w7.putU i4
    have w1 := q5 _ _ _ (by omega) w1
    have hA := r5 _ _ hA
    have hw1 := wrap64 (x := k) (by omega) (by omega)
    have hw2 := wrap64 (x := k + 1) (by omega) (by omega)
    simp [-aLdAgg_ptr, -aSt_ptr, e5, hw1, hw2]
    refine c9.mono fun v6 H6 ⟨i6, k6⟩ => ?_
    obtain ⟨g1, g2⟩ := markM_pos (k := k + 1) (by omega)
    rw [g1, g2] at i6
    exact l275 (by omega) hR hR20 hg (by omega) (by omega) (by omega) (w1.kept k6) (w7.kept k6) i6 ((hA.kept k6).up k6.next)
  have hlast : (∀ (h : 0 < m.length), m[0] ≠ -1) → aCond (.bool (decide ((20 : Int) < R.length))) (ACalls Try.prog 11 [] H1 fun t H => t = .bool true) (S6_278 (.slice AR R.length R.length) (.int .u8 k) (fun v H' => v = .bool true) (.pointer (some ⟨p1, 0, none⟩)) H1) := by
    intro hm0
    refine aCond_of (fun _ => c11.use rfl) fun h => ?_
    simp at h
    exact hgo hm0 (by omega)
  have f3 : ¬ (200 : Int) < s.length := by omega
  have f4 : ¬ (200 : Int) < m.length := by omega
  by_cases h5 : 0 < m.length
  · have f5 : (0 : Int) < m.length := by omega
    have hi := hM.idx (k := .i64) (j := 0) (c := m.length) (by omega) (by omega)
    have hld := hM.ld (j := 0) h5
    simp at hi hld
    by_cases h6 : m[0] = -1
    · simp [x1, f3, f4, f5, h5, hi, hld, h6]
      exact c11.use rfl
    · simpa [x1, f3, f4, f5, h5, hi, hld, h6] using hlast fun _ => h6
  · have f5 : ¬ (0 : Int) < m.length := by omega
    simpa [x1, f3, f4, f5, h5] using hlast fun h => absurd h h5
end Go.Proofs.Ytcjckenainacaaa.A
