/- Contracts of functions that the statement reaches; each theorem carries its own conditions, the last theorem of the claim has none. -/
import Derived.Test.YtliakckflcoffaaDoorU10
set_option linter.unusedVariables false
set_option linter.unusedSimpArgs false
namespace Go.Proofs.YtliakckflcoffaaDoor.A
open Go Go.Abs
open Go.Lib (decodeN)

/-- Two behind one another, in a row of their own. -/
theorem catB {lo : Nat} {H : AHeap} {A B : Option Addr} {xs ys : List Nat} {K : Value → AHeap → Prop} (hl : lo ≤ H.next) (hA : BytesN lo H A xs) (hB : BytesN lo H B ys) (h1 : xs.length ≤ 10000000) (h2 : ys.length ≤ 10000000)
    (hk : ∀ E H', Ow 1 eN 5 H.next H' E (xs ++ ys) → Keep H.next H H' → K (.slice E (xs ++ ys).length (xs ++ ys).length) H') :
    aBuildSlice 1 0 5 [(.int .u8 0)] [] H fun t H1 => aAppend 1 1 5 t (.slice A xs.length xs.length) H1 fun t2 H2 => aAppend 1 1 5 t2 (.slice B ys.length ys.length) H2 K := by
  refine copyB hl hA (by omega) fun E H2 o2 k2 => ?_
  refine o2.append ((hB.kept (k2.lower hl)).up hl) k2.next (by simp only [maxLen]; omega) (by omega) fun H3 o3 n3 a3 k3 => ?_
  exact hk _ _ o3 (k2.trans k3)
theorem catI {lo : Nat} {H : AHeap} {A B : Option Addr} {xs ys : List Int} {K : Value → AHeap → Prop} (hl : lo ≤ H.next) (hA : Ints lo H A xs) (hB : Ints lo H B ys) (h1 : xs.length ≤ 1000000) (h2 : ys.length ≤ 1000000)
    (hk : ∀ E H', Ow 1 eI 3 H.next H' E (xs ++ ys) → Keep H.next H H' → K (.slice E (xs ++ ys).length (xs ++ ys).length) H') :
    aBuildSlice 1 0 3 [(.int .i64 0)] [] H fun t H1 => aAppend 1 8 3 t (.slice A xs.length xs.length) H1 fun t2 H2 => aAppend 1 8 3 t2 (.slice B ys.length ys.length) H2 K := by
  refine copyI hl hA (by omega) fun E H2 o2 k2 => ?_
  refine o2.append ((hB.kept (k2.lower hl)).up hl) k2.next (by simp only [maxLen]; omega) (by omega) fun H3 o3 n3 a3 k3 => ?_
  exact hk _ _ o3 (k2.trans k3)

/-- UtfJoins. -/
theorem c4 {lo : Nat} {H : AHeap} {A B : Option Addr} {xs ys : List Nat} (T : Tabs H) (hl : lo ≤ H.next) (hA : BytesN lo H A xs) (hB : BytesN lo H B ys) (hx : ∀ x ∈ xs, x < 256) (hy : ∀ x ∈ ys, x < 256) (lx : xs.length ≤ 1048576) (ly : ys.length ≤ 1048576) :
    ACalls Tryd.prog 4 [.slice A xs.length xs.length, .slice B ys.length ys.length] H fun v H' => v = .bool true := by
  refine S4_calls ?_
  unfold S4
  refine copyB hl hA (by omega) fun B1 H1 o1 k1 => ?_
  refine (c9 (T.kept k1) (Nat.le_refl _) o1.rd hx).mono fun v H2 ⟨d2, k2⟩ => ?_
  have k02 := k1.trans (k2.lower k1.next)
  obtain ⟨B2, rfl, r2⟩ := d2
  simp only [aExtract_tuple, bnd_some', nth_zero]
  simp only [List.getElem?_toArray, List.getElem?_cons_zero, List.getElem?_cons_succ, bnd_some']
  refine copyB k02.next ((hB.up hl).kept k02) (by omega) fun B3 H3 o3 k3 => ?_
  have k03 := k02.trans (k3.lower k02.next)
  refine (c9 (T.kept k03) (Nat.le_refl _) o3.rd hy).mono fun v H4 ⟨d4, k4⟩ => ?_
  have k04 := k03.trans (k4.lower k03.next)
  obtain ⟨B4, rfl, r4⟩ := d4
  unfold S4_159
  simp only [aExtract_tuple, List.getElem?_toArray, List.getElem?_cons_zero, List.getElem?_cons_succ, bnd_some']
  refine catB k04.next ((hA.up hl).kept k04) ((hB.up hl).kept k04) (by omega) (by omega) fun B5 H5 o5 k5 => ?_
  have k05 := k04.trans (k5.lower k04.next)
  have hxy : ∀ x ∈ xs ++ ys, x < 256 := by
    intro x h
    rcases List.mem_append.1 h with h | h
    · exact hx x h
    · exact hy x h
  refine (c9 (T.kept k05) (Nat.le_refl _) o5.rd hxy).mono fun v H6 ⟨d6, k6⟩ => ?_
  have k06 := k05.trans (k6.lower k05.next)
  obtain ⟨B6, rfl, r6⟩ := d6
  simp only [aExtract_tuple, List.getElem?_toArray, List.getElem?_cons_zero, List.getElem?_cons_succ, bnd_some']
  refine (c11 (T.kept k06)).use ?_
  have k24 := k3.trans (k4.lower k3.next)
  have k46 := k5.trans (k6.lower k5.next)
  have r2 := (((r2.kept k24).up k24.next).kept k46).up k46.next
  have r4 := (r4.kept k46).up k46.next
  have hsum := wrap64 (x := (xs.length : Int) + ys.length) (by omega) (by omega)
  unfold S4_158
  by_cases e0 : ¬ (dec xs).2.2 = 0
  · simp [e0]
    exact (c11 (T.kept k06)).use rfl
  replace e0 := Decidable.not_not.1 e0
  have hlx : ¬ 65536 < xs.length := by
    intro h
    unfold dec at e0
    rw [if_pos h] at e0
    exact absurd e0 (by decide)
  have hcx : chars xs = ((chars xs).1, none) := by
    rw [dec_small (by omega)] at e0
    cases hc : (chars xs).2 with
    | none => rw [← hc]
    | some p => rw [hc] at e0; exact absurd e0 (by simp)
  have hdx : dec xs = ((chars xs).1, 0, 0) := by rw [dec_small (by omega), hcx]
  rw [hdx] at r2 ⊢
  by_cases hs : (65536 : Int) < xs.length + ys.length
  · simp [hsum, hs]
    exact (c11 (T.kept k06)).use rfl
  have happ := chars_app _ xs ys (chars xs).1 (Nat.le_refl _) hcx
  have hl2 : (xs ++ ys).length ≤ 65536 := by rw [List.length_append]; omega
  cases hc : (chars ys).2 with
  | some p =>
    have hdy : dec ys = ([], (p : Int), 4) := by rw [dec_small (by omega), hc]
    have hdz : dec (xs ++ ys) = ([], ((p + xs.length : Nat) : Int), 4) := by rw [dec_small hl2, happ, hc]; rfl
    have hp : p < 9000000 := by
      have := (chars_take _ ys (chars ys).1 p (Nat.le_refl _) (by rw [← hc])).1
      omega
    have hw := wrap64 (x := (xs.length : Int) + p) (by omega) (by omega)
    rw [hdy, hdz]
    simp [hsum, hs]
    unfold S4_118
    have hcm : (p : Int) + xs.length = xs.length + p := by omega
    simp [hw, hcm]
  | none =>
    have hdy : dec ys = ((chars ys).1, 0, 0) := by rw [dec_small (by omega), hc]
    have hdz : dec (xs ++ ys) = ((chars xs).1 ++ (chars ys).1, 0, 0) := by rw [dec_small hl2, happ, hc]; rfl
    rw [hdy] at r4 ⊢
    rw [hdz] at r6 ⊢
    have hcl1 := chars_len xs
    have hcl2 := chars_len ys
    simp [hsum, hs]
    unfold S4_157
    simp [aFill]
    have kk : Keep H6.next H6 (H6.alloc (.cells [] (.row 1) 3)) := (Keep.refl _ _).alloc (Nat.le_refl _) _
    have o : Ow 1 eI 3 H6.next (H6.alloc (.cells [] (.row 1) 3)) (some ⟨H6.next, 0, none⟩) ([] : List Int) := ⟨by simp, .inr ⟨H6.next, [], rfl, Nat.le_refl _, by simp, AHeap.at_alloc_new _ _, by simp, by simp⟩⟩
    refine o.append (c := 0) (r2.kept kk) (by simp) (by simp [maxLen]; omega) (by simp; omega) fun H7 o7 n7 a7 k7 => ?_
    have k67 := kk.trans k7
    simp
    simp only [List.nil_append] at o7
    refine o7.append (r4.kept k67) k67.next (show (chars xs).1.length + (chars ys).1.length ≤ maxLen by simp only [maxLen]; omega) (show ((chars xs).1.length + (chars ys).1.length) * 8 ≤ 140737488355328 by omega) fun H8 o8 n8 a8 k8 => ?_
    have k68 := k67.trans k8
    have hc12 := c12 ((r6.kept k68).up k68.next) o8.rd (show ((chars xs).1 ++ (chars ys).1).length ≤ 140737488355328 by rw [List.length_append]; omega)
    simp at hc12
    simp
    refine hc12.use ?_
    simp
end Go.Proofs.YtliakckflcoffaaDoor.A
