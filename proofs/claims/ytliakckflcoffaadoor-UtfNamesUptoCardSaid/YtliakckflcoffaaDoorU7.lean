/- Contracts of functions that the statement reaches; each theorem carries its own conditions, the last theorem of the claim has none. -/
import Derived.Test.YtliakckflcoffaaDoorU6
set_option linter.unusedVariables false
set_option linter.unusedSimpArgs false
namespace Go.Proofs.YtliakckflcoffaaDoor.A
open Go Go.Abs
open Go.Lib (decodeN)

/-- So far: l are the characters up to p. -/
def SoFar (bs : List Nat) (l : List Int) (p : Nat) : Prop := chars bs = (l ++ (chars (bs.drop p)).1, (chars (bs.drop p)).2.map (· + p))
theorem SoFar.zero (bs : List Nat) : SoFar bs [] 0 := by
  unfold SoFar
  rw [List.drop_zero, List.nil_append]
  cases h : chars bs with
  | mk l e => cases e <;> simp
theorem drop_ne {bs : List Nat} {p : Nat} (h : p < bs.length) : bs.drop p ≠ [] := by
  intro e
  have := congrArg List.length e
  simp at this
  omega
theorem SoFar.next {bs : List Nat} {l : List Int} {p : Nat} (h : SoFar bs l p) (hp : p < bs.length) (hB : ¬ Bad (bs.drop p)) : SoFar bs (l ++ [((rd (bs.drop p)).1 : Int)]) (p + (rd (bs.drop p)).2) := by
  unfold SoFar at h ⊢
  rw [h, chars_step (drop_ne hp) hB, List.drop_drop]
  simp only [List.append_assoc, List.singleton_append, Option.map_map]
  congr 2
  funext x
  simp only [Function.comp]
  omega
theorem SoFar.done {bs : List Nat} {l : List Int} {p : Nat} (h : SoFar bs l p) (hp : bs.length ≤ p) : chars bs = (l, none) := by
  unfold SoFar at h
  rw [h, List.drop_of_length_le hp, chars_nil]
  simp
theorem SoFar.stop {bs : List Nat} {l : List Int} {p : Nat} (h : SoFar bs l p) (hp : p < bs.length) (hB : Bad (bs.drop p)) : chars bs = (l, some p) := by
  unfold SoFar at h
  rw [h, chars_bad (drop_ne hp) hB]
  simp
theorem bad_iff {bs : List Nat} (hb : bs ≠ []) : (rd bs).1 = 65533 ∧ (rd bs).2 < 2 ↔ Bad bs := by
  constructor
  · intro ⟨h1, h2⟩
    exact decodeN_one h1 h2
  · intro h
    rw [h]
    decide
theorem oneV_bad {ds : List Nat} (h : Bad ds) : oneV ds = (0, 0) := by unfold oneV; rw [if_pos h]
theorem oneV_good {ds : List Nat} (h : ¬ Bad ds) : oneV ds = rd ds := by unfold oneV; rw [if_neg h]

/-- A value more at a row's end. -/
theorem push1 {lo : Nat} {H : AHeap} {A : Option Addr} {l : List Int} {c : Int} {K : Value → AHeap → Prop} (o : Ow 1 eI 3 lo H A l) (hlo : lo ≤ H.next) (hl : l.length ≤ 100000000)
    (hk : ∀ B H', Ow 1 eI 3 lo H' B (l ++ [c]) → Keep lo H H' → K (.slice B (l ++ [c]).length (l ++ [c]).length) H') :
    aBuildSlice 1 1 3 [(.int .i64 0)] [(0, 1, .int .i64 c)] H fun t H1 => aAppend 1 8 3 (.slice A l.length l.length) t H1 K := by
  simp [aFill, setCells]
  have kk : Keep lo H (H.alloc (.cells [.int .i64 c] (.row 1) 3)) := (Keep.refl _ _).alloc hlo _
  have hrow : Rd 1 eI (H.next + 1) (H.alloc (.cells [.int .i64 c] (.row 1) 3)) (some ⟨H.next, 0, none⟩) [c] := Rd.mk' (by simp) (by omega) (AHeap.at_alloc_new _ _) (by simp) rfl rfl
  refine (o.alloc _).append (ys := [c]) (c' := 1) hrow (by simp; omega) (by simp [maxLen]; omega) (by simp; omega) fun H' o' n' a' k' => ?_
  exact hk _ _ o' (kk.trans k')

theorem c13 {lo : Nat} {H : AHeap} {A : Option Addr} {bs : List Nat} (hl : lo ≤ H.next) (hA : BytesN lo H A bs) (hb : ∀ x ∈ bs, x < 256) (hlen : bs.length ≤ 100000000) :
    ACalls Tryd.prog 13 [.slice A bs.length bs.length] H fun v H' => Keep H.next H H' ∧
      (match (chars bs).2 with
        | some p => v = .tuple #[.slice none 0 0, .int .i64 (p : Nat)]
        | none => ∃ B, v = .tuple #[.slice B (chars bs).1.length (chars bs).1.length, .int .i64 (-1)] ∧ Ints H'.next H' B (chars bs).1) := by
  refine S13_calls ?_
  unfold S13
  refine aLoop_inv (fun m vs H' => ∃ p B l, m = bs.length - p ∧ p ≤ bs.length ∧ l.length ≤ p ∧ vs = [.slice B l.length l.length, .int .i64 (p : Nat)] ∧ Ow 1 eI 3 H.next H' B l ∧ Keep H.next H H' ∧ SoFar bs l p) bs.length
    ⟨0, none, [], rfl, by omega, by simp, rfl, Ow.nil _ _ _ _ _, Keep.refl _ _, SoFar.zero bs⟩ ?_
  rintro m vs H1 again ⟨p, B, l, rfl, hp, hlp, rfl, o, k, sf⟩ hag
  unfold S13_16
  have hA1 := hA.kept (k.lower hl)
  by_cases h : p < bs.length
  · simp [h]
    refine (c27 hA1 hb h (by omega)).use ?_
    unfold S13_15
    by_cases hB : Bad (bs.drop p)
    · rw [oneV_bad hB, sf.stop h hB]
      simp
      exact k
    · obtain ⟨f1, f2, _⟩ := rd_fit (drop_ne h)
      rw [List.length_drop] at f2
      rw [oneV_good hB]
      have hw := wrap64 (x := (p : Int) + (rd (bs.drop p)).2) (by omega) (by omega)
      simp only [aExtract_tuple, nth_zero, nth_1]
      simp [-aBuildSlice_eq, show ¬ (rd (bs.drop p)).2 = 0 by omega]
      refine push1 o k.next (by omega) fun B' H2 o2 k2 => ?_
      simp [hw]
      have := hag (bs.length - (p + (rd (bs.drop p)).2)) [.slice B' (l ++ [((rd (bs.drop p)).1 : Int)]).length (l ++ [((rd (bs.drop p)).1 : Int)]).length, .int .i64 ((p + (rd (bs.drop p)).2 : Nat) : Int)] H2 (by omega) ⟨_, B', _, rfl, by omega, by simp; omega, rfl, o2, k.trans k2, sf.next h hB⟩
      simpa using this
  · have hpe : p = bs.length := by omega
    have hd := sf.done (by omega)
    simp [h]
    rw [hd]
    exact ⟨k, B, ⟨rfl, rfl⟩, o.rd⟩

/-- What Decode answers. -/
def dec (bs : List Nat) : List Int × Int × Int := if 65536 < bs.length then ([], 0, 6) else match (chars bs).2 with
  | some p => ([], (p : Int), 4)
  | none => ((chars bs).1, 0, 0)
def IsDec (H : AHeap) (v : Value) (d : List Int × Int × Int) : Prop := ∃ B, v = .tuple #[.slice B d.1.length d.1.length, .int .i64 d.2.1, .int .i64 d.2.2] ∧ Ints H.next H B d.1

theorem c10 {lo : Nat} {H : AHeap} {A : Option Addr} {bs : List Nat} (hl : lo ≤ H.next) (hA : BytesN lo H A bs) (hb : ∀ x ∈ bs, x < 256) :
    ACalls Tryd.prog 10 [.slice A bs.length bs.length] H fun v H' => IsDec H' v (dec bs) ∧ Keep H.next H H' := by
  refine S10_calls ?_
  unfold S10
  by_cases h : 65536 < bs.length
  · have hd : dec bs = ([], 0, 6) := by unfold dec; rw [if_pos h]
    simp [show (65536 : Int) < bs.length by omega, hd]
    exact ⟨none, rfl, Rd.nil _ _ _ _⟩
  · simp [show ¬ (65536 : Int) < bs.length by omega]
    unfold S10_7
    refine (c13 hl hA hb (by omega)).mono fun v H1 ⟨k1, hv⟩ => ?_
    cases hc : (chars bs).2 with
    | none =>
      have hd : dec bs = ((chars bs).1, 0, 0) := by unfold dec; rw [if_neg h, hc]
      rw [hc] at hv
      obtain ⟨B, rfl, hB⟩ := hv
      simp [hd]
      exact ⟨⟨B, rfl, hB⟩, k1⟩
    | some p =>
      have hd : dec bs = ([], (p : Int), 4) := by unfold dec; rw [if_neg h, hc]
      rw [hc] at hv
      subst hv
      simp [hd]
      exact ⟨⟨none, rfl, Rd.nil _ _ _ _⟩, k1⟩

theorem c9 {lo : Nat} {H : AHeap} {A : Option Addr} {bs : List Nat} (T : Tabs H) (hl : lo ≤ H.next) (hA : BytesN lo H A bs) (hb : ∀ x ∈ bs, x < 256) :
    ACalls Tryd.prog 9 [.slice A bs.length bs.length] H fun v H' => IsDec H' v (dec bs) ∧ Keep H.next H H' := by
  refine S9_calls ?_
  unfold S9
  by_cases h : 65536 < bs.length
  · have hd : dec bs = ([], 0, 6) := by unfold dec; rw [if_pos h]
    simp [show (65536 : Int) < bs.length by omega, hd]
    exact ⟨none, rfl, Rd.nil _ _ _ _⟩
  · have hdec : dec bs = match (chars bs).2 with
        | some p => ([], (p : Int), 4)
        | none => ((chars bs).1, 0, 0) := by unfold dec; rw [if_neg h]
    simp [show ¬ (65536 : Int) < bs.length by omega]
    refine aLoop_inv (fun m vs H' => ∃ p B l, m = bs.length - p ∧ p ≤ bs.length ∧ l.length ≤ p ∧ vs = [.slice B l.length l.length, .int .i64 (p : Nat)] ∧ Ow 1 eI 3 H.next H' B l ∧ Keep H.next H H' ∧ SoFar bs l p) bs.length
      ⟨0, none, [], rfl, by omega, by simp, rfl, Ow.nil _ _ _ _ _, Keep.refl _ _, SoFar.zero bs⟩ ?_
    rintro m vs H1 again ⟨p, B, l, rfl, hp, hlp, rfl, o, k, sf⟩ hag
    unfold S9_31
    have hA1 := hA.kept (k.lower hl)
    by_cases hlt : p < bs.length
    · have i1 := hA1.sliceLo (k := .i64) (i := (p : Int)) (by omega) (by omega)
      rw [Int.toNat_natCast] at i1
      have d1 := hA1.drop (i := p) (by omega)
      have hdl : (bs.drop p).length = bs.length - p := List.length_drop
      simp [hlt, i1]
      have hc := c26 (T.kept k) (show lo ≤ H1.next from Nat.le_trans hl k.next) d1 (fun x hx => hb x (List.mem_of_mem_drop hx)) (drop_ne hlt) (by omega)
      rw [hdl] at hc
      refine hc.use ?_
      obtain ⟨f1, f2, _, f4⟩ := rd_fit (drop_ne hlt)
      rw [List.length_drop] at f2
      unfold S9_30
      by_cases hB : Bad (bs.drop p)
      · have hr : rd (bs.drop p) = (65533, 1) := hB
        rw [hr, hdec, sf.stop hlt hB]
        simp
        exact ⟨⟨none, rfl, Rd.nil _ _ _ _⟩, k⟩
      · have hnb : ¬ ((rd (bs.drop p)).1 = 65533 ∧ (rd (bs.drop p)).2 < 2) := fun hh => hB ((bad_iff (drop_ne hlt)).1 hh)
        have hw := wrap64 (x := (p : Int) + (rd (bs.drop p)).2) (by omega) (by omega)
        have hw2 := w64 (rd (bs.drop p)).1 (by omega)
        have key : S9_29 [.slice B l.length l.length, .int .i64 (p : Nat)] again (.int .i32 ((rd (bs.drop p)).1 : Nat)) (.int .i64 ((rd (bs.drop p)).2 : Nat)) H1 := by
          unfold S9_29
          simp only [aConvInt_int, hw2, bnd_some', nth_zero, nth_1]
          refine push1 o k.next (by omega) fun B' H2 o2 k2 => ?_
          simp [hw]
          have := hag (bs.length - (p + (rd (bs.drop p)).2)) [.slice B' (l ++ [((rd (bs.drop p)).1 : Int)]).length (l ++ [((rd (bs.drop p)).1 : Int)]).length, .int .i64 ((p + (rd (bs.drop p)).2 : Nat) : Int)] H2 (by omega) ⟨_, B', _, rfl, by omega, by simp; omega, rfl, o2, k.trans k2, sf.next hlt hB⟩
          simpa using this
        by_cases q1 : (rd (bs.drop p)).1 = 65533
        · have q2 : ¬ ((rd (bs.drop p)).2 : Int) < 2 := by omega
          rw [q1] at key ⊢
          simp [q2]
          exact key
        · have q1' : ¬ ((rd (bs.drop p)).1 : Int) = 65533 := by omega
          simp [q1']
          exact key
    · have hpe : p = bs.length := by omega
      have hd := sf.done (by omega)
      simp [hlt]
      rw [hdec, hd]
      exact ⟨⟨B, rfl, o.rd⟩, k⟩

theorem c12 {lo : Nat} {H : AHeap} {A B : Option Addr} {xs ys : List Int} (hA : Ints lo H A xs) (hB : Ints lo H B ys) (hm : xs.length ≤ 140737488355328) :
    ACalls Tryd.prog 12 [.slice A xs.length xs.length, .slice B ys.length ys.length] H fun v H' => v = .bool (decide (xs = ys)) ∧ H' = H := by
  refine ACalls.eq (S12_calls ?_) rfl
  unfold S12
  by_cases hl : xs.length = ys.length
  · simp [hl]
    refine aLoop_st xs.length (fun i => [.int .i64 i]) (fun i H' => H' = H ∧ xs.take i = ys.take i) rfl ⟨rfl, rfl⟩ ?_
    rintro i H' again hi ⟨rfl, hg⟩ ha
    unfold S12_15
    by_cases h : i < xs.length
    · have h' : i < ys.length := by omega
      have hw := wrap64 (x := (i : Int) + 1) (by omega) (by omega)
      have i1 := hA.idx (k := .i64) (j := (i : Int)) (c := xs.length) (by omega) (by omega)
      have i2 := hB.idx (k := .i64) (j := (i : Int)) (c := ys.length) (by omega) (by omega)
      simp [h, h', i1, i2]
      unfold S12_14
      simp [h, h', i1, i2, hA.ld h, hB.ld h', hw]
      refine aCond_of (fun hd => ?_) fun hd => ?_
      · simp at hd
        simp
        intro e
        subst e
        exact hd rfl
      · simp at hd
        have := ha _ h ⟨rfl, by rw [List.take_succ_eq_append_getElem h, List.take_succ_eq_append_getElem h', hg, hd]⟩
        simp [hw]
        exact this
    · have h' : ¬ i < ys.length := by omega
      simp [h, h']
      have hie : i = xs.length := by omega
      rw [hie, List.take_length] at hg
      rw [hl, List.take_length] at hg
      exact hg
  · have hl' : ¬ (xs.length : Int) = ys.length := by omega
    simp [hl, hl']
    intro e
    subst e
    exact hl rfl

/-- answers. -/
theorem c11 {H : AHeap} (T : Tabs H) : ACalls Tryd.prog 11 [] H fun v H' => v = .bool true ∧ H' = H := by
  refine ACalls.eq (S11_calls ?_) rfl
  unfold S11
  simp [aFill, setCells]
  refine aMark_of (AHeap.at_alloc_new _ _) rfl (by omega) ?_
  have kk : Keep H.next H ((H.alloc (.cells [.int .u8 195, .int .u8 164] (.row 1) 5)).upd H.next (.cells [.int .u8 195, .int .u8 164] .read 5)) := ((Keep.refl _ _).alloc (Nat.le_refl _) _).upd (Nat.le_refl _) _
  have hrow : BytesN (H.next + 1) ((H.alloc (.cells [.int .u8 195, .int .u8 164] (.row 1) 5)).upd H.next (.cells [.int .u8 195, .int .u8 164] .read 5)) (some ⟨H.next, 0, none⟩) [195, 164] :=
    Rd.mk' (k := .read) (t := 5) (by simp) (by omega) (AHeap.at_upd_same _ _ _) (by simp) rfl rfl
  refine (c9 (T.kept kk) (by simp) hrow (by simp)).mono fun v H1 ⟨hv, k1⟩ => ?_
  have hd : dec [195, 164] = ([228], 0, 0) := by decide +kernel
  rw [hd] at hv
  obtain ⟨B, rfl, hB⟩ := hv
  have i0 := hB.idx (k := .i64) (j := 0) (c := 1) (by omega) (by simp)
  have l0 := hB.ld (j := 0) (by simp)
  simp at i0 l0
  unfold S11_45
  simp [i0, l0]
  exact kk.trans (k1.lower (by simp))
end Go.Proofs.YtliakckflcoffaaDoor.A
