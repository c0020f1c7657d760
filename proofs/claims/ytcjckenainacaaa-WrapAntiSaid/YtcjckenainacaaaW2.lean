/- Contracts of functions that the statement reaches; each theorem carries its own conditions, the last theorem of the claim has none. -/
import Derived.Test.YtcjckenainacaaaW1
import Derived.Test.YtcjckenainacaaaAbsV
set_option linter.unusedVariables false
set_option linter.unusedSimpArgs false
namespace Go.Proofs.Ytcjckenainacaaa.A
open Go Go.Abs

abbrev W (A : Option Addr) (m : Nat) (B : Option Addr) (s : Nat) : Value := .agg #[.slice A m m, .slice B s s]

theorem c21 {H : AHeap} {A B : Option Addr} {m s : Nat} : ACalls Try.prog 21 [W A m B s] H fun v H' => v = .bool (decide (m ≤ 256) && decide (s ≤ 256)) ∧ H' = H := by
  refine ACalls.eq (S21_calls ?_) rfl
  unfold S21
  by_cases h : (m : Int) ≤ 256
  · simp [h, show m ≤ 256 by omega]
    exact ⟨by omega, (Keep.refl _ _).alloc (Nat.le_refl _) _⟩
  · simp [h, show ¬ m ≤ 256 by omega]
    exact (Keep.refl _ _).alloc (Nat.le_refl _) _

def okSubs (ss : List Int) : Prop := ∀ s ∈ ss, 0 ≤ s
def okMarks (ms : List Int) : Prop := ∀ i (h : i < ms.length), 1 ≤ ms[i] ∨ (ms[i] = -1 ∧ i = 0)
def okW (ms ss : List Int) : Prop := okSubs ss ∧ okMarks ms ∧ ss.count 0 = ms.length
instance (ms ss : List Int) : Decidable (okW ms ss) := by unfold okW okSubs okMarks; infer_instance

theorem count_take_succ {ss : List Int} {i : Nat} (h : i < ss.length) : (ss.take (i + 1)).count 0 = (ss.take i).count 0 + if ss[i] = 0 then 1 else 0 := by
  rw [List.take_succ_eq_append_getElem h, List.count_append]
  simp [List.count_singleton]

theorem c22 {lo : Nat} {H : AHeap} {A B : Option Addr} {ms ss : List Int} (hl : lo ≤ H.next) (hA : Ints lo H A ms) (hB : Ints lo H B ss) (hm : ms.length ≤ 140737488355328) (hs : ss.length ≤ 140737488355328) :
    ACalls Try.prog 22 [W A ms.length B ss.length] H fun v H' => v = .bool (decide (okW ms ss)) ∧ H' = H := by
  refine ACalls.eq (S22_calls ?_) rfl
  unfold S22
  simp
  have hA := hA.alloc hl (.cells [.slice A ms.length ms.length, .slice B ss.length ss.length] .var 24)
  have hB := hB.alloc hl (.cells [.slice A ms.length ms.length, .slice B ss.length ss.length] .var 24)
  refine aLoop_st ss.length (fun i => [.int .i64 ((ss.take i).count 0), .int .i64 i]) (fun i H' => H' = (H.alloc (.cells [.slice A ms.length ms.length, .slice B ss.length ss.length] .var 24)) ∧ ∀ j (h : j < ss.length), j < i → 0 ≤ ss[j]) rfl ⟨rfl, by simp⟩ ?_
  rintro i H' again hi ⟨rfl, hg⟩ ha
  unfold S22_64
  by_cases h : i < ss.length
  · simp [h]
    unfold S22_18
    rw [aJoin_eq]
    simp [hB.idx (show (0:Int) ≤ i by omega) (show (i:Int) < ss.length by omega), hB.ld h, h]
    have hc := List.count_le_length (a := (0 : Int)) (l := ss.take i)
    have hlt := List.length_take_le i ss
    have hc2 := count_take_succ h
    have hw1 := wrap64 (x := (i : Int) + 1) (by omega) (by omega)
    have hw2 := wrap64 (x := (((ss.take i).count 0 : Nat) : Int) + 1) (by omega) (by omega)
    refine aCond_of (fun hd => ⟨?_, (Keep.refl _ _).alloc (Nat.le_refl _) _⟩) fun hd => ?_
    · simp
      intro hok
      have := hok.1 ss[i] (List.getElem_mem h)
      simp at hd
      omega
    have ha' := ha _ h ⟨rfl, fun j hj hji => by
      rcases Nat.lt_or_ge j i with h1 | h1
      · exact hg j hj h1
      · have : j = i := by omega
        subst this
        simpa using hd⟩
    simp
    refine aCond_of (fun hz => ?_) fun hz => ?_
    · simp at hz
      simp [hw1, hw2]
      simp only [hz, if_true] at hc2
      rw [hc2] at ha'
      exact ha'
    · simp at hz
      simp [hw1, hw2]
      simp only [hz, if_false] at hc2
      rw [hc2] at ha'
      exact ha'
  · simp [h]
    have hie : i = ss.length := by omega
    subst hie
    simp only [List.take_length]
    refine aLoop_st ms.length (fun i => [.int .i64 i]) (fun i H' => H' = (H.alloc (.cells [.slice A ms.length ms.length, .slice B ss.length ss.length] .var 24)) ∧ ∀ j (h : j < ms.length), j < i → 1 ≤ ms[j] ∨ (ms[j] = -1 ∧ j = 0)) rfl ⟨rfl, by simp⟩ ?_
    rintro i H' again hi ⟨rfl, hg'⟩ ha
    unfold S22_63
    by_cases h : i < ms.length
    · simp [h]
      unfold S22_58
      have hld := hA.ld h
      have hbad : ¬ (1 ≤ ms[i] ∨ ms[i] = -1 ∧ i = 0) → ¬ okW ms ss := fun hb hok => hb (hok.2.1 i h)
      have hgood : (1 ≤ ms[i] ∨ ms[i] = -1 ∧ i = 0) → again [.int .i64 ((i : Int) + 1)] (H.alloc (.cells [.slice A ms.length ms.length, .slice B ss.length ss.length] .var 24)) := fun hg => by
        refine ha _ h ⟨rfl, fun j hj hji => ?_⟩
        rcases Nat.lt_or_ge j i with h1 | h1
        · exact hg' j hj h1
        · have : j = i := by omega
          subst this
          exact hg
      generalize ms[i] = x at hld hbad hgood
      have hw := wrap64 (x := (i : Int) + 1) (by omega) (by omega)
      by_cases h1 : x < 1 <;> by_cases h2 : x = -1 <;> cases h3 : decide (0 < i) <;> simp [hA.idx (show (0:Int) ≤ i by omega) (show (i:Int) < ms.length by omega), hld, h1, h2, h3, hw] <;>
        simp at h3 <;> first | exact hgood (by omega) | exact ⟨hbad (by omega), (Keep.refl _ _).alloc (Nat.le_refl _) _⟩ | omega
    · simp [h]
      have hie : i = ms.length := by omega
      subst hie
      refine ⟨?_, (Keep.refl _ _).alloc (Nat.le_refl _) _⟩
      have h1 : okSubs ss := fun s hs => by
        obtain ⟨j, hj, rfl⟩ := List.getElem_of_mem hs
        exact hg j hj hj
      have h2 : okMarks ms := fun j hj => hg' j hj hj
      simp only [okW, h1, h2, true_and]
      omega

def small (ms ss : List Int) : Bool := decide (ms.length ≤ 256) && decide (ss.length ≤ 256)
def sound (ms ss : List Int) : Bool := small ms ss && decide (okW ms ss)

theorem c12 {lo : Nat} {H : AHeap} {A B : Option Addr} {ms ss : List Int} (hl : lo ≤ H.next) (hA : Ints lo H A ms) (hB : Ints lo H B ss) :
    ACalls Try.prog 12 [W A ms.length B ss.length] H fun v H' => v = .bool (sound ms ss) ∧ H' = H := by
  refine ACalls.eq (S12_calls ?_) rfl
  unfold S12
  simp
  refine c21.use ?_
  have hk : Keep H.next H (H.alloc (.cells [.slice A ms.length ms.length, .slice B ss.length ss.length] .var 24)) := (Keep.refl _ _).alloc (Nat.le_refl _) _
  by_cases h : ms.length ≤ 256 ∧ ss.length ≤ 256
  · simp [h, sound, small]
    refine (c22 (lo := lo) (Nat.le_succ_of_le hl) (hA.alloc hl _) (hB.alloc hl _) (by omega) (by omega)).use ?_
    simp [hk, sound, small, h]
  · have h2 : (decide (ms.length ≤ 256) && decide (ss.length ≤ 256)) = false := by simpa using h
    simp [sound, small, h2, hk]

/-- Mark's marks and subs. -/
def markM (n : Int) : List Int := if n = 0 ∨ n < -1 then [] else [n]
def markS (n : Int) : List Int := if n = 0 ∨ n < -1 then [] else [0]
/-- What a wrap in memory is. -/
def IsW (lo : Nat) (H : AHeap) (v : Value) (ms ss : List Int) : Prop := ∃ A B, v = W A ms.length B ss.length ∧ Ints lo H A ms ∧ Ints lo H B ss

theorem IsW.kept {lo : Nat} {H H' : AHeap} {v : Value} {ms ss : List Int} (h : IsW lo H v ms ss) (hk : Keep lo H H') : IsW lo H' v ms ss := by
  obtain ⟨A, B, h1, h2, h3⟩ := h
  exact ⟨A, B, h1, h2.kept hk, h3.kept hk⟩
theorem IsW.up {lo lo' : Nat} {H : AHeap} {v : Value} {ms ss : List Int} (h : IsW lo H v ms ss) (hl : lo ≤ lo') : IsW lo' H v ms ss := by
  obtain ⟨A, B, h1, h2, h3⟩ := h
  exact ⟨A, B, h1, h2.up hl, h3.up hl⟩

theorem c9 {H : AHeap} {n : Int} : ACalls Try.prog 9 [.int .i64 n] H fun v H' => IsW H'.next H' v (markM n) (markS n) ∧ Keep H.next H H' := by
  refine S9_calls ?_
  unfold S9
  by_cases h : n = 0 ∨ n < -1
  · by_cases h0 : n = 0 <;> by_cases h1 : n < -1 <;> simp [h0, h1, at_alloc, at_upd, aFill, setCells, markM, markS] <;> first | omega | skip
    all_goals refine ⟨⟨none, none, rfl, Rd.nil _ _ _ _, Rd.nil _ _ _ _⟩, ?_⟩
    all_goals repeat (first | exact Keep.refl _ _ | refine Keep.alloc ?_ (by simp) _ | refine Keep.upd ?_ (by simp) _)
  · simp [show ¬ n = 0 by omega, show ¬ n < -1 by omega, at_alloc, at_upd, aFill, setCells, markM, markS]
    unfold S9_23
    simp [at_alloc, at_upd, aFill, setCells, Nat.add_assoc]
    refine ⟨⟨some ⟨H.next + 1, 0, none⟩, some ⟨H.next + 2, 0, none⟩, rfl, ?_, ?_⟩, ?_⟩
    · exact Rd.mk' (cs := [.int .i64 n]) (k := .row 1) (t := 3) (by simp) (by omega) (by simp [at_alloc, at_upd]) (by simp) rfl rfl
    · exact Rd.mk' (cs := [.int .i64 0]) (k := .row 1) (t := 3) (by simp) (by omega) (by simp [at_alloc, at_upd]) (by simp) rfl rfl
    · repeat (first | exact Keep.refl _ _ | refine Keep.alloc ?_ (by simp <;> omega) _ | refine Keep.upd ?_ (by simp) _)
theorem c10 {H : AHeap} {n : Int} : ACalls Try.prog 10 [.int .i64 n] H fun v H' => IsW H'.next H' v [] (if n < 1 then [] else [n]) ∧ Keep H.next H H' := by
  refine S10_calls ?_
  unfold S10
  by_cases h0 : n < 1 <;> simp [h0, at_alloc, at_upd, aFill, setCells]
  · refine ⟨⟨none, none, rfl, Rd.nil _ _ _ _, Rd.nil _ _ _ _⟩, ?_⟩
    repeat (first | exact Keep.refl _ _ | refine Keep.alloc ?_ (by simp) _ | refine Keep.upd ?_ (by simp) _)
  · refine ⟨⟨none, some ⟨H.next + 1, 0, none⟩, rfl, Rd.nil _ _ _ _, ?_⟩, ?_⟩
    · exact Rd.mk' (cs := [.int .i64 n]) (k := .row 1) (t := 3) (by simp) (by omega) (by simp [at_alloc, at_upd]) (by simp) rfl rfl
    · repeat (first | exact Keep.refl _ _ | refine Keep.alloc ?_ (by simp <;> omega) _ | refine Keep.upd ?_ (by simp) _)

/-- Do they take away each other? -/
def cut (m s n t : List Int) : Bool := decide (0 < m.length) && decide (0 < s.length) && decide (0 < n.length) && decide (0 < t.length) && !decide (m.getLastD 0 = -1) && decide (n.headD 0 = -1) && decide (s.getLastD 0 = 0) && decide (t.headD 0 = 0)

theorem c23 {lo : Nat} {H : AHeap} {A B C D : Option Addr} {m s n t : List Int} (hl : lo ≤ H.next) (hA : Ints lo H A m) (hB : Ints lo H B s) (hC : Ints lo H C n) (hD : Ints lo H D t) (hm : m.length ≤ 1000) (hs : s.length ≤ 1000) :
    ACalls Try.prog 23 [W A m.length B s.length, W C n.length D t.length] H fun v H' => v = .bool (cut m s n t) ∧ H' = H := by
  refine ACalls.eq (S23_calls ?_) rfl
  unfold S23
  have hk : ∀ x y, Keep H.next H ((H.alloc x).alloc y) := fun x y => ((Keep.refl _ _).alloc (Nat.le_refl _) _).alloc (by simp) _
  by_cases h1 : 0 < m.length
  · by_cases h2 : 0 < s.length
    · by_cases h3 : 0 < n.length
      · by_cases h4 : 0 < t.length
        · have e1 := wrap64 (x := (m.length : Int) - 1) (by omega) (by omega)
          have e2 := wrap64 (x := (s.length : Int) - 1) (by omega) (by omega)
          have hA' := (hA.alloc hl (.cells [.slice A m.length m.length, .slice B s.length s.length] .var 24)).alloc (Nat.le_succ_of_le hl) (.cells [.slice C n.length n.length, .slice D t.length t.length] .var 24)
          have hB' := (hB.alloc hl (.cells [.slice A m.length m.length, .slice B s.length s.length] .var 24)).alloc (Nat.le_succ_of_le hl) (.cells [.slice C n.length n.length, .slice D t.length t.length] .var 24)
          have hC' := (hC.alloc hl (.cells [.slice A m.length m.length, .slice B s.length s.length] .var 24)).alloc (Nat.le_succ_of_le hl) (.cells [.slice C n.length n.length, .slice D t.length t.length] .var 24)
          have hD' := (hD.alloc hl (.cells [.slice A m.length m.length, .slice B s.length s.length] .var 24)).alloc (Nat.le_succ_of_le hl) (.cells [.slice C n.length n.length, .slice D t.length t.length] .var 24)
          have iA := hA'.idx (k := .i64) (j := (m.length : Int) - 1) (c := m.length) (by omega) (by omega)
          have iB := hB'.idx (k := .i64) (j := (s.length : Int) - 1) (c := s.length) (by omega) (by omega)
          have iC := hC'.idx (k := .i64) (j := 0) (c := n.length) (by omega) (by omega)
          have iD := hD'.idx (k := .i64) (j := 0) (c := t.length) (by omega) (by omega)
          have lA := hA'.ld (j := m.length - 1) (by omega)
          have lB := hB'.ld (j := s.length - 1) (by omega)
          have lC := hC'.ld (j := 0) (by omega)
          have lD := hD'.ld (j := 0) (by omega)
          rw [show ((m.length : Int) - 1).toNat = m.length - 1 by omega] at iA
          rw [show ((s.length : Int) - 1).toNat = s.length - 1 by omega] at iB
          have g1 : m.getLastD 0 = m[m.length - 1] := by rw [List.getLastD_eq_getLast?, List.getLast?_eq_getElem?, List.getElem?_eq_getElem (by omega)]; rfl
          have g2 : s.getLastD 0 = s[s.length - 1] := by rw [List.getLastD_eq_getLast?, List.getLast?_eq_getElem?, List.getElem?_eq_getElem (by omega)]; rfl
          have g3 : n.headD 0 = n[0] := by cases n with | nil => simp at h3 | cons x xs => rfl
          have g4 : t.headD 0 = t[0] := by cases t with | nil => simp at h4 | cons x xs => rfl
          have hc : cut m s n t = (!decide (m[m.length - 1] = -1) && decide (n[0] = -1) && decide (s[s.length - 1] = 0) && decide (t[0] = 0)) := by
            simp only [cut, h1, h2, h3, h4, g1, g2, g3, g4, decide_true, Bool.true_and]
          rw [hc]
          generalize m[m.length - 1] = a at *
          generalize s[s.length - 1] = b at *
          generalize n[0] = c at *
          generalize t[0] = d at *
          clear hc g1 g2 g3 g4
          have f1 : (0 : Int) < m.length := by omega
          have f2 : (0 : Int) < s.length := by omega
          have f3 : (0 : Int) < n.length := by omega
          have f4 : (0 : Int) < t.length := by omega
          by_cases k1 : a = -1 <;> by_cases k2 : c = -1 <;> by_cases k3 : b = 0 <;>
            simp [h1, h2, h3, h4, f1, f2, f3, f4, at_alloc, at_upd, e1, e2, iA, iB, iC, iD, lA, lB, lC, lD, k1, k2, k3, hk]
        · simp [h1, h2, h3, h4, at_alloc, at_upd, cut, hk]
      · simp [h1, h2, h3, at_alloc, at_upd, cut, hk]
    · simp [h1, h2, at_alloc, at_upd, cut, hk]
  · simp [h1, at_alloc, at_upd, cut, hk]
end Go.Proofs.Ytcjckenainacaaa.A
