/- Contracts of functions that the statement reaches; each theorem carries its own conditions, the last theorem of the claim has none. -/
import Derived.Test.YtliakckflcoffaaDoorU7
set_option linter.unusedVariables false
set_option linter.unusedSimpArgs false
namespace Go.Proofs.YtliakckflcoffaaDoor.A
open Go Go.Abs
open Go.Lib (decodeN)

theorem chars_take : ∀ (n : Nat) (bs : List Nat) (l : List Int) (p : Nat), bs.length ≤ n → chars bs = (l, some p) → p < bs.length ∧ chars (bs.take p) = (l, none) := by
  intro n
  induction n with
  | zero =>
    intro bs l p hn h
    have : bs = [] := List.length_eq_zero_iff.1 (by omega)
    subst this
    rw [chars_nil] at h
    simp at h
  | succ n ih =>
    intro bs l p hn h
    by_cases hb : bs = []
    · subst hb
      rw [chars_nil] at h
      simp at h
    have hpos : 0 < bs.length := by cases bs with | nil => exact absurd rfl hb | cons x xs => simp
    by_cases hB : Bad bs
    · rw [chars_bad hb hB] at h
      simp at h
      obtain ⟨rfl, rfl⟩ := h
      exact ⟨hpos, by rw [List.take_zero, chars_nil]⟩
    · obtain ⟨f1, f2, _⟩ := rd_fit hb
      rw [chars_step hb hB] at h
      obtain ⟨h1, h2⟩ := Prod.mk.inj h
      rw [Option.map_eq_some_iff] at h2
      obtain ⟨q, hq, rfl⟩ := h2
      obtain ⟨g1, g2⟩ := ih (bs.drop (rd bs).2) (chars (bs.drop (rd bs).2)).1 q (by rw [List.length_drop]; omega) (by rw [← hq])
      rw [List.length_drop] at g1
      have hlt : q + (rd bs).2 < bs.length := by omega
      refine ⟨hlt, ?_⟩
      have hne : bs.take (q + (rd bs).2) ≠ [] := by
        intro e
        have := congrArg List.length e
        rw [List.length_take, List.length_nil] at this
        omega
      have hrd : rd (bs.take (q + (rd bs).2)) = rd bs := rd_same hB hb (by rw [List.length_take]; omega) (by rw [List.take_take]; congr 1; omega)
      rw [chars_step hne (by unfold Bad; rw [hrd]; exact hB), hrd, List.drop_take, show q + (rd bs).2 - (rd bs).2 = q by omega, g2, ← h1]
      rfl
theorem chars_app : ∀ (n : Nat) (xs bs : List Nat) (l : List Int), xs.length ≤ n → chars xs = (l, none) → chars (xs ++ bs) = (l ++ (chars bs).1, (chars bs).2.map (· + xs.length)) := by
  intro n
  induction n with
  | zero =>
    intro xs bs l hn h
    have : xs = [] := List.length_eq_zero_iff.1 (by omega)
    subst this
    rw [chars_nil] at h
    simp at h
    subst h
    rw [List.nil_append, List.nil_append]
    cases hc : chars bs with
    | mk x e => cases e <;> simp
  | succ n ih =>
    intro xs bs l hn h
    by_cases ha : xs = []
    · subst ha
      rw [chars_nil] at h
      simp at h
      subst h
      rw [List.nil_append, List.nil_append]
      cases hc : chars bs with
      | mk x e => cases e <;> simp
    · by_cases hB : Bad xs
      · rw [chars_bad ha hB] at h
        simp at h
      · obtain ⟨f1, f2, _⟩ := rd_fit ha
        rw [chars_step ha hB] at h
        obtain ⟨h1, h2⟩ := Prod.mk.inj h
        rw [Option.map_eq_none_iff] at h2
        have hih := ih (xs.drop (rd xs).2) bs (chars (xs.drop (rd xs).2)).1 (by rw [List.length_drop]; omega) (by rw [← h2])
        have hrd := rd_app bs hB ha
        rw [chars_step (by simp [ha]) (by unfold Bad; rw [hrd]; exact hB), hrd, List.drop_append_of_le_length f2, hih, ← h1]
        simp only [List.cons_append, Option.map_map]
        congr 2
        funext x
        simp only [Function.comp, List.length_drop]
        omega

/-- A copy of bytes. -/
theorem copyB {lo : Nat} {H : AHeap} {A : Option Addr} {bs : List Nat} {K : Value → AHeap → Prop} (hl : lo ≤ H.next) (hA : BytesN lo H A bs) (hlen : bs.length ≤ 140737488355328)
    (hk : ∀ B H', Ow 1 eN 5 H.next H' B bs → Keep H.next H H' → K (.slice B bs.length bs.length) H') :
    aBuildSlice 1 0 5 [(.int .u8 0)] [] H fun t H1 => aAppend 1 1 5 t (.slice A bs.length bs.length) H1 K := by
  simp [aFill]
  have kk : Keep H.next H (H.alloc (.cells [] (.row 1) 5)) := (Keep.refl _ _).alloc (Nat.le_refl _) _
  have o : Ow 1 eN 5 H.next (H.alloc (.cells [] (.row 1) 5)) (some ⟨H.next, 0, none⟩) ([] : List Nat) := ⟨by simp, .inr ⟨H.next, [], rfl, Nat.le_refl _, by simp, AHeap.at_alloc_new _ _, by simp, by simp⟩⟩
  refine o.append (c := 0) ((hA.kept (kk.lower hl)).up hl) (by simp) (by simp [maxLen]; omega) (by simp; omega) fun H' o' n' a' k' => ?_
  simp only [List.nil_append] at o' ⊢
  exact hk _ _ o' (kk.trans k')

theorem dec_small {bs : List Nat} (h : bs.length ≤ 65536) : dec bs = match (chars bs).2 with
    | some p => ([], (p : Int), 4)
    | none => ((chars bs).1, 0, 0) := by
  unfold dec
  rw [if_neg (by omega)]
  cases (chars bs).2 <;> rfl

/-- UtfDecodes. -/
theorem c3 {lo : Nat} {H : AHeap} {A : Option Addr} {bs : List Nat} (T : Tabs H) (hl : lo ≤ H.next) (hA : BytesN lo H A bs) (hb : ∀ x ∈ bs, x < 256) (hlen : bs.length ≤ 140737488355328) :
    ACalls Tryd.prog 3 [.slice A bs.length bs.length] H fun v H' => v = .bool true := by
  refine S3_calls ?_
  unfold S3
  refine copyB hl hA hlen fun B1 H1 o1 k1 => ?_
  refine (c9 (T.kept k1) (Nat.le_refl _) o1.rd hb).mono fun v2 H2 ⟨d2, k2⟩ => ?_
  have k02 := k1.trans (k2.lower k1.next)
  obtain ⟨B2, rfl, r2⟩ := d2
  simp
  refine (c10 (Nat.le_trans hl k02.next) (hA.kept (k02.lower hl)) hb).mono fun v3 H3 ⟨d3, k3⟩ => ?_
  have k03 := k02.trans (k3.lower k02.next)
  obtain ⟨B3, rfl, r3⟩ := d3
  simp
  refine (c11 (T.kept k03)).use ?_
  have hchars : (dec bs).1.length ≤ 140737488355328 := by
    have : ∀ (n : Nat) (bs : List Nat), (decAll n bs).1.length ≤ n := by
      intro n
      induction n with
      | zero => intro bs; simp [decAll]
      | succ n ih =>
        intro bs
        cases bs with
        | nil => simp [decAll]
        | cons b bs =>
          unfold decAll
          split
          · simp
          · simp; exact ih _
    unfold dec
    split
    · simp
    · split
      · simp
      · exact Nat.le_trans (this _ _) hlen
  unfold S3_110
  simp
  refine (c12 ((r2.kept k3).up k3.next) r3 hchars).use ?_
  simp
  by_cases h : 65536 < bs.length
  · have hd : dec bs = ([], 0, 6) := by unfold dec; rw [if_pos h]
    simp [hd]
  cases hc : (chars bs).2 with
  | none =>
    have hd : dec bs = ((chars bs).1, 0, 0) := by rw [dec_small (by omega), hc]
    simp [hd]
  | some p =>
    have hd : dec bs = ([], (p : Int), 4) := by rw [dec_small (by omega), hc]
    obtain ⟨hp, ht⟩ := chars_take _ bs (chars bs).1 p (Nat.le_refl _) (by rw [← hc])
    have hA3 := (hA.kept (k03.lower hl)).up (Nat.le_trans hl k03.next)
    have i1 := hA3.sliceHi (k := .i64) (j := (p : Int)) (by omega) (by omega)
    rw [Int.toNat_natCast] at i1
    have tk := hA3.take (j := p) (by omega)
    have hlp : (bs.take p).length = p := by rw [List.length_take]; omega
    have hbt : ∀ x ∈ bs.take p, x < 256 := fun x hx => hb x (List.mem_of_mem_take hx)
    simp [-aBuildSlice_eq, hd]
    unfold S3_109
    simp only [i1, bnd_some']
    have hcp := copyB (Nat.le_refl _) tk (by omega) (K := fun t55_70 H_71 => ACalls Tryd.prog 9 [t55_70] H_71 fun t56_72 H_73 =>
 bnd (aExtract t56_72 0) fun t57_74 =>
 bnd (aExtract t56_72 1) fun t58_75 =>
 bnd (aExtract t56_72 2) fun t59_76 =>
 ACalls Tryd.prog 13 [.slice (adv 1 A 0) p p] H_73 fun t64_78 H_79 =>
 (S3_108 (fun v H' => v = .bool true) t57_74 t59_76 t64_78 H_79)) ?_
    · rw [hlp] at hcp
      exact hcp
    intro B4 H4 o4 k4
    refine (c9 (T.kept (k03.trans (k4.lower k03.next))) (Nat.le_refl _) o4.rd hbt).mono fun v5 H5 ⟨d5, k5⟩ => ?_
    have hd5 : dec (bs.take p) = ((chars bs).1, 0, 0) := by rw [dec_small (by omega), ht]
    rw [hd5] at d5
    obtain ⟨B5, rfl, r5⟩ := d5
    have k35 := k4.trans (k5.lower k4.next)
    simp
    have h13 := c13 (H := H5) k35.next (tk.kept k35) hbt (by omega)
    rw [hlp] at h13
    refine h13.mono fun v6 H6 ⟨k6, hv6⟩ => ?_
    rw [ht] at hv6
    obtain ⟨B6, rfl, r6⟩ := hv6
    unfold S3_108
    simp
    have hcl : (chars bs).1.length ≤ 140737488355328 := by
      have := congrArg (fun x : List Int × Int × Int => x.1.length) hd5
      have h5 : (chars bs).1.length ≤ (dec (bs.take p)).1.length := by rw [hd5]; exact Nat.le_refl _
      have hdl : ∀ (n : Nat) (bs : List Nat), (decAll n bs).1.length ≤ n := by
        intro n
        induction n with
        | zero => intro bs; simp [decAll]
        | succ n ih =>
          intro bs
          cases bs with
          | nil => simp [decAll]
          | cons b bs =>
            unfold decAll
            split
            · simp
            · simp; exact ih _
      exact Nat.le_trans (hdl _ _) hlen
    refine (c12 ((r5.kept k6).up k6.next) r6 hcl).use ?_
    simp
end Go.Proofs.YtliakckflcoffaaDoor.A
