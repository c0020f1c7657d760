/- Contracts of functions that the statement reaches; each theorem carries its own conditions, the last theorem of the claim has none. -/
import Derived.Test.YtliakckflcoffaaDoorU9
set_option linter.unusedVariables false
set_option linter.unusedSimpArgs false
namespace Go.Proofs.YtliakckflcoffaaDoor.A
open Go Go.Abs
open Go.Lib (decodeN)

/-! There and back. -/
theorem at'_cons0 (x : Nat) (l : List Nat) : at' (x :: l) 0 = x := rfl
theorem at'_cons1 (x y : Nat) (l : List Nat) : at' (x :: y :: l) 1 = y := rfl
theorem at'_cons2 (x y z : Nat) (l : List Nat) : at' (x :: y :: z :: l) 2 = z := rfl
theorem at'_cons3 (x y z u : Nat) (l : List Nat) : at' (x :: y :: z :: u :: l) 3 = u := rfl
theorem scal_out {c : Nat} (h : scal (c : Int) = true) : c ≤ 1114111 ∧ ¬ (55296 ≤ c ∧ c ≤ 57343) := by
  have := scal_le h
  simp [scal] at h
  omega
set_option maxRecDepth 100000 in
set_option maxHeartbeats 4000000 in
theorem rd_enc {c : Nat} (rest : List Nat) (h : scal (c : Int) = true) : rd (enc c ++ rest) = (c, (enc c).length) := by
  obtain ⟨h1, h2⟩ := scal_out h
  unfold rd enc
  by_cases q1 : c < 128
  · rw [if_pos q1]
    simp only [List.cons_append, List.nil_append, at'_cons0, List.length_cons, List.length_nil]
    unfold decodeN
    rw [if_pos q1]
  by_cases q2 : c < 2048
  · rw [if_neg q1, if_pos q2]
    simp only [List.cons_append, List.nil_append, at'_cons0, at'_cons1, List.length_cons, List.length_nil]
    generalize at' _ 2 = y2
    generalize at' _ 3 = y3
    unfold decodeN
    rw [if_neg (by omega), if_pos (by omega), if_pos (by omega)]
    apply Prod.ext <;> simp only <;> omega
  by_cases q3 : c < 65536
  · rw [if_neg q1, if_neg q2, if_pos q3]
    simp only [List.cons_append, List.nil_append, at'_cons0, at'_cons1, at'_cons2, List.length_cons, List.length_nil]
    generalize at' _ 3 = y3
    unfold decodeN
    rw [if_neg (by omega), if_neg (by omega), if_pos (by omega), if_pos (by omega)]
    apply Prod.ext <;> simp only <;> omega
  · rw [if_neg q1, if_neg q2, if_neg q3]
    simp only [List.cons_append, List.nil_append, at'_cons0, at'_cons1, at'_cons2, at'_cons3, List.length_cons, List.length_nil]
    unfold decodeN
    rw [if_neg (by omega), if_neg (by omega), if_neg (by omega), if_pos (by omega), if_pos (by omega)]
    apply Prod.ext <;> simp only <;> omega
theorem enc_pos (c : Nat) : 1 ≤ (enc c).length ∧ (enc c).length ≤ 4 := by unfold enc; (repeat' split) <;> simp
theorem enc_good {c : Nat} (rest : List Nat) (h : scal (c : Int) = true) : ¬ Bad (enc c ++ rest) := by
  unfold Bad
  rw [rd_enc rest h]
  intro e
  obtain ⟨e1, e2⟩ := Prod.mk.inj e
  subst e1
  revert e2
  decide
theorem chars_encs : ∀ (xs : List Int), encOk xs = true → chars (encs xs) = (xs, none)
  | [], _ => rfl
  | c :: xs, h => by
    unfold encOk at h
    rw [List.all_cons, Bool.and_eq_true] at h
    have ih := chars_encs xs h.2
    have hn := scal_nat h.1
    have hs : scal ((c.toNat : Nat) : Int) = true := by rw [hn]; exact h.1
    have hp := enc_pos c.toNat
    have e : encs (c :: xs) = enc c.toNat ++ encs xs := by unfold encs; rw [List.flatMap_cons]
    have hne : enc c.toNat ++ encs xs ≠ [] := by
      intro hh
      have := congrArg List.length hh
      rw [List.length_append, List.length_nil] at this
      omega
    rw [e, chars_step hne (enc_good _ hs), rd_enc _ hs]
    simp only [List.drop_left, ih, hn, Option.map_none]

set_option maxRecDepth 100000 in
set_option maxHeartbeats 4000000 in
theorem enc_rd {bs : List Nat} (hb : ∀ x ∈ bs, x < 256) (hne : bs ≠ []) (hB : ¬ Bad bs) : scal (((rd bs).1 : Nat) : Int) = true ∧ enc (rd bs).1 = bs.take (rd bs).2 := by
  have g := at'_lt hb
  have g0 := g 0
  have htk : ∀ k, k ≤ bs.length → bs.take k = (List.range k).map (at' bs) := by
    intro k hk
    apply List.ext_getElem?
    intro i
    by_cases hi : i < k
    · simp [List.getElem?_take, hi, at', List.getD_eq_getElem?_getD, List.getElem?_eq_getElem (show i < bs.length by omega)]
    · simp [List.getElem?_take, hi]
  have hpos : 1 ≤ bs.length := by cases bs with | nil => exact absurd rfl hne | cons x xs => simp
  by_cases q1 : at' bs 0 < 128
  · have hr := rd_ascii q1
    rw [hr, htk 1 hpos]
    refine ⟨by simp [scal]; omega, ?_⟩
    show enc (at' bs 0) = [at' bs 0]
    unfold enc
    rw [if_pos q1]
  by_cases q2 : at' bs 0 < 192
  · exact absurd (rd_none (.inl ⟨by omega, by omega⟩) g) hB
  by_cases q3 : at' bs 0 < 224
  · have hr := rd2 g ⟨by omega, q3⟩
    by_cases hc : 2 ≤ bs.length ∧ cont (at' bs 1) ∧ 128 ≤ (at' bs 0 - 192) * 64 + (at' bs 1 - 128)
    · rw [if_pos hc] at hr
      obtain ⟨c0, c1, c2⟩ := hc
      unfold cont at c1
      rw [hr, htk 2 c0]
      refine ⟨by simp [scal]; omega, ?_⟩
      show enc _ = [at' bs 0, at' bs 1]
      unfold enc
      rw [if_neg (by omega), if_pos (by omega)]
      congr 1
      · omega
      · congr 1; omega
    · rw [if_neg hc] at hr
      exact absurd hr hB
  by_cases q4 : at' bs 0 < 240
  · have hr := rd3 g ⟨by omega, q4⟩
    split at hr
    · rename_i hc
      obtain ⟨c0, c1, c2, c3, c4⟩ := hc
      unfold cont at c1 c2
      rw [hr, htk 3 c0]
      refine ⟨by simp [scal]; omega, ?_⟩
      show enc _ = [at' bs 0, at' bs 1, at' bs 2]
      unfold enc
      rw [if_neg (by omega), if_neg (by omega), if_pos (by omega)]
      congr 1
      · omega
      · congr 1
        · omega
        · congr 1; omega
    · exact absurd hr hB
  by_cases q5 : at' bs 0 < 248
  · have hr := rd4 g ⟨by omega, q5⟩
    split at hr
    · rename_i hc
      obtain ⟨c0, c1, c2, c3, c4, c5⟩ := hc
      unfold cont at c1 c2 c3
      rw [hr, htk 4 c0]
      refine ⟨by simp [scal]; omega, ?_⟩
      show enc _ = [at' bs 0, at' bs 1, at' bs 2, at' bs 3]
      unfold enc
      rw [if_neg (by omega), if_neg (by omega), if_neg (by omega)]
      congr 1
      · omega
      · congr 1
        · omega
        · congr 1
          · omega
          · congr 1; omega
    · exact absurd hr hB
  · exact absurd (rd_none (.inr (by omega)) g) hB
theorem encs_chars : ∀ (n : Nat) (bs : List Nat) (l : List Int), bs.length ≤ n → (∀ x ∈ bs, x < 256) → chars bs = (l, none) → encOk l = true ∧ encs l = bs := by
  intro n
  induction n with
  | zero =>
    intro bs l hn hb h
    have : bs = [] := List.length_eq_zero_iff.1 (by omega)
    subst this
    rw [chars_nil] at h
    simp at h
    subst h
    exact ⟨rfl, rfl⟩
  | succ n ih =>
    intro bs l hn hb h
    by_cases hne : bs = []
    · subst hne
      rw [chars_nil] at h
      simp at h
      subst h
      exact ⟨rfl, rfl⟩
    by_cases hB : Bad bs
    · rw [chars_bad hne hB] at h
      simp at h
    · obtain ⟨f1, f2, _⟩ := rd_fit hne
      rw [chars_step hne hB] at h
      obtain ⟨h1, h2⟩ := Prod.mk.inj h
      rw [Option.map_eq_none_iff] at h2
      obtain ⟨i1, i2⟩ := ih (bs.drop (rd bs).2) (chars (bs.drop (rd bs).2)).1 (by rw [List.length_drop]; omega) (fun x hx => hb x (List.mem_of_mem_drop hx)) (by rw [← h2])
      obtain ⟨e1, e2⟩ := enc_rd hb hne hB
      subst h1
      refine ⟨by unfold encOk at i1 ⊢; rw [List.all_cons, e1, i1]; rfl, ?_⟩
      have : encs ((((rd bs).1 : Nat) : Int) :: (chars (bs.drop (rd bs).2)).1) = enc (rd bs).1 ++ encs (chars (bs.drop (rd bs).2)).1 := by unfold encs; rw [List.flatMap_cons]; rfl
      rw [this, e2, i2, List.take_append_drop]

/-! Bytes as a text. -/
def str (l : List Nat) : ByteArray := ⟨(l.map UInt8.ofNat).toArray⟩
theorem bytesOf_enc : ∀ (l : List Nat), (∀ x ∈ l, x < 256) → bytesOf (l.flatMap eN) = some (l.map UInt8.ofNat)
  | [], _ => rfl
  | x :: l, h => by
    rw [List.flatMap_cons]
    show bytesOf (Value.int .u8 (x : Int) :: l.flatMap eN) = _
    have hx := h x (by simp)
    unfold bytesOf
    rw [if_pos ⟨by omega, by omega⟩, bytesOf_enc l fun y hy => h y (by simp [hy])]
    simp
theorem BytesN.str {lo : Nat} {H : AHeap} {B : Option Addr} {l : List Nat} (h : BytesN lo H B l) (hl : ∀ x ∈ l, x < 256) (c : Nat) : aBytesStr (.slice B l.length c) H = some (.string (str l)) := by
  unfold aBytesStr
  rw [h.row]
  simp only [Option.bind_some, bytesOf_enc l hl, Option.map_some]
  rfl
theorem encs_lt {xs : List Int} (h : encOk xs = true) : ∀ x ∈ encs xs, x < 256 := by
  intro x hx
  unfold encs at hx
  rw [List.mem_flatMap] at hx
  obtain ⟨c, hc, hx⟩ := hx
  have hs := List.all_eq_true.1 h c hc
  exact enc_lt (c := c.toNat) (scal_le (by rw [scal_nat hs]; exact hs)) x hx
theorem encR_lt (xs : List Int) : ∀ x ∈ (encR xs).1, x < 256 := by
  unfold encR
  split
  · rename_i h; exact encs_lt h
  · simp

/-- A copy of whole numbers. -/
theorem copyI {lo : Nat} {H : AHeap} {A : Option Addr} {xs : List Int} {K : Value → AHeap → Prop} (hl : lo ≤ H.next) (hA : Ints lo H A xs) (hlen : xs.length ≤ 1000000)
    (hk : ∀ B H', Ow 1 eI 3 H.next H' B xs → Keep H.next H H' → K (.slice B xs.length xs.length) H') :
    aBuildSlice 1 0 3 [(.int .i64 0)] [] H fun t H1 => aAppend 1 8 3 t (.slice A xs.length xs.length) H1 K := by
  simp [aFill]
  have kk : Keep H.next H (H.alloc (.cells [] (.row 1) 3)) := (Keep.refl _ _).alloc (Nat.le_refl _) _
  have o : Ow 1 eI 3 H.next (H.alloc (.cells [] (.row 1) 3)) (some ⟨H.next, 0, none⟩) ([] : List Int) := ⟨by simp, .inr ⟨H.next, [], rfl, Nat.le_refl _, by simp, AHeap.at_alloc_new _ _, by simp, by simp⟩⟩
  refine o.append (c := 0) ((hA.kept (kk.lower hl)).up hl) (by simp) (by simp [maxLen]; omega) (by simp; omega) fun H' o' n' a' k' => ?_
  simp only [List.nil_append] at o' ⊢
  exact hk _ _ o' (kk.trans k')

theorem self_eq (s : ByteArray) : (s == s) = true := by
  first
  | exact beq_self_eq_true s
  | (cases s; show (Array.instBEq.beq _ _) = true; exact beq_self_eq_true _)
  | (cases s; simp [BEq.beq, ByteArray.beq])

/-- UtfEncodes. -/
theorem c6 {lo : Nat} {H : AHeap} {A : Option Addr} {xs : List Int} (T : Tabs H) (hl : lo ≤ H.next) (hA : Ints lo H A xs) : ACalls Tryd.prog 6 [.slice A xs.length xs.length] H fun v H' => v = .bool true := by
  refine S6_calls ?_
  unfold S6
  by_cases h : 5000 < xs.length
  · simp [show (5000 : Int) < xs.length by omega]
    exact (c11 T).use rfl
  · simp [show ¬ (5000 : Int) < xs.length by omega]
    unfold S6_57
    refine copyI hl hA (by omega) fun B1 H1 o1 k1 => ?_
    refine (c20 (Nat.le_refl _) o1.rd (by omega)).mono fun v H2 hv => ?_
    obtain ⟨B2, rfl, r2, k2⟩ := hv
    have k02 := k1.trans (k2.lower k1.next)
    simp
    refine (c21 k02.next ((hA.up hl).kept k02) (by omega)).mono fun v H3 hv => ?_
    obtain ⟨B3, rfl, r3, k3⟩ := hv
    have k03 := k02.trans (k3.lower k02.next)
    simp
    refine (c11 (T.kept k03)).use ?_
    have s2 := (BytesN.str ((r2.kept k3).up k3.next) (encR_lt xs) (encR xs).1.length)
    have s3 := BytesN.str r3 (encR_lt xs) (encR xs).1.length
    unfold S6_56
    simp [s2, s3, self_eq]

theorem chars_len (bs : List Nat) : (chars bs).1.length ≤ bs.length := by
  have : ∀ (n : Nat) (bs : List Nat), (decAll n bs).1.length ≤ n := by
    intro n
    induction n with
    | zero => intro bs; simp [decAll]
    | succ n ih =>
      intro bs
      cases bs with
      | nil => simp [decAll]
      | cons b bs =>
        unfold decAll
        split
        · simp
        · simp; exact ih _
  exact this _ _

/-- UtfBack. -/
theorem c7 {lo : Nat} {H : AHeap} {A B : Option Addr} {xs : List Int} {bs : List Nat} (T : Tabs H) (hl : lo ≤ H.next) (hA : Ints lo H A xs) (hB : BytesN lo H B bs) (hb : ∀ x ∈ bs, x < 256) (hlen : bs.length ≤ 140737488355328) :
    ACalls Tryd.prog 7 [.slice A xs.length xs.length, .slice B bs.length bs.length] H fun v H' => v = .bool true := by
  refine S7_calls ?_
  unfold S7
  refine (c11 T).use ?_
  unfold S7_103
  by_cases h : 5000 < xs.length
  · simp [show (5000 : Int) < xs.length by omega]
    exact (c11 T).use rfl
  simp [show ¬ (5000 : Int) < xs.length by omega]
  unfold S7_102
  refine copyI hl hA (by omega) fun B1 H1 o1 k1 => ?_
  refine (c20 (Nat.le_refl _) o1.rd (by omega)).mono fun v H2 hv => ?_
  obtain ⟨B2, rfl, r2, k2⟩ := hv
  have k02 := k1.trans (k2.lower k1.next)
  simp
  rw [aJoin_eq]
  have J : ∀ H3, Keep H.next H H3 → S7_101 (.slice B bs.length bs.length) (fun v H' => v = .bool true) H3 := by
    intro H3 k03
    have hB3 := (hB.up hl).kept k03
    unfold S7_101
    refine copyB k03.next hB3 hlen fun B4 H4 o4 k4 => ?_
    have k04 := k03.trans (k4.lower k03.next)
    refine (c9 (T.kept k04) (Nat.le_refl _) o4.rd hb).mono fun v H5 ⟨d5, k5⟩ => ?_
    have k05 := k04.trans (k5.lower k04.next)
    obtain ⟨B5, rfl, r5⟩ := d5
    by_cases hbig : 65536 < bs.length
    · have hd : dec bs = ([], 0, 6) := by unfold dec; rw [if_pos hbig]
      simp [hd]
    cases hc : (chars bs).2 with
    | some p =>
      have hd : dec bs = ([], (p : Int), 4) := by rw [dec_small (by omega), hc]
      simp [hd]
    | none =>
      have hd : dec bs = ((chars bs).1, 0, 0) := by rw [dec_small (by omega), hc]
      rw [hd] at r5 ⊢
      obtain ⟨q1, q2⟩ := encs_chars _ bs (chars bs).1 (Nat.le_refl _) hb (by rw [← hc])
      have hcl := chars_len bs
      simp
      refine (c20 (Nat.le_refl _) r5 (show (chars bs).1.length ≤ 1000000 by omega)).mono fun v H6 hv => ?_
      obtain ⟨B6, rfl, r6, k6⟩ := hv
      have hR : encR (chars bs).1 = (bs, 0) := by unfold encR; rw [if_pos q1, q2]
      rw [hR] at r6 ⊢
      have s6 := BytesN.str r6 hb bs.length
      have sB := BytesN.str (((hB.up hl).kept (k05.trans (k6.lower k05.next)))) hb bs.length
      unfold S7_72
      simp [s6, sB, self_eq]
  by_cases ok : encOk xs = true
  · have hR : encR xs = (encs xs, 0) := by unfold encR; rw [if_pos ok]
    rw [hR] at r2 ⊢
    simp
    refine (c9 (T.kept k02) (Nat.le_refl _) r2 (encs_lt ok)).mono fun v H3 ⟨d3, k3⟩ => ?_
    have hel := encs_len xs
    have hd : dec (encs xs) = (xs, 0, 0) := by rw [dec_small (by omega), chars_encs xs ok]
    rw [hd] at d3
    obtain ⟨B3, rfl, r3⟩ := d3
    have k03 := k02.trans (k3.lower k02.next)
    unfold S7_100
    simp
    refine (c12 r3 ((hA.up hl).kept k03 |>.up k03.next) (show xs.length ≤ 140737488355328 by omega)).use ?_
    simp
    exact J _ k03
  · have hR : encR xs = ([], 1) := by unfold encR; rw [if_neg ok]
    simp [hR]
    exact J _ k02
end Go.Proofs.YtliakckflcoffaaDoor.A
