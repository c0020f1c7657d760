/- CutPrefix, and Trim at the hexadecimal digits (turned from the texts of chapter 22). -/
import Derived.Test.YtliakckflcoffaaDoorV2
set_option linter.unusedVariables false
set_option linter.unusedSimpArgs false
set_option maxRecDepth 100000
namespace Go.Proofs.YtliakckflcoffaaDoor.A
open Go Go.Abs
def px (s : List UInt8) : Bool := decide (s.take 1 = [120])
theorem c59 {H : AHeap} (s : List UInt8) : ACalls Tryd.prog 59 [bstr s, bstr [120]] H fun v H' => v = .bool (px s) ∧ H' = H := by
  refine S59_calls ?_
  unfold S59
  simp only [str_len, bnd_some', aBin_geq]
  cases s with
  | nil =>
    simp only [show decide ((([120] : List UInt8).length : Int) ≤ (([] : List UInt8).length : Int)) = false from rfl, aGuardK_ft, aPick_ff, bnd_some']
    exact ⟨rfl, trivial⟩
  | cons x l =>
    have h1 : decide ((([120] : List UInt8).length : Int) ≤ ((x :: l).length : Int)) = true := decide_eq_true (by simp; omega)
    simp only [h1, aGuardK_tt, str_len, bnd_some', str_take (x :: l) (k := .i64) (j := ([120] : List UInt8).length) (by simp), str_eq, aPick_tt]
    exact ⟨rfl, trivial⟩
theorem c35 {H : AHeap} (s : List UInt8) : ACalls Tryd.prog 35 [bstr s, bstr [120]] H fun v H' => v = .tuple #[bstr (if px s then s.drop 1 else s), .bool (px s)] ∧ H' = H := by
  have h44 : ACalls Tryd.prog 44 [bstr s, bstr [120]] H fun v H' => v = .tuple #[bstr (if px s then s.drop 1 else s), .bool (px s)] ∧ H' = H := by
    refine S44_calls ?_
    unfold S44
    refine (c59 s).use ?_
    simp only [aUn_not, bnd_some']
    cases hp : px s with
    | false => simp [hp]
    | true =>
      have hl : 1 ≤ s.length := by
        cases s with
        | nil => simp [px] at hp
        | cons x l => simp
      simp only [Bool.not_true, aCond_false, str_len, bnd_some', str_drop s (k := .i64) (j := ([120] : List UInt8).length) hl]
      exact ⟨rfl, trivial⟩
  refine S35_calls ?_
  unfold S35
  refine h44.use ?_
  exact bnd_iff.2 ⟨_, rfl, bnd_iff.2 ⟨_, rfl, rfl, rfl⟩⟩

abbrev digs22 : List UInt8 := [48, 49, 50, 51, 52, 53, 54, 55, 56, 57, 97, 98, 99, 100, 101, 102, 65, 66, 67, 68, 69, 70]
def isHex (n : Nat) : Bool := (48 ≤ n && n ≤ 57) || (97 ≤ n && n ≤ 102) || (65 ≤ n && n ≤ 70)
abbrev z256 : List Value := List.replicate 256 (.bool false)
def setAt (i : Nat) : List Value := (digs22.take i).foldl (fun cs c => cs.set c.toNat (.bool true)) z256
def hexSet : List Value := (List.range 256).map fun n => .bool (isHex n)
theorem setAt_len (i : Nat) : (setAt i).length = 256 := by
  unfold setAt
  generalize digs22.take i = l
  have : ∀ (l : List UInt8) (cs : List Value), (l.foldl (fun cs c => cs.set c.toNat (.bool true)) cs).length = cs.length := by
    intro l
    induction l with
    | nil => intro cs; rfl
    | cons x l ih => intro cs; rw [List.foldl_cons, ih]; simp
  rw [this]
  simp
theorem setAt_all : setAt 22 = hexSet := by rfl
theorem setAt_succ (i : Nat) (h : i < 22) : setAt (i + 1) = (setAt i).set (digs22[i]'h).toNat (.bool true) := by
  unfold setAt
  rw [← List.take_append_getElem (show i < digs22.length from h), List.foldl_append]
  rfl

theorem c47 {H : AHeap} : ACalls Tryd.prog 47 [bstr digs22] H fun v H' => v = .tuple #[.agg hexSet.toArray, .bool true] ∧ Keep H.next H H' := by
  refine S47_calls ?_
  unfold S47
  rw [aAlloc_eq]
  show aLoop _ (H.alloc (.cells z256 .var 70)) _
  have hat : (H.alloc (.cells z256 .var 70)).at_ H.next = .cells z256 .var 70 := AHeap.at_alloc_new _ _
  have hk : Keep H.next H (H.alloc (.cells z256 .var 70)) := (Keep.refl _ _).alloc (Nat.le_refl _) _
  generalize H.alloc (.cells z256 .var 70) = H1 at hat hk
  refine aLoop_vs 22 (fun i vs H2 => i ≤ 22 ∧ vs = [.int .i64 i] ∧ H2.at_ H.next = .cells (setAt i) .var 70 ∧ Keep H.next H H2) ⟨by decide, rfl, hat, hk⟩ ?_
  rintro i vs H2 again hi ⟨_, rfl, hat2, hk2⟩ hag
  unfold S47_19
  rw [str_len]
  simp only [nth_zero, aBin_lss, bnd_some']
  refine aCond_of (fun hlt => ?_) (fun hge => ?_)
  · have hlt : i < 22 := by have := of_decide_eq_true hlt; simp at this; omega
    unfold S47_15
    simp only [nth_zero]
    rw [str_at digs22 hlt]
    have hx : ((digs22[i]'hlt).toNat) < 128 := by
      have : ∀ x ∈ digs22, x.toNat < 128 := by decide
      exact this _ (List.getElem_mem _)
    simp only [bnd_some', aBin_geq]
    rw [show decide ((128 : Int) ≤ ((digs22[i]'hlt).toNat : Int)) = false from decide_eq_false (by omega), aCond_false]
    simp only [aIdxAddrArr_ptr]
    rw [if_pos ⟨by omega, by omega⟩]
    simp only [bnd_some', Int.toNat_natCast, Nat.mul_one, Nat.zero_add]
    rw [aSt_var hat2 (by rw [setAt_len]; omega) rfl rfl, bnd_some']
    simp only [aBin_add, bnd_some']
    rw [wrap64 (by omega) (by omega)]
    refine hag _ _ hlt ⟨by omega, rfl, ?_, hk2.upd (Nat.le_refl _) _⟩
    rw [AHeap.at_upd_same, setAt_succ i hlt]
  · have hge : i = 22 := by have := of_decide_eq_false hge; simp at this; omega
    subst hge
    rw [setAt_all] at hat2
    have hl : hexSet.length = 256 := by decide
    have hld : ∀ {H' : AHeap}, H'.at_ H.next = .cells hexSet .var 70 → aLdAgg 256 (.pointer (some ⟨H.next, 0, none⟩)) H' = some (.agg hexSet.toArray) := by
      intro H' h
      rw [aLdAgg_ptr, h, blkAgg_cells, if_pos (by rw [hl]; decide), List.drop_zero, List.take_of_length_le (by rw [hl]; decide)]
    rw [hld hat2, bnd_some']
    have hst : aSt 256 (.pointer (some ⟨H.next, 0, none⟩)) (.agg hexSet.toArray) H2 = some (H2.upd H.next (.cells hexSet .var 70)) := by
      rw [aSt_ptr, hat2, blkSt_cells, vcells_agg, if_pos ⟨rfl, by simp [hl], by rw [hl]; decide, by decide⟩]
      rfl
    rw [hst, bnd_some', hld (AHeap.at_upd_same _ _ _), bnd_some']
    exact ⟨rfl, hk2.upd (Nat.le_refl _) _⟩
theorem hexSet_at (c : UInt8) : hexSet[c.toNat]? = some (.bool (isHex c.toNat)) := by
  have h : c.toNat < 256 := c.toNat_lt
  simp [hexSet, h]
theorem c60 {H : AHeap} {b : Nat} {k : Use} {t : TypeId} (hat : H.at_ b = .cells hexSet k t) (c : UInt8) :
    ACalls Tryd.prog 60 [.pointer (some ⟨b, 0, none⟩), .int .u8 c.toNat] H fun v H' => v = .bool (isHex c.toNat) ∧ H' = H := by
  refine S60_calls ?_
  unfold S60
  have h : c.toNat < 256 := c.toNat_lt
  simp only [aNilCheck_ptr, bnd_some', aIdxAddrArr_ptr]
  rw [if_pos ⟨by omega, by omega⟩]
  simp only [bnd_some', Int.toNat_natCast, Nat.mul_one, Nat.zero_add]
  rw [aLdCell_ptr, hat, blkCell_cells, hexSet_at]
  exact ⟨rfl, by trivial⟩

def hx (c : UInt8) : Bool := isHex c.toNat
def trimL (s : List UInt8) : List UInt8 := s.dropWhile hx
def trimR (s : List UInt8) : List UInt8 := (s.reverse.dropWhile hx).reverse
theorem trimR_append (s : List UInt8) (c : UInt8) : trimR (s ++ [c]) = if hx c then trimR s else s ++ [c] := by
  unfold trimR
  rw [List.reverse_append, List.reverse_singleton, List.singleton_append, List.dropWhile_cons]
  split
  · rfl
  · simp
theorem c49 {H : AHeap} {b : Nat} {k : Use} {t : TypeId} (hat : H.at_ b = .cells hexSet k t) (s : List UInt8) (hs : s.length ≤ 4611686018427387904) :
    ACalls Tryd.prog 49 [bstr s, .pointer (some ⟨b, 0, none⟩)] H fun v H' => v = bstr (trimR s) ∧ H' = H := by
  refine S49_calls ?_
  unfold S49
  rw [aJoin_eq]
  refine aLoop_inv (fun m vs H2 => ∃ t, m = t.length ∧ m ≤ s.length ∧ vs = [bstr t] ∧ H2 = H ∧ trimR t = trimR s) s.length ⟨s, rfl, Nat.le_refl _, rfl, rfl, rfl⟩ ?_
  rintro m vs H2 again ⟨t, rfl, hm, rfl, rfl, ht⟩ hag
  unfold S49_18
  simp only [nth_zero, str_len, bnd_some', aBin_gtr]
  rcases List.eq_nil_or_concat t with rfl | ⟨t', c, e⟩
  · simp only [show decide ((0 : Int) < (([] : List UInt8).length : Int)) = false from rfl, aCond_false]
    rw [← ht]
    exact ⟨rfl, by trivial⟩
  · rw [List.concat_eq_append] at e
    subst e
    rw [List.length_append] at hm
    simp only [List.length_cons, List.length_nil] at hm
    rw [show decide ((0 : Int) < ((t' ++ [c]).length : Int)) = true from decide_eq_true (by simp <;> omega), aCond_true]
    unfold S49_17
    have hw : IntKind.i64.wrap (((t' ++ [c]).length : Int) - 1) = (t'.length : Int) := by rw [wrap64 (by simp <;> omega) (by simp <;> omega)]; simp
    have hc : (t' ++ [c])[t'.length]'(by simp) = c := by simp
    simp only [nth_zero, str_len, bnd_some', aBin_sub, hw, str_at (t' ++ [c]) (k := .i64) (j := t'.length) (by simp), hc]
    refine (c60 hat c).use ?_
    simp only [aUn_not, bnd_some']
    have htr := trimR_append t' c
    cases hcx : isHex c.toNat with
    | false =>
      rw [show hx c = false from hcx] at htr
      simp only [Bool.not_false, aCond_true]
      rw [← ht, htr]
      exact ⟨by simp, by trivial⟩
    | true =>
      rw [show hx c = true from hcx, if_pos rfl] at htr
      simp only [Bool.not_true, aCond_false, str_take (t' ++ [c]) (k := .i64) (j := t'.length) (by simp), bnd_some']
      rw [List.take_left' rfl]
      exact hag t'.length _ _ (by simp) ⟨t', rfl, by omega, rfl, rfl, by rw [← ht, htr]⟩

theorem c48 {H : AHeap} {b : Nat} {k : Use} {t : TypeId} (hat : H.at_ b = .cells hexSet k t) (s : List UInt8) :
    ACalls Tryd.prog 48 [bstr s, .pointer (some ⟨b, 0, none⟩)] H fun v H' => v = bstr (trimL s) ∧ H' = H := by
  refine S48_calls ?_
  unfold S48
  rw [aJoin_eq]
  refine aLoop_inv (fun m vs H2 => ∃ t, m = t.length ∧ vs = [bstr t] ∧ H2 = H ∧ trimL t = trimL s) s.length ⟨s, rfl, rfl, rfl, rfl⟩ ?_
  rintro m vs H2 again ⟨t, rfl, rfl, rfl, ht⟩ hag
  unfold S48_14
  simp only [nth_zero, str_len, bnd_some', aBin_gtr]
  cases t with
  | nil =>
    simp only [show decide ((0 : Int) < (([] : List UInt8).length : Int)) = false from rfl, aCond_false]
    rw [← ht]
    exact ⟨rfl, by trivial⟩
  | cons c t' =>
    rw [show decide ((0 : Int) < ((c :: t').length : Int)) = true from decide_eq_true (by simp), aCond_true]
    unfold S48_13
    have h0 := str_at (c :: t') (k := .i64) (j := 0) (by simp)
    have h1 := str_drop (c :: t') (k := .i64) (j := 1) (by simp)
    simp only [nth_zero]
    rw [show (.int .i64 0 : Value) = .int .i64 ((0 : Nat) : Int) from rfl, h0, bnd_some']
    refine (c60 hat c).use ?_
    simp only [aUn_not, bnd_some']
    have htr : trimL (c :: t') = if hx c then trimL t' else c :: t' := by
      unfold trimL; rw [List.dropWhile_cons]
    cases hcx : isHex c.toNat with
    | false =>
      rw [show hx c = false from hcx] at htr
      simp only [Bool.not_false, aCond_true]
      rw [← ht, htr]
      exact ⟨by simp, by trivial⟩
    | true =>
      rw [show hx c = true from hcx, if_pos rfl] at htr
      simp only [Bool.not_true, aCond_false]
      rw [show (.int .i64 1 : Value) = .int .i64 ((1 : Nat) : Int) from rfl, h1, bnd_some']
      exact hag t'.length _ _ (by simp) ⟨t', rfl, rfl, rfl, by rw [← ht, htr]⟩

theorem c36 {H : AHeap} (s : List UInt8) (hs : s.length ≤ 4611686018427387904) : ACalls Tryd.prog 36 [bstr s, bstr digs22] H fun v H' => v = bstr (trimL (trimR s)) ∧ H' = H := by
  refine ACalls.eq (S36_calls ?_) rfl
  unfold S36
  rw [show (.string ⟨#[]⟩ : Value) = bstr [] from rfl]
  simp only [str_eq, bnd_some']
  have tail : S36_50 (bstr s) (bstr digs22) (fun v H' => v = bstr (trimL (trimR s)) ∧ Keep H.next H H') H := by
    unfold S36_50
    rw [str_len]
    simp only [bnd_some', aBin_eql]
    rw [show decide (((digs22 : List UInt8).length : Int) = 1) = false from by decide]
    simp only [aGuardK_ft, aPick_ff, bnd_some', aCond_false]
    refine c47.mono ?_
    rintro v H1 ⟨rfl, hk1⟩
    unfold S36_49
    refine bnd_iff.2 ⟨_, rfl, bnd_iff.2 ⟨_, rfl, ?_⟩⟩
    rw [aAlloc_eq]
    have hl : hexSet.length = 256 := by decide
    have hst : aSt 256 (.pointer (some ⟨H1.next, 0, none⟩)) (.agg hexSet.toArray) (H1.alloc (.cells z256 .var 70)) = some ((H1.alloc (.cells z256 .var 70)).upd H1.next (.cells hexSet .var 70)) := by
      rw [aSt_ptr, AHeap.at_alloc_new, blkSt_cells, vcells_agg, if_pos ⟨rfl, by simp [hl], by decide, by decide⟩]
      rfl
    refine bnd_iff.2 ⟨_, hst, ?_⟩
    have hat : ((H1.alloc (.cells z256 .var 70)).upd H1.next (.cells hexSet .var 70)).at_ H1.next = .cells hexSet .var 70 := AHeap.at_upd_same _ _ _
    have hk2 : Keep H.next H ((H1.alloc (.cells z256 .var 70)).upd H1.next (.cells hexSet .var 70)) := (hk1.alloc hk1.next _).upd hk1.next _
    show aCond (.bool true) _ _
    rw [aCond_true]
    refine (c49 hat s hs).use ((c48 hat (trimR s)).use ⟨rfl, hk2⟩)
  cases hn : decide (s = []) with
  | true =>
    have := of_decide_eq_true hn
    subst this
    simp only [aGuardK_tf, aPick_tt, bnd_some', aCond_true]
    exact ⟨rfl, Keep.refl _ _⟩
  | false =>
    simp only [aGuardK_ff, str_eq, bnd_some', aPick_ff]
    rw [show decide ((digs22 : List UInt8) = []) = false from by decide, aCond_false]
    exact tail

theorem dropWhile_all {p : UInt8 → Bool} : ∀ {l : List UInt8}, (∀ c ∈ l, p c = true) → l.dropWhile p = []
  | [], _ => rfl
  | x :: l, h => by
    rw [List.dropWhile_cons, if_pos (h x (by simp))]
    exact dropWhile_all fun c hc => h c (by simp [hc])

end Go.Proofs.YtliakckflcoffaaDoor.A
