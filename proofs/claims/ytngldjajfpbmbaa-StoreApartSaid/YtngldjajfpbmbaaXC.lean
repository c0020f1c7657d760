/- Contracts of functions that the statement reaches; each theorem carries its own conditions, the last theorem of the claim has none. -/
import Derived.Test.YtngldjajfpbmbaaXB
import Derived.Test.YtngldjajfpbmbaaSQ
set_option linter.unusedVariables false
set_option linter.unusedSimpArgs false
namespace Go.Proofs.Ytngldjajfpbmbaa.A
open Go Go.Abs

/-- Clone, of rows of anything. -/
theorem cloneK {α : Type} {n bytes : Nat} {enc : α → List Value} {e : TypeId} {zs : List Value} {lo : Nat} {H : AHeap} {A : Option Addr} {xs : List α} {R : Value → AHeap → Prop} (hlo : lo ≤ H.next) (hA : Rd n enc lo H A xs) (hn : xs.length ≤ 2097152) (hb : bytes ≤ 1024)
    (hR : ∀ B H', Ow n enc e H.next H' B xs → Keep H.next H H' → R (.slice B xs.length xs.length) H') :
    aSlEq .eql (.slice A xs.length xs.length) (.slice none 0 0) H fun t H1 => aCond t (R (.slice none 0 0) H1) (aBuildSlice n 0 e zs [] H1 fun t5 H3 => aAppend n bytes e t5 (.slice A xs.length xs.length) H3 fun t7 H5 => R t7 H5) := by
  have hsz : xs.length * bytes ≤ 2097152 * 1024 := Nat.mul_le_mul hn hb
  cases A with
  | none =>
    have : xs = [] := by
      rcases hA.2 with ⟨_, h⟩ | ⟨b, o, cs, k, t, h, _⟩
      · exact h
      · cases h
    subst this
    simp
    exact hR none H (Ow.nil _ _ _ _ _) (Keep.refl _ _)
  | some a =>
    have ha : ∃ b o, a = ⟨b, o, none⟩ := by
      rcases hA.2 with ⟨h, _⟩ | ⟨b, o, cs, k, t, h, _⟩
      · cases h
      · cases h; exact ⟨b, o, rfl⟩
    have hO : Ow n enc e H.next (H.alloc (.cells [] (.row n) e)) (some ⟨H.next, 0, none⟩) [] := Ow.new H [] (by simp) rfl
    have fin := hO.append (bytes := bytes) (c := 0) (c' := xs.length) (hA.alloc hlo (.cells [] (.row n) e)) (by simp) (by simp only [maxLen, List.length_nil]; omega) (by simp only [List.length_nil, Nat.zero_add]; omega) (K := fun t7 H5 => R t7 H5) fun H' h1 h2 h3 h4 => by
      simp at h1
      have := hR _ H' h1 (((Keep.refl _ _).alloc (Nat.le_refl _) _).trans h4)
      simpa using this
    obtain ⟨b, o, rfl⟩ := ha
    by_cases hx : xs.length = 0
    · have hx' : xs = [] := List.eq_nil_of_length_eq_zero hx
      subst hx'
      simp only [List.length_nil]
      rw [aSlEq_emp]
      refine ⟨?_, ?_⟩
      · simp
        exact hR none H (Ow.nil _ _ _ _ _) (Keep.refl _ _)
      · simp only [List.length_nil] at fin
        simpa using fin
    · rw [aSlEq_some _ _ hx]
      simpa using fin
abbrev eW (x : Int) : List Value := [.int .u32 x]
abbrev eL (x : Unit) : List Value := []
theorem c72r {H : AHeap} {lo : Nat} {A : Option Addr} {xs : List Int} (hlo : lo ≤ H.next) (hA : Rd 1 eW lo H A xs) (hn : xs.length ≤ 2097152) :
    ACalls Try.prog 72 [.slice A xs.length xs.length] H fun r H' => ∃ B, r = .slice B xs.length xs.length ∧ Ow 1 eW 131 H.next H' B xs ∧ Keep H.next H H' := by
  refine S72_calls ?_
  unfold S72
  exact cloneK hlo hA hn (by omega) fun B H' h1 h2 => ⟨B, rfl, h1, h2⟩
theorem c73r {H : AHeap} {lo : Nat} {A : Option Addr} {xs : List Int} (hlo : lo ≤ H.next) (hA : Rd 1 eI lo H A xs) (hn : xs.length ≤ 2097152) :
    ACalls Try.prog 73 [.slice A xs.length xs.length] H fun r H' => ∃ B, r = .slice B xs.length xs.length ∧ Ow 1 eI 3 H.next H' B xs ∧ Keep H.next H H' := by
  refine S73_calls ?_
  unfold S73
  exact cloneK hlo hA hn (by omega) fun B H' h1 h2 => ⟨B, rfl, h1, h2⟩
theorem c74r {H : AHeap} {lo : Nat} {A : Option Addr} (hlo : lo ≤ H.next) (hA : Rd 8 eL lo H A []) :
    ACalls Try.prog 74 [.slice A 0 0] H fun r H' => ∃ B, r = .slice B 0 0 ∧ Ow 8 eL 79 H.next H' B [] ∧ Keep H.next H H' := by
  refine S74_calls ?_
  unfold S74
  exact cloneK hlo hA (by simp) (by omega) fun B H' h1 h2 => ⟨B, rfl, h1, h2⟩

/-- What is in the rows of a piece of syntax. -/
structure ExD where
  limbs : List Int
  marks : List Int
  subs : List Int
structure ExR (lo : Nat) (H : AHeap) (e : Ext) (d : ExD) : Prop where
  limbs : Rd 1 eW lo H e.limbs.1 d.limbs
  ll : e.limbs.2 = d.limbs.length
  lst : Rd 8 eL lo H e.lst []
  marks : Rd 1 eI lo H e.marks.1 d.marks
  lm : e.marks.2 = d.marks.length
  subs : Rd 1 eI lo H e.subs.1 d.subs
  ls : e.subs.2 = d.subs.length
structure ExO (lo : Nat) (H : AHeap) (e : Ext) (d : ExD) : Prop where
  limbs : Ow 1 eW 131 lo H e.limbs.1 d.limbs
  ll : e.limbs.2 = d.limbs.length
  lst : Ow 8 eL 79 lo H e.lst []
  marks : Ow 1 eI 3 lo H e.marks.1 d.marks
  lm : e.marks.2 = d.marks.length
  subs : Ow 1 eI 3 lo H e.subs.1 d.subs
  ls : e.subs.2 = d.subs.length
theorem ExR.kept {lo : Nat} {H H' : AHeap} {e : Ext} {d : ExD} (h : ExR lo H e d) (k : Keep lo H H') : ExR lo H' e d := ⟨h.limbs.kept k, h.ll, h.lst.kept k, h.marks.kept k, h.lm, h.subs.kept k, h.ls⟩
theorem ExR.up {lo lo' : Nat} {H : AHeap} {e : Ext} {d : ExD} (h : ExR lo H e d) (k : lo ≤ lo') : ExR lo' H e d := ⟨h.limbs.up k, h.ll, h.lst.up k, h.marks.up k, h.lm, h.subs.up k, h.ls⟩
theorem ExO.kept {lo : Nat} {H H' : AHeap} {e : Ext} {d : ExD} (h : ExO lo H e d) (k : Keep H.next H H') : ExO lo H' e d := ⟨h.limbs.kept k, h.ll, h.lst.kept k, h.marks.kept k, h.lm, h.subs.kept k, h.ls⟩
theorem ExO.lower {lo lo' : Nat} {H : AHeap} {e : Ext} {d : ExD} (h : ExO lo H e d) (k : lo' ≤ lo) : ExO lo' H e d := ⟨h.limbs.lower k, h.ll, h.lst.lower k, h.marks.lower k, h.lm, h.subs.lower k, h.ls⟩
theorem ExO.rd {lo : Nat} {H : AHeap} {e : Ext} {d : ExD} (h : ExO lo H e d) : ExR H.next H e d := ⟨h.limbs.rd, h.ll, h.lst.rd, h.marks.rd, h.lm, h.subs.rd, h.ls⟩
theorem ExO.keep {lo : Nat} {H H' : AHeap} {e : Ext} {d : ExD} (h : ExO lo H e d) (hn : H.next ≤ H'.next) (hk : ∀ b, lo ≤ b → b < H.next → H'.at_ b = H.at_ b) : ExO lo H' e d := ⟨h.limbs.keep hn hk, h.ll, h.lst.keep hn hk, h.marks.keep hn hk, h.lm, h.subs.keep hn hk, h.ls⟩
theorem ExR.n {lo : Nat} {H : AHeap} {e : Ext} {d : ExD} (h : ExR lo H e d) : e.n = d.limbs.length + d.marks.length + d.subs.length := by
  unfold Ext.n
  rw [h.ll, h.lm, h.ls]
theorem ExR.nil (lo : Nat) (H : AHeap) : ExR lo H Ext.nil ⟨[], [], []⟩ := ⟨Rd.nil _ _ _ _, rfl, Rd.nil _ _ _ _, Rd.nil _ _ _ _, rfl, Rd.nil _ _ _ _, rfl⟩

/-- A piece of syntax's cells. -/
abbrev eY (k : Int) (s : ByteArray) (e : Ext) : List Value := [.int .i64 k, .string s, .bool e.neg, .slice e.limbs.1 e.limbs.2 e.limbs.2, .slice e.lst 0 0, .int .i64 e.pos, .slice e.marks.1 e.marks.2 e.marks.2, .slice e.subs.1 e.subs.2 e.subs.2]

theorem c65r {H : AHeap} {lo : Nat} {e : Ext} {d : ExD} (hlo : lo ≤ H.next) (he : ExR lo H e d) (hn : e.n ≤ 1048576) (k : Int) (s : ByteArray) :
    ACalls Try.prog 65 [.agg (eY k s e).toArray] H fun r H' => ∃ e', r = .agg (eY k s e').toArray ∧ e'.neg = e.neg ∧ e'.pos = e.pos ∧ ExO H.next H' e' d ∧ Keep H.next H H' := by
  refine S65_calls ?_
  unfold S65
  have hen := he.n
  obtain ⟨G, hG⟩ : ∃ X, X = (H.alloc (.cells (eY k s e) .var 79)).alloc (.cells [(.int .i64 0), (.string ⟨#[]⟩), (.bool false), (.slice none 0 0), (.slice none 0 0), (.int .i64 0), (.slice none 0 0), (.slice none 0 0)] .var 79) := ⟨_, rfl⟩
  have hkG : Keep H.next H G := hG ▸ ((Keep.refl _ _).alloc (Nat.le_refl _) _).alloc (by simp) _
  have nG : G.next = H.next + 2 := by rw [hG]; simp
  have g1 : G.at_ H.next = .cells (eY k s e) .var 79 := by rw [hG]; simp [at_alloc]
  have g2 : G.at_ (H.next + 1) = .cells [(.int .i64 0), (.string ⟨#[]⟩), (.bool false), (.slice none 0 0), (.slice none 0 0), (.int .i64 0), (.slice none 0 0), (.slice none 0 0)] .var 79 := by rw [hG]; simp [at_alloc]
  have hv : vcells (.agg (eY k s e).toArray) = eY k s e := by simp
  have hok : (eY k s e).all okCell = true := by simp
  simp only [aBox_eq, hv, hok, true_and, aAlloc_eq, AHeap.next_alloc]
  rw [← hG]
  clear hG
  have r3 : ∀ K, K.at_ H.next = G.at_ H.next → aLdCell (.pointer (some ⟨H.next, 3, none⟩)) K = some (.slice e.limbs.1 d.limbs.length d.limbs.length) := by intro K h; rw [aLdCell_ptr, h, g1, ← he.ll]; rfl
  have r6 : ∀ K, K.at_ H.next = G.at_ H.next → aLdCell (.pointer (some ⟨H.next, 6, none⟩)) K = some (.slice e.marks.1 d.marks.length d.marks.length) := by intro K h; rw [aLdCell_ptr, h, g1, ← he.lm]; rfl
  have r7 : ∀ K, K.at_ H.next = G.at_ H.next → aLdCell (.pointer (some ⟨H.next, 7, none⟩)) K = some (.slice e.subs.1 d.subs.length d.subs.length) := by intro K h; rw [aLdCell_ptr, h, g1, ← he.ls]; rfl
  simp only [aAdd_ptr, bnd_some', Nat.zero_add, Nat.reduceAdd, r3 G rfl, r6 G rfl, r7 G rfl]
  have heG := he.kept (hkG.lower hlo)
  refine (c72r (by omega) heG.limbs (by omega)).mono fun r H2 ⟨B1, hr, hB1, hk2⟩ => ?_
  subst hr
  have t2 : H2.at_ H.next = G.at_ H.next := hk2.at_ _ (by omega)
  have n2 := hk2.next
  simp only [r6 H2 t2, r7 H2 t2, aAdd_ptr, bnd_some', Nat.zero_add, Nat.reduceAdd, true_and]
  have he2 := heG.kept (hk2.lower (by omega))
  refine (c73r (by omega) he2.marks (by omega)).mono fun r H3 ⟨B2, hr, hB2, hk3⟩ => ?_
  subst hr
  have t3 : H3.at_ H.next = G.at_ H.next := by rw [hk3.at_ _ (by omega)]; exact t2
  have n3 := hk3.next
  simp only [r7 H3 t3, bnd_some', true_and]
  have he3 := he2.kept (hk3.lower (by omega))
  refine (c73r (by omega) he3.subs (by omega)).mono fun r H4 ⟨B3, hr, hB3, hk4⟩ => ?_
  subst hr
  have n4 := hk4.next
  have t4 : H4.at_ H.next = .cells (eY k s e) .var 79 := by rw [hk4.at_ _ (by omega), t3]; exact g1
  unfold S65_54
  have st1 : aSt 1 (.pointer (some ⟨H.next, 3, none⟩)) (.slice B1 d.limbs.length d.limbs.length) H4 = some (H4.upd H.next (.cells [.int .i64 k, .string s, .bool e.neg, .slice B1 d.limbs.length d.limbs.length, .slice e.lst 0 0, .int .i64 e.pos, .slice e.marks.1 e.marks.2 e.marks.2, .slice e.subs.1 e.subs.2 e.subs.2] .var 79)) := by simp [t4]
  have st2 : ∀ K : AHeap, aSt 1 (.pointer (some ⟨H.next, 6, none⟩)) (.slice B2 d.marks.length d.marks.length) (K.upd H.next (.cells [.int .i64 k, .string s, .bool e.neg, .slice B1 d.limbs.length d.limbs.length, .slice e.lst 0 0, .int .i64 e.pos, .slice e.marks.1 e.marks.2 e.marks.2, .slice e.subs.1 e.subs.2 e.subs.2] .var 79)) = some ((K.upd H.next (.cells [.int .i64 k, .string s, .bool e.neg, .slice B1 d.limbs.length d.limbs.length, .slice e.lst 0 0, .int .i64 e.pos, .slice e.marks.1 e.marks.2 e.marks.2, .slice e.subs.1 e.subs.2 e.subs.2] .var 79)).upd H.next (.cells [.int .i64 k, .string s, .bool e.neg, .slice B1 d.limbs.length d.limbs.length, .slice e.lst 0 0, .int .i64 e.pos, .slice B2 d.marks.length d.marks.length, .slice e.subs.1 e.subs.2 e.subs.2] .var 79)) := by intro K; simp
  have st3 : ∀ K : AHeap, aSt 1 (.pointer (some ⟨H.next, 7, none⟩)) (.slice B3 d.subs.length d.subs.length) (K.upd H.next (.cells [.int .i64 k, .string s, .bool e.neg, .slice B1 d.limbs.length d.limbs.length, .slice e.lst 0 0, .int .i64 e.pos, .slice B2 d.marks.length d.marks.length, .slice e.subs.1 e.subs.2 e.subs.2] .var 79)) = some ((K.upd H.next (.cells [.int .i64 k, .string s, .bool e.neg, .slice B1 d.limbs.length d.limbs.length, .slice e.lst 0 0, .int .i64 e.pos, .slice B2 d.marks.length d.marks.length, .slice e.subs.1 e.subs.2 e.subs.2] .var 79)).upd H.next (.cells [.int .i64 k, .string s, .bool e.neg, .slice B1 d.limbs.length d.limbs.length, .slice e.lst 0 0, .int .i64 e.pos, .slice B2 d.marks.length d.marks.length, .slice B3 d.subs.length d.subs.length] .var 79)) := by intro K; simp
  simp only [st1, st2, st3, aAdd_ptr, bnd_some', Nat.zero_add]
  clear st1 st2 st3
  obtain ⟨K, hK⟩ : ∃ X, X = (((H4.upd H.next (.cells [.int .i64 k, .string s, .bool e.neg, .slice B1 d.limbs.length d.limbs.length, .slice e.lst 0 0, .int .i64 e.pos, .slice e.marks.1 e.marks.2 e.marks.2, .slice e.subs.1 e.subs.2 e.subs.2] .var 79)).upd H.next (.cells [.int .i64 k, .string s, .bool e.neg, .slice B1 d.limbs.length d.limbs.length, .slice e.lst 0 0, .int .i64 e.pos, .slice B2 d.marks.length d.marks.length, .slice e.subs.1 e.subs.2 e.subs.2] .var 79)).upd H.next (.cells [.int .i64 k, .string s, .bool e.neg, .slice B1 d.limbs.length d.limbs.length, .slice e.lst 0 0, .int .i64 e.pos, .slice B2 d.marks.length d.marks.length, .slice B3 d.subs.length d.subs.length] .var 79)) := ⟨_, rfl⟩
  rw [← hK]
  have k1 : K.at_ H.next = .cells [.int .i64 k, .string s, .bool e.neg, .slice B1 d.limbs.length d.limbs.length, .slice e.lst 0 0, .int .i64 e.pos, .slice B2 d.marks.length d.marks.length, .slice B3 d.subs.length d.subs.length] .var 79 := by rw [hK]; simp
  have kat : ∀ b, b ≠ H.next → K.at_ b = H4.at_ b := fun b hb => by rw [hK, AHeap.at_upd_ne _ _ hb, AHeap.at_upd_ne _ _ hb, AHeap.at_upd_ne _ _ hb]
  have nK : K.next = H4.next := by rw [hK]; rfl
  clear hK
  have k4 : aLdCell (.pointer (some ⟨H.next, 4, none⟩)) K = some (.slice e.lst 0 0) := by rw [aLdCell_ptr, k1]; rfl
  have hkK : Keep H.next H K := ⟨by omega, fun b hb => by rw [kat b (by omega), hk4.at_ b (by omega), hk3.at_ b (by omega), hk2.at_ b (by omega)]; exact hkG.at_ b hb⟩
  simp only [k4, bnd_some']
  refine (c74r (by omega) (he.lst.kept (hkK.lower hlo))).mono fun r H5 ⟨B4, hr, hB4, hk5⟩ => ?_
  subst hr
  have n5 := hk5.next
  have t5 : H5.at_ H.next = _ := (hk5.at_ H.next (by omega)).trans k1
  have s5 : H5.at_ (H.next + 1) = .cells [(.int .i64 0), (.string ⟨#[]⟩), (.bool false), (.slice none 0 0), (.slice none 0 0), (.int .i64 0), (.slice none 0 0), (.slice none 0 0)] .var 79 := by
    rw [hk5.at_ _ (by omega), kat _ (by omega), hk4.at_ _ (by omega), hk3.at_ _ (by omega), hk2.at_ _ (by omega)]; exact g2
  obtain ⟨e', he'⟩ : ∃ e' : Ext, e' = ⟨e.neg, (B1, d.limbs.length), B4, e.pos, (B2, d.marks.length), (B3, d.subs.length)⟩ := ⟨_, rfl⟩
  have st4 : aSt 1 (.pointer (some ⟨H.next, 4, none⟩)) (.slice B4 0 0) H5 = some (H5.upd H.next (.cells (eY k s e') .var 79)) := by rw [he']; simp [t5]
  obtain ⟨H6, hH6⟩ : ∃ X, X = H5.upd H.next (.cells (eY k s e') .var 79) := ⟨_, rfl⟩
  rw [← hH6] at st4
  have at6 : ∀ b, b ≠ H.next → H6.at_ b = H5.at_ b := fun b hb => by rw [hH6, AHeap.at_upd_ne _ _ hb]
  have n6 : H6.next = H5.next := by rw [hH6]; rfl
  have t6 : H6.at_ H.next = .cells (eY k s e') .var 79 := by rw [hH6]; simp
  have k6 : Keep H.next H H6 := by rw [hH6]; exact (hkK.trans (hk5.lower (by omega))).upd (Nat.le_refl _) _
  clear hH6
  have l4 : aLdCell (.pointer (some ⟨H.next, 4, none⟩)) H6 = some (.slice B4 0 0) := by rw [aLdCell_ptr, t6, he']; rfl
  simp only [st4, l4, aAdd_ptr, bnd_some', Nat.zero_add, aLenSl_slice]
  have s6 : H6.at_ (H.next + 1) = .cells [(.int .i64 0), (.string ⟨#[]⟩), (.bool false), (.slice none 0 0), (.slice none 0 0), (.int .i64 0), (.slice none 0 0), (.slice none 0 0)] .var 79 := (at6 _ (by omega)).trans s5
  have hrow : ExO H.next H6 e' d := by
    have a1 : Ow 1 eW 131 H.next H6 B1 d.limbs := by
      have h1 : Ow 1 eW 131 G.next H4 B1 d.limbs := (hB1.kept hk3).kept hk4
      have h2 : Ow 1 eW 131 G.next K B1 d.limbs := h1.keep (by omega) fun b hb _ => kat b (by omega)
      have h3 : Ow 1 eW 131 G.next H6 B1 d.limbs := (h2.kept hk5).keep (by omega) fun b hb _ => at6 b (by omega)
      exact h3.lower (by omega)
    have a2 : Ow 1 eI 3 H.next H6 B2 d.marks := by
      have h1 : Ow 1 eI 3 H2.next H4 B2 d.marks := hB2.kept hk4
      have h2 : Ow 1 eI 3 H2.next K B2 d.marks := h1.keep (by omega) fun b hb _ => kat b (by omega)
      have h3 : Ow 1 eI 3 H2.next H6 B2 d.marks := (h2.kept hk5).keep (by omega) fun b hb _ => at6 b (by omega)
      exact h3.lower (by omega)
    have a3 : Ow 1 eI 3 H.next H6 B3 d.subs := by
      have h2 : Ow 1 eI 3 H3.next K B3 d.subs := hB3.keep (by omega) fun b hb _ => kat b (by omega)
      have h3 : Ow 1 eI 3 H3.next H6 B3 d.subs := (h2.kept hk5).keep (by omega) fun b hb _ => at6 b (by omega)
      exact h3.lower (by omega)
    have a4 : Ow 8 eL 79 H.next H6 B4 [] := by
      have h3 : Ow 8 eL 79 K.next H6 B4 [] := hB4.keep (by omega) fun b hb _ => at6 b (by omega)
      exact h3.lower (by omega)
    rw [he']
    exact ⟨a1, rfl, a4, a2, rfl, a3, rfl⟩
  refine aLoop_st 0 (fun i => [.int .i64 0]) (fun i H' => H' = H6) rfl rfl ?_
  rintro i H' again hi rfl ha
  unfold S65_53
  have la : aLdAgg 8 (Pt H.next) H' = some (.agg (eY k s e').toArray) := by simp [t6]
  have sa : aSt 8 (Pt (H.next + 1)) (.agg (eY k s e').toArray) H' = some (H'.upd (H.next + 1) (.cells (eY k s e') .var 79)) := by simp [s6]
  have lb : aLdAgg 8 (Pt (H.next + 1)) (H'.upd (H.next + 1) (.cells (eY k s e') .var 79)) = some (.agg (eY k s e').toArray) := by simp
  simp only [nth_zero, aBin_lss, bnd_some', Int.natCast_zero, Int.lt_irrefl, decide_false, aCond_false, la, sa, lb]
  refine ⟨e', rfl, by rw [he'], by rw [he'], ?_, k6.upd (by omega) _⟩
  have nb : ∀ {α : Type} {n : Nat} {enc : α → List Value} {t : TypeId} {lo : Nat} {A : Option Addr} {xs : List α}, Ow n enc t lo H' A xs → Ow n enc t lo (H'.upd (H.next + 1) (.cells (eY k s e') .var 79)) A xs := by
    intro α n enc t lo A xs hO
    refine hO.at (Nat.le_refl _) fun a ha => AHeap.at_upd_ne _ _ ?_
    intro eb
    obtain ⟨_, _, _, cs, hcs⟩ := hO.blkOf ha
    rw [eb, s6] at hcs
    cases hcs
  exact ⟨nb hrow.limbs, hrow.ll, nb hrow.lst, nb hrow.marks, hrow.lm, nb hrow.subs, hrow.ls⟩
end Go.Proofs.Ytngldjajfpbmbaa.A

set_option linter.unusedVariables false
set_option linter.unusedSimpArgs false
namespace Go.Proofs.Ytngldjajfpbmbaa.A
open Go Go.Abs

theorem StX.put' {H H' : AHeap} {p : Nat} {m : Sm} {F : Nat → Prop} {A : Option Addr} {os : List (Option Addr)} {NA : Option Addr} {mb : Nat} (h : StX H p m F A os NA mb) {o : Ob} {a : Option Addr}
    (ho : Ow 2 eV 28 0 H a o.slots) (hf : ∀ x, a = some x → ¬ F x.block) (hn : H.next ≤ H'.next) (hat : ∀ b, b < H.next → b ≠ p → (∀ x, A = some x → x.block ≠ b) → H'.at_ b = H.at_ b) {N : Nat} {u : Int} (hN : H.next ≤ N) (hN' : N < H'.next)
    (hp : H'.at_ p = .cells [.int .i64 m.lim, .int .i64 u, .slice (some ⟨N, 0, none⟩) (m.objs.length + 1) (m.objs.length + 1), .slice NA m.names.length m.names.length, .map (some mb)] .var 88)
    (hO : Ow 10 encO 94 0 H' (some ⟨N, 0, none⟩) (m.objs.zip os ++ [(o, a)])) : St H' p ⟨m.lim, u, m.objs ++ [o], m.names⟩ (fun b => F b ∨ (∃ x, a = some x ∧ x.block = b) ∨ b = N) := by
  have hrow : ∀ (cs : List Value) (n : Nat) (t : TypeId) (b : Nat), H.at_ b = .cells cs (.row n) t → n ≠ 10 → b ≠ p ∧ ∀ x, A = some x → x.block ≠ b := by
    intro cs n t b hb hn10
    refine ⟨?_, ?_⟩
    · rintro rfl
      rw [h.hp] at hb
      cases hb
    · rintro x rfl e
      rcases h.objs.2 with ⟨h1, _⟩ | ⟨c, ds, h1, _, _, h2, _⟩
      · cases h1
      · cases h1
        rw [← e, h2] at hb
        cases hb
        exact hn10 rfl
  have hlen := h.len
  have hlta : ∀ x, a = some x → x.block < H.next := by
    rintro x rfl
    rcases ho.2 with ⟨h1, _⟩ | ⟨c, ds, h1, _, h3, _⟩
    · cases h1
    · cases h1; exact h3
  have hrow2 : ∀ {b : Option Addr} {xs : List V}, Ow 2 eV 28 0 H b xs → Ow 2 eV 28 0 H' b xs := by
    intro b xs hb
    refine hb.at hn ?_
    rintro x rfl
    rcases hb.2 with ⟨h1, _⟩ | ⟨c, ds, h1, _, h3, h4, _⟩
    · cases h1
    · cases h1
      have := hrow _ _ _ _ h4 (by omega)
      exact hat _ h3 this.1 this.2
  refine ⟨some ⟨N, 0, none⟩, os ++ [a], NA, mb, ?_⟩
  refine ⟨by simp [hlen], ?_, ?_, ?_, ?_, ?_, ?_, .inl h.fp, ?_, ?_, ?_, .inl h.fm, ?_⟩
  · simpa using hp
  · have e : (m.objs ++ [o]).zip (os ++ [a]) = m.objs.zip os ++ [(o, a)] := by rw [List.zip_append hlen.symm]; rfl
    rw [e]; exact hO
  · intro i o' a' h1 h2
    dsimp only at h1
    rw [List.getElem?_append] at h1 h2
    rw [hlen] at h2
    split at h1
    · rename_i hi
      rw [if_pos hi] at h2
      exact hrow2 (h.slots i o' a' h1 h2)
    · rename_i hi
      rw [if_neg hi] at h2
      cases hi' : i - m.objs.length with
      | zero => rw [hi'] at h1 h2; simp at h1 h2; subst h1; subst h2; exact hrow2 ho
      | succ k => rw [hi'] at h1; simp at h1
  · have key : ∀ (i : Nat) (x : Addr), (os ++ [a])[i]? = some (some x) → (i < os.length ∧ os[i]? = some (some x)) ∨ (i = os.length ∧ a = some x) := by
      intro i x hx
      rw [List.getElem?_append] at hx
      split at hx
      · rename_i hi; exact .inl ⟨hi, hx⟩
      · rename_i hi
        cases hi' : i - os.length with
        | zero => rw [hi'] at hx; simp at hx; exact .inr ⟨by omega, hx⟩
        | succ k => rw [hi'] at hx; simp at hx
    intro i j x y hx hy hxy
    rcases key i x hx with ⟨h1, h2⟩ | ⟨h1, h2⟩ <;> rcases key j y hy with ⟨h3, h4⟩ | ⟨h3, h4⟩
    · exact h.dist i j x y h2 h4 hxy
    · exact absurd (hxy ▸ h.fo i x h2) (hf y h4)
    · exact absurd (hxy.symm ▸ h.fo j y h4) (hf x h2)
    · omega
  · refine h.names.at hn ?_
    rintro x rfl
    rcases h.names.2 with ⟨h1, _⟩ | ⟨c, ds, h1, _, h3, h4, _⟩
    · cases h1
    · cases h1
      have := hrow _ _ _ _ h4 (by omega)
      exact hat _ h3 this.1 this.2
  · rw [hat mb (h.lt _ h.fm) ?_ ?_]
    · exact h.map
    · rintro rfl
      have := h.map
      rw [h.hp] at this
      cases this
    · rintro x rfl e
      rcases h.objs.2 with ⟨h1, _⟩ | ⟨c, ds, h1, _, _, h2, _⟩
      · cases h1
      · cases h1
        have := h.map
        rw [← e, h2] at this
        cases this
  · intro x hx
    cases hx
    exact .inr (.inr rfl)
  · intro i x hx
    rw [List.getElem?_append] at hx
    split at hx
    · exact .inl (h.fo i x hx)
    · rename_i hi
      cases hi' : i - os.length with
      | zero => rw [hi'] at hx; simp at hx; exact .inr (.inl ⟨x, hx, rfl⟩)
      | succ k => rw [hi'] at hx; simp at hx
  · intro x hx; exact .inl (h.fN x hx)
  · rintro b (hb | ⟨x, hx, rfl⟩ | rfl)
    · exact Nat.lt_of_lt_of_le (h.lt b hb) hn
    · exact Nat.lt_of_lt_of_le (hlta x hx) hn
    · exact hN'

/-- Clone, of texts. -/
theorem c64 {H : AHeap} {lo : Nat} {A : Option Addr} {xs : List ByteArray} (hlo : lo ≤ H.next) (hA : Rd 1 eS lo H A xs) (hn : xs.length ≤ 2097152) :
    ACalls Try.prog 64 [.slice A xs.length xs.length] H fun r H' => ∃ B, r = .slice B xs.length xs.length ∧ Ow 1 eS 9 H.next H' B xs ∧ Keep H.next H H' := by
  refine S64_calls ?_
  unfold S64
  cases A with
  | none =>
    have : xs = [] := by
      rcases hA.2 with ⟨_, h⟩ | ⟨b, o, cs, k, t, h, _⟩
      · exact h
      · cases h
    subst this
    simp
    exact Ow.nil _ _ _ _ _
  | some a =>
    have ha : ∃ b o, a = ⟨b, o, none⟩ := by
      rcases hA.2 with ⟨h, _⟩ | ⟨b, o, cs, k, t, h, _⟩
      · cases h
      · cases h; exact ⟨b, o, rfl⟩
    have hO : Ow 1 eS 9 H.next (H.alloc (.cells [] (.row 1) 9)) (some ⟨H.next, 0, none⟩) [] := Ow.new H [] (by simp) rfl
    have fin := hO.append (bytes := 16) (c := 0) (c' := xs.length) (hA.alloc hlo (.cells [] (.row 1) 9)) (by simp) (by simp only [maxLen, List.length_nil]; omega) (by simp only [List.length_nil]; omega) (K := fun t7_3 H_4 => ∃ B, t7_3 = Value.slice B xs.length xs.length ∧ Ow 1 eS 9 H.next H_4 B xs ∧ Keep H.next H H_4) fun H' h1 h2 h3 h4 => by
      refine ⟨_, rfl, by simpa using h1, ?_⟩
      exact ((Keep.refl _ _).alloc (Nat.le_refl _) _).trans h4
    obtain ⟨b, o, rfl⟩ := ha
    by_cases hx : xs.length = 0
    · have hx' : xs = [] := List.eq_nil_of_length_eq_zero hx
      subst hx'
      simp only [List.length_nil]
      rw [aSlEq_emp]
      refine ⟨?_, ?_⟩
      · simp
        exact Ow.nil _ _ _ _ _
      · simp only [List.length_nil] at fin
        simpa using fin
    · rw [aSlEq_some _ _ hx]
      simpa using fin

theorem nodup_take {ns : List ByteArray} (h : ns.Nodup) {i : Nat} (hi : i < ns.length) : (ns.take i).findIdx? (fun t => decide (ns[i] = t)) = none := by
  rw [List.findIdx?_eq_none_iff]
  intro t ht
  obtain ⟨j, hj, rfl⟩ := List.getElem_of_mem ht
  simp at hj
  rw [List.getElem_take]
  have : ns[i] ≠ ns[j] := fun e => by
    exact (List.pairwise_iff_getElem.1 h) j i (by omega) hi (by omega) e.symm
  simp [this]


/-- A piece of syntax's rows are not the store's. -/
def Out (F : Nat → Prop) (e : Ext) : Prop := ∀ a, (e.limbs.1 = some a ∨ e.lst = some a ∨ e.marks.1 = some a ∨ e.subs.1 = some a) → ¬ F a.block
theorem ExO.blk {lo : Nat} {H : AHeap} {e : Ext} {d : ExD} (h : ExO lo H e d) {a : Addr} (ha : e.limbs.1 = some a ∨ e.lst = some a ∨ e.marks.1 = some a ∨ e.subs.1 = some a) : lo ≤ a.block ∧ a.block < H.next := by
  rcases ha with ha | ha | ha | ha
  · have := h.limbs.blkOf ha; exact ⟨this.2.1, this.2.2.1⟩
  · have := h.lst.blkOf ha; exact ⟨this.2.1, this.2.2.1⟩
  · have := h.marks.blkOf ha; exact ⟨this.2.1, this.2.2.1⟩
  · have := h.subs.blkOf ha; exact ⟨this.2.1, this.2.2.1⟩
theorem ExO.at {lo : Nat} {H H' : AHeap} {e : Ext} {d : ExD} (h : ExO lo H e d) (hn : H.next ≤ H'.next) (hk : ∀ a, (e.limbs.1 = some a ∨ e.lst = some a ∨ e.marks.1 = some a ∨ e.subs.1 = some a) → H'.at_ a.block = H.at_ a.block) : ExO lo H' e d :=
  ⟨h.limbs.at hn fun a ha => hk a (.inl ha), h.ll, h.lst.at hn fun a ha => hk a (.inr (.inl ha)), h.marks.at hn fun a ha => hk a (.inr (.inr (.inl ha))), h.lm, h.subs.at hn fun a ha => hk a (.inr (.inr (.inr ha))), h.ls⟩
theorem ExO.fr {lo : Nat} {H H' : AHeap} {F F' : Nat → Prop} {e : Ext} {d : ExD} (h : ExO lo H e d) (ho : Out F e) (k : Fr F H F' H') : ExO lo H' e d ∧ Out F' e := by
  refine ⟨h.at k.next fun a ha => k.at_ _ (h.blk ha).2 (ho a ha), fun a ha hf => ?_⟩
  rcases k.new _ hf with hf | hf
  · exact ho a ha hf
  · have := (h.blk ha).2; omega
theorem ExO.n {lo : Nat} {H : AHeap} {e : Ext} {d : ExD} (h : ExO lo H e d) : e.n = d.limbs.length + d.marks.length + d.subs.length := by
  unfold Ext.n
  rw [h.ll, h.lm, h.ls]

theorem c34r {H : AHeap} {p : Nat} {m : Sm} {F : Nat → Prop} (h : St H p m F) (hI : Inv m) (k : Int) (s : ByteArray) {lo : Nat} {e : Ext} {d : ExD} (hlo : lo ≤ H.next) (he : ExR lo H e d) (hfit : 2 + ((d.limbs.length + d.marks.length + d.subs.length : Nat) : Int) ≤ m.lim - m.used) :
    ACalls Try.prog 34 [Pt p, .agg (eY k s e).toArray] H fun r H' => ∃ e' F', r = .tuple #[vV (7, (m.objs.length : Int)), .int .i64 0] ∧ ExO H.next H' e' d ∧ Out F' e' ∧ St H' p (m.put ⟨10, [], k, s, e'⟩) F' ∧ Fr F H F' H' := by
  refine S34_calls ?_
  unfold S34
  have hk2 : ∀ x y, Keep H.next H ((H.alloc x).alloc y) := fun x y => ((Keep.refl _ _).alloc (Nat.le_refl _) _).alloc (by simp) _
  have hen := he.n
  have hlim := hI.lim
  have hsum := hI.sum
  obtain ⟨G, hG⟩ : ∃ X, X = (H.alloc (.cells (eY k s e) .var 79)).alloc (.cells [.int .i64 0, .int .i64 0] .var 28) := ⟨_, rfl⟩
  have hkG : Keep H.next H G := hG ▸ hk2 _ _
  have nG : G.next = H.next + 2 := by rw [hG]; simp
  have g0 : G.at_ H.next = .cells (eY k s e) .var 79 := by rw [hG]; simp [at_alloc]
  have g1 : G.at_ (H.next + 1) = .cells [.int .i64 0, .int .i64 0] .var 28 := by rw [hG]; simp [at_alloc]
  have hv : vcells (.agg (eY k s e).toArray) = eY k s e := by simp
  have hok : (eY k s e).all okCell = true := by simp
  simp only [aBox_eq, hv, hok, true_and, aAlloc_eq, AHeap.next_alloc, eqPtr, bnd_some', aCond_false]
  rw [← hG]
  clear hG
  have la : aLdAgg 8 (Pt H.next) G = some (.agg (eY k s e).toArray) := by simp [g0]
  simp only [la, bnd_some']
  refine (c65r (by omega) (he.kept (hkG.lower hlo)) (by omega) k s).mono fun r H2 ⟨e', hr, _, _, hO, hk2⟩ => ?_
  subst hr
  have n2 := hk2.next
  unfold S34_18
  have fx : aFill [(.int .i64 0), (.slice none 0 0), (.int .i64 0), (.string ⟨#[]⟩), (.bool false), (.slice none 0 0), (.slice none 0 0), (.int .i64 0), (.slice none 0 0), (.slice none 0 0)] [(0, 1, (.int .i64 10)), (2, 8, .agg (eY k s e').toArray)] = some (encO (⟨10, [], k, s, e'⟩, none)) := by simp [aFill, encO]
  simp only [fx, bnd_some']
  have hkH2 : Keep H.next H H2 := hkG.trans (hk2.lower (by omega))
  have hen' := hO.n
  have ec : (⟨10, [], k, s, e'⟩ : Ob).cells = 2 + e'.n := rfl
  refine (c41 (h.kept hkH2) hI (o := ⟨10, [], k, s, e'⟩) (a := none) (Ow.nil _ _ _ _ _) (fun x hx => by cases hx) (by simp) (by show e'.n ≤ 1048576; omega)).mono fun r H4 hr => ?_
  rw [if_neg (by rw [ec]; omega)] at hr
  obtain ⟨rfl, hn4, hat, F', hS, hF'⟩ := hr
  have g : ¬ F (H.next + 1) := fun hF => by have := h.lt _ hF; omega
  have e5 : H4.at_ (H.next + 1) = .cells [.int .i64 0, .int .i64 0] .var 28 := by rw [hat _ (by omega) g, hk2.at_ _ (by omega)]; exact g1
  have ex0 : ∀ a b : Value, aExtract (.tuple #[a, b]) 0 = some a := fun _ _ => rfl
  have ex1 : ∀ a b : Value, aExtract (.tuple #[a, b]) 1 = some b := fun _ _ => rfl
  have st : aSt 2 (Pt (H.next + 1)) (vV (7, (m.objs.length : Int))) H4 = some (H4.upd (H.next + 1) (.cells (eV (7, (m.objs.length : Int))) .var 28)) := by simp [e5]
  have ld : aLdAgg 2 (Pt (H.next + 1)) (H4.upd (H.next + 1) (.cells (eV (7, (m.objs.length : Int))) .var 28)) = some (vV (7, (m.objs.length : Int))) := by simp
  simp only [ex0, ex1, bnd_some', st, ld]
  have hfr : Fr F H2 F' H4 := ⟨hn4, hat, fun b hb => by
    rcases hF' b hb with h1 | ⟨x, hx, _⟩ | h1
    · exact .inl h1
    · cases hx
    · exact .inr h1⟩
  have hout : Out F e' := fun a ha hf => by
    have := h.lt _ hf
    have := (hO.blk ha).1
    omega
  obtain ⟨hO4, hout4⟩ := hO.fr hout hfr
  have g' : ¬ F' (H.next + 1) := fun hF => by
    rcases hfr.new _ hF with h1 | h1
    · exact g h1
    · omega
  refine ⟨e', F', trivial, ?_, hout4, hS.frame (Nat.le_refl _) fun b hb => AHeap.at_upd_ne _ _ (by rintro rfl; exact g' hb), ⟨by simp; omega, fun b hb hF => ?_, fun b hb => ?_⟩⟩
  · refine (hO4.lower (by omega)).at (Nat.le_refl _) fun a ha => AHeap.at_upd_ne _ _ ?_
    have := (hO.blk ha).1
    omega
  · rw [AHeap.at_upd_ne _ _ (by omega), hat b (by omega) hF]; exact hkH2.at_ b hb
  · rcases hfr.new b hb with h1 | h1
    · exact .inl h1
    · exact .inr (by omega)

theorem c35r {H : AHeap} {p : Nat} {m : Sm} {F : Nat → Prop} (h : St H p m F) {v : V} (hr : okRef m v = true) (hk : (m.ob v).kind = 10) {lo : Nat} {d : ExD} (hlo : lo ≤ H.next) (he : ExR lo H (m.ob v).ex d) (hen : (m.ob v).ex.n ≤ 1048576) :
    ACalls Try.prog 35 [Pt p, vV v] H fun r H' => ∃ e', r = .tuple #[.agg (eY (m.ob v).sk (m.ob v).text e').toArray, .int .i64 0] ∧ ExO H.next H' e' d ∧ Keep H.next H H' := by
  refine S35_calls ?_
  obtain ⟨A, os, NA, mb, hX⟩ := id h
  unfold S35
  obtain ⟨G, hG⟩ : ∃ X, X = (H.alloc (.cells (eV v) .var 28)).alloc (.cells [.int .i64 0, .string ⟨#[]⟩, .bool false, .slice none 0 0, .slice none 0 0, .int .i64 0, .slice none 0 0, .slice none 0 0] .var 79) := ⟨_, rfl⟩
  have hkG : Keep H.next H G := hG ▸ ((Keep.refl _ _).alloc (Nat.le_refl _) _).alloc (by simp) _
  have hnG : G.next = H.next + 2 := by rw [hG]; simp
  have g0 : G.at_ H.next = .cells (eV v) .var 28 := by rw [hG]; simp [at_alloc]
  have g1 : G.at_ (H.next + 1) = .cells [.int .i64 0, .string ⟨#[]⟩, .bool false, .slice none 0 0, .slice none 0 0, .int .i64 0, .slice none 0 0, .slice none 0 0] .var 79 := by rw [hG]; simp [at_alloc]
  have hv : vcells (vV v) = eV v := by simp
  have hok : (eV v).all okCell = true := by simp
  simp only [aBox_eq, hv, hok, true_and, aAlloc_eq, AHeap.next_alloc, eqPtr, bnd_some', aCond_false]
  rw [← hG]
  clear hG
  have hXG : StX G p m F A os NA mb := hX.frame hkG.next fun b hb => hkG.at_ b (hX.lt b hb)
  have lv : aLdAgg 2 (Pt H.next) G = some (vV v) := by simp [g0]
  simp only [lv, bnd_some']
  refine (c62 hXG v).use ?_
  unfold S35_50
  obtain ⟨a, b, cs, ho, ha, hs, hb, hat, hl, hc, hsl⟩ := hXG.look hr
  have l0 : aLdCell (.pointer (some ⟨b, v.2.toNat * 10, none⟩)) G = some (.int .i64 (m.ob v).kind) := by
    have := hc 0 (by omega)
    simp [encO] at this
    simp [hat, this]
  have l2 : aLdAgg 8 (.pointer (some ⟨b, v.2.toNat * 10 + 2, none⟩)) G = some (.agg (eY (m.ob v).sk (m.ob v).text (m.ob v).ex).toArray) := by
    have e : (cs.drop (v.2.toNat * 10 + 2)).take 8 = eY (m.ob v).sk (m.ob v).text (m.ob v).ex := by
      refine List.ext_getElem? fun i => ?_
      rw [List.getElem?_take]
      split
      · rename_i hi
        rw [List.getElem?_drop, Nat.add_assoc, hc (2 + i) (by omega)]
        rw [show encO (m.ob v, a) = [.int .i64 (m.ob v).kind, .slice a (m.ob v).slots.length (m.ob v).slots.length] ++ eY (m.ob v).sk (m.ob v).text (m.ob v).ex from rfl]
        rw [List.getElem?_append_right (by simp)]
        simp
      · rename_i hi
        rw [List.getElem?_eq_none (by simp; omega)]
    rw [aLdAgg_ptr, hat, blkAgg_cells, if_pos (by omega), e]
  simp [hr, hs, l0, hk, -aLdCell_ptr]
  unfold S35_49
  simp only [hs, aNilCheck_ptr, bnd_some', aAdd_ptr, l2]
  refine (c65r (by omega) (he.kept (hkG.lower hlo)) hen _ _).mono fun r H2 ⟨e', hr2, _, _, hO, hk2⟩ => ?_
  subst hr2
  have n2 := hk2.next
  have e5 : H2.at_ (H.next + 1) = .cells [.int .i64 0, .string ⟨#[]⟩, .bool false, .slice none 0 0, .slice none 0 0, .int .i64 0, .slice none 0 0, .slice none 0 0] .var 79 := by rw [hk2.at_ _ (by omega)]; exact g1
  have st : aSt 8 (Pt (H.next + 1)) (.agg (eY (m.ob v).sk (m.ob v).text e').toArray) H2 = some (H2.upd (H.next + 1) (.cells (eY (m.ob v).sk (m.ob v).text e') .var 79)) := by simp [e5]
  have ld : aLdAgg 8 (Pt (H.next + 1)) (H2.upd (H.next + 1) (.cells (eY (m.ob v).sk (m.ob v).text e') .var 79)) = some (.agg (eY (m.ob v).sk (m.ob v).text e').toArray) := by simp
  simp only [st, ld, bnd_some']
  refine ⟨e', rfl, ?_, (hkG.trans (hk2.lower (by omega))).upd (by omega) _⟩
  refine (hO.lower (by omega)).at (Nat.le_refl _) fun a ha => AHeap.at_upd_ne _ _ ?_
  have := (hO.blk ha).1
  omega
end Go.Proofs.Ytngldjajfpbmbaa.A

set_option linter.unusedVariables false
set_option linter.unusedSimpArgs false
namespace Go.Proofs.Ytngldjajfpbmbaa.A
open Go Go.Abs

/-- The first objects, copied. -/
structure Cps (H0 H : AHeap) (q : Nat) (m : Sm) (ds : Nat → ExD) (i : Nat) (os' : List Ob) (F' : Nat → Prop) : Prop where
  keep : Keep H0.next H0 H
  st : St H q ⟨m.lim, m.used, os', m.names⟩ F'
  hi : ∀ b, F' b → H0.next ≤ b
  len : os'.length = i
  ob : ∀ (j : Nat) (o o' : Ob), m.objs[j]? = some o → os'[j]? = some o' → o'.kind = o.kind ∧ o'.slots = o.slots ∧ o'.sk = o.sk ∧ o'.text = o.text ∧ ExO H0.next H o'.ex (ds j) ∧ Out F' o'.ex

theorem l32_74r {H0 H : AHeap} {p q : Nat} {m : Sm} {F F2 : Nat → Prop} {A : Option Addr} {os : List (Option Addr)} {NA : Option Addr} {mb : Nat} (hX0 : StX H0 p m F A os NA mb) (hI : Inv m) (hV : Vd m) {ds : Nat → ExD} (hds : ∀ i o, m.objs[i]? = some o → ExR H0.next H0 o.ex (ds i) ∧ o.ex.n ≤ 1048576) {i : Nat} (hi : i < m.objs.length) {os' : List Ob} (hC : Cps H0 H q m ds i os' F2) {again : List Value → AHeap → Prop}
    (ha : ∀ H' F' os'', Cps H0 H' q m ds (i + 1) os'' F' → again [.int .i64 ((i + 1 : Nat) : Int)] H') :
    S32_74 (Pt q) (.slice A m.objs.length m.objs.length) [.int .i64 i] H again := by
  unfold S32_74
  have hk := hC.keep
  have hF2 := hC.hi
  have hX : StX H p m F A os NA mb := hX0.frame hk.next fun b hb => hk.at_ b (hX0.lt b hb)
  obtain ⟨o, ho⟩ : ∃ o, m.objs[i]? = some o := ⟨_, List.getElem?_eq_getElem hi⟩
  obtain ⟨a, hao⟩ : ∃ a, os[i]? = some a := ⟨_, List.getElem?_eq_getElem (by rw [hX.len]; exact hi)⟩
  have hol := slots_le hI hV o (List.mem_of_getElem? ho)
  have hlen := hI.len
  obtain ⟨hoe, hoen⟩ := hds i o ho
  have i1 := hX.idx (k := .i64) (j := (i : Int)) (c := m.objs.length) (by omega) (by omega)
  rw [Int.toNat_natCast] at i1
  have hlt2 : i < (m.objs.zip os).length := by rw [hX.zlen]; exact hi
  have l1 := hX.objs.rd.agg hlt2
  have ez : (m.objs.zip os)[i] = (o, a) := by
    have := zip_at ho hao
    rw [List.getElem?_eq_getElem hlt2] at this
    exact Option.some.inj this
  rw [ez] at l1
  simp only [nth_zero, i1, l1, bnd_some', aAlloc_eq]
  have st : aSt 10 (Pt H.next) (.agg (encO (o, a)).toArray) (H.alloc (.cells [(.int .i64 0), (.slice none 0 0), (.int .i64 0), (.string ⟨#[]⟩), (.bool false), (.slice none 0 0), (.slice none 0 0), (.int .i64 0), (.slice none 0 0), (.slice none 0 0)] .var 94)) = some ((H.alloc (.cells [(.int .i64 0), (.slice none 0 0), (.int .i64 0), (.string ⟨#[]⟩), (.bool false), (.slice none 0 0), (.slice none 0 0), (.int .i64 0), (.slice none 0 0), (.slice none 0 0)] .var 94)).upd H.next (.cells (encO (o, a)) .var 94)) := by simp [encO]
  simp only [st, bnd_some']
  obtain ⟨G, hG⟩ : ∃ X, X = (H.alloc (.cells [(.int .i64 0), (.slice none 0 0), (.int .i64 0), (.string ⟨#[]⟩), (.bool false), (.slice none 0 0), (.slice none 0 0), (.int .i64 0), (.slice none 0 0), (.slice none 0 0)] .var 94)).upd H.next (.cells (encO (o, a)) .var 94) := ⟨_, rfl⟩
  rw [← hG]
  have hkG : Keep H.next H G := hG ▸ ((Keep.refl _ _).alloc (Nat.le_refl _) _).upd (Nat.le_refl _) _
  have g7 : G.at_ H.next = .cells (encO (o, a)) .var 94 := by rw [hG]; simp
  have nG : G.next = H.next + 1 := by rw [hG]; simp
  clear hG st l1 i1
  obtain ⟨A2, os2, NA2, mb2, hX2⟩ := hC.st.kept hkG
  have hkHG : Keep H0.next H0 G := hk.trans (hkG.lower hk.next)
  have hn0 := hkHG.next
  have hn00 := hk.next
  have hXG : StX G p m F A os NA mb := hX0.frame hkHG.next fun b hb => hkHG.at_ b (hX0.lt b hb)
  have cl : os'.length = i := hC.len
  have e56 : ∀ H', H'.at_ q = G.at_ q → aLdCell (.pointer (some ⟨q, 2, none⟩)) H' = some (.slice A2 i i) := by
    intro H' h
    rw [aLdCell_ptr, h, hX2.hp]
    simp [cl]
  have e58 : ∀ H', H'.at_ H.next = G.at_ H.next → aLdCell (.pointer (some ⟨H.next, 0, none⟩)) H' = some (.int .i64 o.kind) := by
    intro H' h
    rw [aLdCell_ptr, h, g7]
    simp [encO]
  have e60 : aLdCell (.pointer (some ⟨H.next, 1, none⟩)) G = some (.slice a o.slots.length o.slots.length) := by
    rw [aLdCell_ptr, g7]
    simp [encO]
  have e63 : ∀ H', H'.at_ H.next = G.at_ H.next → aLdAgg 8 (.pointer (some ⟨H.next, 2, none⟩)) H' = some (.agg (eY o.sk o.text o.ex).toArray) := by
    intro H' h
    rw [aLdAgg_ptr, h, g7]
    simp [encO]
  simp only [aNilCheck_ptr, bnd_some', aAdd_ptr, Nat.zero_add, e56 G rfl, e58 G rfl, e60, e63 G rfl]
  have hOs := hXG.slots i o a ho hao
  refine (c42 (Nat.le_refl _) hOs.rd (by omega) (by simp)).mono fun r H2 ⟨B, hr, hB, hk2⟩ => ?_
  subst hr
  have q2 : H2.at_ q = G.at_ q := hk2.at_ _ (hX2.lt _ hX2.fp)
  have t2 : H2.at_ H.next = G.at_ H.next := hk2.at_ _ (by omega)
  have n2 := hk2.next
  simp only [e56 H2 q2, e58 H2 t2, e63 H2 t2, bnd_some', true_and]
  have hkH2 : Keep H0.next H0 H2 := hkHG.trans (hk2.lower hn0)
  refine (c65r (by omega) (hoe.kept hkH2) hoen o.sk o.text).mono fun r H3 ⟨e', hr, _, _, hO, hk3⟩ => ?_
  subst hr
  have n3 := hk3.next
  have q3 : H3.at_ q = G.at_ q := by rw [hk3.at_ _ (by have := hX2.lt _ hX2.fp; omega)]; exact q2
  have t3 : H3.at_ H.next = G.at_ H.next := by rw [hk3.at_ _ (by omega)]; exact t2
  unfold S32_70
  have fx : aFill [(.int .i64 0), (.slice none 0 0), (.int .i64 0), (.string ⟨#[]⟩), (.bool false), (.slice none 0 0), (.slice none 0 0), (.int .i64 0), (.slice none 0 0), (.slice none 0 0)] [(0, 1, .int .i64 o.kind), (1, 1, .slice B o.slots.length o.slots.length), (2, 8, .agg (eY o.sk o.text e').toArray)] = some (encO (⟨o.kind, o.slots, o.sk, o.text, e'⟩, B)) := by simp [aFill, encO]
  simp only [e56 H3 q3, e58 H3 t3, bnd_some', true_and, fx, aBuildSlice_eq]
  obtain ⟨o', ho'⟩ : ∃ o' : Ob, o' = ⟨o.kind, o.slots, o.sk, o.text, e'⟩ := ⟨_, rfl⟩
  rw [← ho']
  have hX3 : StX H3 q ⟨m.lim, m.used, os', m.names⟩ F2 A2 os2 NA2 mb2 := hX2.frame (by omega) fun b hb => by
    have := hX2.lt b hb
    rw [hk3.at_ b (by omega), hk2.at_ b this]
  have hB3 : Ow 2 eV 28 G.next H3 B o.slots := hB.kept hk3
  have hR : Rd 10 encO (H3.next + 1) (H3.alloc (.cells (encO (o', B)) (.row 10) 94)) (some ⟨H3.next, 0, none⟩) [(o', B)] := Rd.mk' (by simp [encO]) (by omega) (AHeap.at_alloc_new _ _) (by simp) (by simp) (by simp [encO])
  have hz := hX3.zlen
  dsimp only at hz
  rw [cl] at hz
  have hA2p : ∀ x, A2 = some x → x.block ≠ q := by
    rintro x hx e
    obtain ⟨_, _, _, ds, hds⟩ := hX3.objs.blkOf hx
    rw [e, hX3.hp] at hds
    cases hds
  have := (hX3.objs.alloc (.cells (encO (o', B)) (.row 10) 94)).append (bytes := 168) (c := i) (c' := 1) (K := fun t H_63 => bnd (aSt 1 (.pointer (some ⟨q, 2, none⟩)) t H_63) fun H_66 => bnd (aBin .add .no (.int .i64 i) (.int .i64 1)) fun t70 => again [t70] H_66) hR (Nat.zero_le _) (by dsimp only; rw [hz]; simp only [maxLen, List.length_singleton]; omega) (by dsimp only; rw [hz]; simp only [List.length_singleton]; omega) fun H4 h1 h2 h3 _ => by
    have hql := hX3.lt _ hX3.fp
    simp at h1 h2 h3
    have e3 : H4.at_ q = H3.at_ q := by
      rw [h3 q (by omega) fun o' s hh => hA2p _ hh rfl, AHeap.at_alloc_ne _ _ (by omega)]
    have w1 := wrap64 (x := (i : Int) + 1) (by omega) (by omega)
    dsimp only
    rw [List.length_append, hz, List.length_singleton]
    simp [e3, hX3.hp, w1]
    have hBb : ∀ x, B = some x → G.next ≤ x.block ∧ x.block < H2.next := fun x hx => ⟨(hB.blkOf hx).2.1, (hB.blkOf hx).2.2.1⟩
    have hSt := hX3.put' (H' := H4.upd q (.cells [.int .i64 m.lim, .int .i64 m.used, .slice (some ⟨H3.next + 1, 0, none⟩) (i + 1) (i + 1), .slice NA2 m.names.length m.names.length, .map (some mb2)] .var 88)) (o := o') (a := B) (N := H3.next + 1) (u := m.used) (by rw [ho']; exact hB3.lower (Nat.zero_le _)) (fun x hx hf => by
        have := (hBb x hx).1
        have := hX2.lt _ hf
        omega) (by simp; omega) (fun b hb hbq hbA => by rw [AHeap.at_upd_ne _ _ hbq, h3 b (by omega) fun o' s hh => hbA _ hh rfl, AHeap.at_alloc_ne _ _ (by omega)]) (by omega) (by simp; omega) (by simp [cl]) (h1.at (Nat.le_refl _) fun x hx => by
        cases hx
        exact AHeap.at_upd_ne _ _ (by show H3.next + 1 ≠ q; omega))
    obtain ⟨K, hK⟩ : ∃ X, X = H4.upd q (.cells [.int .i64 m.lim, .int .i64 m.used, .slice (some ⟨H3.next + 1, 0, none⟩) (i + 1) (i + 1), .slice NA2 m.names.length m.names.length, .map (some mb2)] .var 88) := ⟨_, rfl⟩
    rw [← hK] at hSt ⊢
    have kat : ∀ b, b < H3.next → ¬ F2 b → K.at_ b = H3.at_ b := fun b hb hf => by
      rw [hK, AHeap.at_upd_ne _ _ (by rintro rfl; exact hf hX3.fp), h3 b (by omega) fun o' s hh => by have := hX3.fA _ hh; dsimp only at this; exact absurd this hf, AHeap.at_alloc_ne _ _ (by omega)]
    have nK : K.next = H3.next + 2 := by rw [hK]; simp; omega
    clear hK
    have hlF : ∀ b, F2 b → b < H.next := fun b hb => hC.st.lt b hb
    refine ha K _ (os' ++ [o']) ⟨⟨by omega, fun b hb => ?_⟩, hSt, fun b hb => ?_, by simp [cl], fun j x y hx hy => ?_⟩
    · rw [kat b (by omega) fun hf => by have := hF2 b hf; omega, hk3.at_ b (by omega), hk2.at_ b (by omega)]
      exact hkHG.at_ b hb
    · rcases hb with hb | ⟨x, hx, rfl⟩ | rfl
      · exact hF2 b hb
      · have := (hBb x hx).1; omega
      · omega
    · by_cases hj : j < i
      · rw [List.getElem?_append_left (by omega)] at hy
        obtain ⟨g1, g2, g3, g4, g5, g6⟩ := hC.ob j x y hx hy
        refine ⟨g1, g2, g3, g4, ?_, ?_⟩
        · refine g5.at (by omega) fun z hz => ?_
          have hzl := (g5.blk hz).2
          rw [kat _ (by omega) (g6 z hz), hk3.at_ _ (by omega), hk2.at_ _ (by omega), hkG.at_ _ hzl]
        · rintro z hz (hb | ⟨w, hw, hb⟩ | hb)
          · exact g6 z hz hb
          · have := (hBb w hw).1; have := (g5.blk hz).2; omega
          · have := (g5.blk hz).2; omega
      · have hje : j = i := by
          have := (List.getElem?_eq_some_iff.1 hy).1
          simp [cl] at this
          omega
        subst hje
        rw [ho] at hx
        cases hx
        rw [List.getElem?_append_right (by omega), cl, Nat.sub_self] at hy
        simp at hy
        subst hy
        rw [ho']
        refine ⟨rfl, rfl, rfl, rfl, ?_, ?_⟩
        · refine (hO.lower (by omega)).at (by omega) fun z hz => ?_
          have := hO.blk hz
          exact kat _ (by omega) fun hf => by have := hlF _ hf; omega
        · rintro z hz (hb | ⟨w, hw, hb⟩ | hb)
          · have := hlF _ hb; have := (hO.blk hz).1; omega
          · have := (hBb w hw).2; have := (hO.blk hz).1; omega
          · have := (hO.blk hz).2; omega
  dsimp only at this
  rw [hz] at this
  have e1 : (encO (o', B)).all okCell = true := by simp [encO]
  simp [encO] at this ⊢
  exact this

theorem c32r {H : AHeap} {p : Nat} {m : Sm} {F : Nat → Prop} (h : St H p m F) (hI : Inv m) (hV : Vd m) (hnd : m.names.Nodup) (hnl : m.names.length ≤ 1048576) {ds : Nat → ExD} (hds : ∀ i o, m.objs[i]? = some o → ExR H.next H o.ex (ds i) ∧ o.ex.n ≤ 1048576) : ACalls Try.prog 32 [Pt p] H fun r H' => ∃ q F' os', r = Pt q ∧ Cps H H' q m ds m.objs.length os' F' := by
  refine S32_calls ?_
  unfold S32
  obtain ⟨A, os, NA, mb, hX⟩ := id h
  have hlen := hI.len
  have hpl := h.lt p h.fp
  simp only [eqPtr, bnd_some', aCond_false]
  unfold S32_80
  have p0 : ∀ H', H'.at_ p = H.at_ p → aLdCell (.pointer (some ⟨p, 0, none⟩)) H' = some (.int .i64 m.lim) := by intro H' e; rw [aLdCell_ptr, e, hX.hp]; rfl
  have p1 : ∀ H', H'.at_ p = H.at_ p → aLdCell (.pointer (some ⟨p, 1, none⟩)) H' = some (.int .i64 m.used) := by intro H' e; rw [aLdCell_ptr, e, hX.hp]; rfl
  have p2 : ∀ H', H'.at_ p = H.at_ p → aLdCell (.pointer (some ⟨p, 2, none⟩)) H' = some (.slice A m.objs.length m.objs.length) := by intro H' e; rw [aLdCell_ptr, e, hX.hp]; rfl
  have p3 : ∀ H', H'.at_ p = H.at_ p → aLdCell (.pointer (some ⟨p, 3, none⟩)) H' = some (.slice NA m.names.length m.names.length) := by intro H' e; rw [aLdCell_ptr, e, hX.hp]; rfl
  simp only [aNilCheck_ptr, bnd_some', aAdd_ptr, Nat.zero_add, p0 H rfl, p1 H rfl, p3 H rfl, aMakeMap]
  obtain ⟨G, hG⟩ : ∃ X, X = H.alloc (.map []) := ⟨_, rfl⟩
  rw [← hG]
  have hkG : Keep H.next H G := hG ▸ (Keep.refl _ _).alloc (Nat.le_refl _) _
  have gm : G.at_ H.next = .map [] := by rw [hG]; simp
  have nG : G.next = H.next + 1 := by rw [hG]; simp
  clear hG
  have hNG : Ow 1 eS 9 0 G NA m.names := hX.names.kept hkG
  refine (c64 (Nat.le_refl _) hNG.rd (by omega)).mono fun r H2 ⟨NB, hr, hNB, hk2⟩ => ?_
  subst hr
  have n2 := hk2.next
  have hkH2 : Keep H.next H H2 := hkG.trans (hk2.lower (by omega))
  have m2 : H2.at_ H.next = .map [] := by rw [hk2.at_ _ (by omega)]; exact gm
  unfold S32_79
  have eb : blkOf (.map (some H.next)) = H.next := rfl
  have fx : aFill [(.int .i64 0), (.int .i64 0), (.slice none 0 0), (.slice none 0 0), (.map none)] [(0, 1, .int .i64 m.lim), (1, 1, .int .i64 m.used), (3, 1, .slice NB m.names.length m.names.length), (4, 1, .map (some H.next))] = some [.int .i64 m.lim, .int .i64 m.used, .slice none 0 0, .slice NB m.names.length m.names.length, .map (some H.next)] := by simp [aFill]
  simp only [p0 H2 (hkH2.at_ _ hpl), p1 H2 (hkH2.at_ _ hpl), bnd_some', true_and, eb, m2, gm, fx, aBox_eq, vcells_agg]
  refine ⟨by simp, ?_⟩
  obtain ⟨q, hq⟩ : ∃ q, q = H2.next := ⟨_, rfl⟩
  obtain ⟨K, hK⟩ : ∃ X, X = H2.alloc (.cells [.int .i64 m.lim, .int .i64 m.used, .slice none 0 0, .slice NB m.names.length m.names.length, .map (some H.next)] .var 88) := ⟨_, rfl⟩
  simp only [← hK]
  rw [← hq]
  have hkK : Keep H2.next H2 K := hK ▸ (Keep.refl _ _).alloc (Nat.le_refl _) _
  have kq : K.at_ q = .cells [.int .i64 m.lim, .int .i64 m.used, .slice none 0 0, .slice NB m.names.length m.names.length, .map (some H.next)] .var 88 := by rw [hK, hq]; simp
  have nK : K.next = H2.next + 1 := by rw [hK]; simp
  clear hK
  have hkHK : Keep H.next H K := hkH2.trans (hkK.lower (by omega))
  have km : K.at_ H.next = .map [] := by rw [hkK.at_ _ (by omega)]; exact m2
  have hNBK : Ow 1 eS 9 G.next K NB m.names := hNB.kept hkK
  simp only [aNilCheck_ptr, bnd_some', aAdd_ptr, Nat.zero_add, p3 K (hkHK.at_ _ hpl), aLenSl_slice]
  refine aLoop_vs m.names.length (fun i vs H' => vs = [.int .i64 i] ∧ H' = K.upd H.next (.map (entries (m.names.take i)))) ⟨rfl, ?_⟩ ?_
  · have e : entries (m.names.take 0) = [] := rfl
    rw [e]
    refine AHeap.ext' rfl fun b => ?_
    by_cases hb : b = H.next
    · subst hb; rw [AHeap.at_upd_same]; exact km
    · rw [AHeap.at_upd_ne _ _ hb]
  rintro i vs H' again hi ⟨rfl, rfl⟩ ha
  unfold S32_76
  have pat : (K.upd H.next (.map (entries (m.names.take i)))).at_ p = H.at_ p := by rw [AHeap.at_upd_ne _ _ (by omega)]; exact hkHK.at_ _ hpl
  have hqm : q ≠ H.next := by omega
  have qat : (K.upd H.next (.map (entries (m.names.take i)))).at_ q = .cells [.int .i64 m.lim, .int .i64 m.used, .slice none 0 0, .slice NB m.names.length m.names.length, .map (some H.next)] .var 88 := by rw [AHeap.at_upd_ne _ _ hqm]; exact kq
  have hkM : Keep H.next H (K.upd H.next (.map (entries (m.names.take i)))) := hkHK.upd (Nat.le_refl _) _
  simp only [nth_zero, aBin_lss, bnd_some']
  by_cases hlt : i < m.names.length
  · have hlt' : (i : Int) < m.names.length := by omega
    have w1 := wrap64 (x := (i : Int) + 1) (by omega) (by omega)
    have hN' : Ow 1 eS 9 0 (K.upd H.next (.map (entries (m.names.take i)))) NA m.names := hX.names.kept hkM
    have i1 := hN'.rd.idx (k := .i64) (j := (i : Int)) (c := m.names.length) (by omega) (by omega)
    rw [Int.toNat_natCast] at i1
    have l1 := hN'.rd.ld (enc := Value.string) hlt
    have l4 : aLdCell (.pointer (some ⟨q, 4, none⟩)) (K.upd H.next (.map (entries (m.names.take i)))) = some (.map (some H.next)) := by rw [aLdCell_ptr, qat]; rfl
    have hpp := entries_put m.names[i] (m.names.take i) (nodup_take hnd hlt)
    have hl : (m.names.take i).length = i := by simp; omega
    rw [hl] at hpp
    have et : m.names.take i ++ [m.names[i]] = m.names.take (i + 1) := (List.take_succ_eq_append_getElem hlt).symm
    rw [et] at hpp
    have eu : aMapUpd (.map (some H.next)) (.string m.names[i]) (.int .i64 (i : Int)) (K.upd H.next (.map (entries (m.names.take i)))) = some (K.upd H.next (.map (entries (m.names.take (i + 1))))) := by
      have e2 : (K.upd H.next (.map (entries (m.names.take i)))).upd H.next (.map (entries (m.names.take (i + 1)))) = K.upd H.next (.map (entries (m.names.take (i + 1)))) := by
        refine AHeap.ext' rfl fun b => ?_
        by_cases hb : b = H.next
        · subst hb; rw [AHeap.at_upd_same, AHeap.at_upd_same]
        · rw [AHeap.at_upd_ne _ _ hb, AHeap.at_upd_ne _ _ hb, AHeap.at_upd_ne _ _ hb]
      simp only [aMapUpd, AHeap.at_upd_same, hpp, Option.map_some, e2]
    simp only [decide_eq_true hlt', aCond_true]
    unfold S32_32
    simp only [nth_zero, i1, bnd_some', l1, aNilCheck_ptr, aAdd_ptr, Nat.zero_add, l4, eu, aBin_add, w1]
    exact ha _ _ hlt ⟨rfl, rfl⟩
  · have hie : i = m.names.length := by omega
    have hlt' : ¬ (i : Int) < m.names.length := by omega
    subst hie
    rw [List.take_length] at pat qat hkM ⊢
    simp only [decide_eq_false hlt', aCond_false, aNilCheck_ptr, bnd_some', aAdd_ptr, Nat.zero_add, p2 _ pat, aLenSl_slice]
    have hNBM : Ow 1 eS 9 0 (K.upd H.next (.map (entries m.names))) NB m.names := by
      refine (hNBK.lower (Nat.zero_le _)).at (Nat.le_refl _) fun x hx => AHeap.at_upd_ne _ _ ?_
      have := (hNBK.blkOf hx).2.1
      omega
    have hS0 : Cps H (K.upd H.next (.map (entries m.names))) q m ds 0 [] (fun b => b = q ∨ b = H.next ∨ ∃ x, NB = some x ∧ x.block = b) := by
      refine ⟨hkM, ⟨none, [], NB, H.next, ?_⟩, ?_, rfl, fun j o o' h1 h2 => by simp at h2⟩
      · refine ⟨rfl, ?_, ?_, fun i o a h1 h2 => (by simp at h1), fun i j a b h1 => (by simp at h1), hNBM, ?_, .inl rfl, fun a ha => (by cases ha), fun i a h1 => (by simp at h1), fun a ha => .inr (.inr ⟨a, ha, rfl⟩), .inr (.inl rfl), ?_⟩
        · rw [qat]; simp
        · simp; exact Ow.nil _ _ _ _ _
        · simp
        · rintro b (rfl | rfl | ⟨x, hx, rfl⟩)
          · show b < K.next; omega
          · show H.next < K.next; omega
          · have := (hNBM.blkOf hx).2.2.1
            exact this
      · rintro b (rfl | rfl | ⟨x, hx, rfl⟩)
        · omega
        · omega
        · have := (hNBK.blkOf hx).2.1; omega
    refine aLoop_vs m.objs.length (fun i vs H' => vs = [.int .i64 i] ∧ ∃ F' os', Cps H H' q m ds i os' F') ⟨rfl, _, _, hS0⟩ ?_
    clear hS0 ha
    rintro i vs H' again2 hi ⟨rfl, F2, os', hC⟩ ha2
    unfold S32_75
    simp only [nth_zero, aBin_lss, bnd_some']
    by_cases hlt : i < m.objs.length
    · have hlt2 : (i : Int) < m.objs.length := by omega
      simp only [decide_eq_true hlt2, aCond_true]
      exact l32_74r hX hI hV hds hlt hC fun H3 F3 os3 g => ha2 _ H3 hlt ⟨rfl, F3, os3, g⟩
    · have hie : i = m.objs.length := by omega
      have hlt2 : ¬ (i : Int) < m.objs.length := by omega
      subst hie
      simp only [decide_eq_false hlt2, aCond_false]
      exact ⟨q, F2, os', rfl, hC⟩
end Go.Proofs.Ytngldjajfpbmbaa.A
