/- Operators, conversions, pieces of slices and texts. -/
import Derived.Test.YtliakckflcoffaaDoorAbsF
set_option linter.unusedVariables false
set_option linter.unusedSimpArgs false
namespace Go.Abs
open Go

section
variable {P : Program} {G B : Nat} {φ : Phi} {H : AHeap} {w : World}

theorem run_eqGuard_plain {op : BinOp} {t : TypeId} {x y : Operand} {u v : Value} (h1 : (match u with | .agg _ => false | .nilIface => false | _ => true) = true) : (eqGuard op t x y u v).run P w = .ok () w := by
  unfold eqGuard
  generalize (!match op with | .eql | .neq => true | _ => false) = c
  cases c
  · cases u <;> first | (simp at h1; done) | rfl
  · rfl

theorem aInt_sound {op : BinOp} {t : TypeId} {k k' : IntKind} {a b : Int} {v : Value} (hk : (op = .shl ∨ op = .shr) ∨ k = k') (h : aInt op k a b = some v) : (binOp op t (.int k a) (.int k' b)).run P w = .ok v w ∧ plainCell v = true := by
  cases op <;> simp only [aInt, aBits] at h
  case shl =>
    split at h
    · cases h
    · rename_i hb
      obtain rfl := Option.some.inj h
      exact ⟨by simp [binOp, Op.shift, hb], rfl⟩
  case shr =>
    split at h
    · cases h
    · rename_i hb
      obtain rfl := Option.some.inj h
      exact ⟨by simp [binOp, Op.shift, hb], rfl⟩
  case quo =>
    obtain rfl : k = k' := by simpa using hk
    split at h
    · cases h
    · rename_i hb
      obtain rfl := Option.some.inj h
      exact ⟨by simp [binOp, Op.intDiv, hb], rfl⟩
  case rem =>
    obtain rfl : k = k' := by simpa using hk
    split at h
    · cases h
    · rename_i hb
      obtain rfl := Option.some.inj h
      exact ⟨by simp [binOp, Op.intDiv, hb], rfl⟩
  all_goals
    obtain rfl : k = k' := by simpa using hk
    simp only [Option.map_some, Option.some.injEq] at h
    subst h
    refine ⟨?_, rfl⟩
    simp [binOp, Op.intArith, Op.intBits, Op.intCmp]
    try rfl

theorem aStr_sound {op : BinOp} {t : TypeId} {a b : ByteArray} {v : Value} (h : aStr op a b = some v) : (binOp op t (.string a) (.string b)).run P w = .ok v w ∧ plainCell v = true := by
  cases op <;> simp only [aStr] at h <;> try (cases h; done)
  · split at h
    · rename_i hl
      obtain rfl := Option.some.inj h
      refine ⟨?_, rfl⟩
      have : ¬ (((a.size + b.size : Nat) : Int) > IntKind.i64.max) := by
        have : IntKind.i64.max = 9223372036854775807 := by decide
        omega
      simp only [binOp, Op.stringOp, Sem.run_ite, if_neg this, Sem.run_pure]
    · cases h
  all_goals
    obtain rfl := Option.some.inj h
    refine ⟨?_, rfl⟩
    simp [binOp, Op.stringOp, beq_toListBytes]

/-- Aggregates are compared cell by cell where the type is a struct of plain fields, each of one cell. -/
def flatFields (P : Program) : List Field → Nat → Option (List CK)
  | [], _ => some []
  | f :: fs, o => if f.name != "_" && f.offset == o then
      match P.underlying f.type, flatFields P fs (o + 1) with
      | some (.int _), some ks => some (.int :: ks)
      | some .bool, some ks => some (.bool :: ks)
      | some .string, some ks => some (.str :: ks)
      | _, _ => none
    else none
def eqKind (P : Program) (t : TypeId) : EK := match P.underlying t with
  | some (.struct fs) => match P.stoodInHeld t, P.eqGuardType P.depth t with
    | false, false => match flatFields P fs.toList 0 with
      | some ks => .cells ks
      | none => .no
    | _, _ => .no
  | some .bool => .bool
  | some (.pointer _) => .ptr
  | some (.slice _) => .slice
  | some (.interface _) => .iface
  | _ => .no

theorem eqFields_sound (d : Nat) (xs ys : Array Value) : ∀ (fs : List Field) (o : Nat) (ks : List CK) (b : Bool), flatFields P fs o = some ks → sameCells ks (xs.toList.drop o) (ys.toList.drop o) = some b → (Op.eqFields (d + 1) xs ys fs).run P w = .ok b w
  | [], o, ks, b, hf, hs => by
    simp only [flatFields, Option.some.injEq] at hf
    subst hf
    cases hx : xs.toList.drop o with
    | nil =>
      cases hy : ys.toList.drop o with
      | nil => rw [hx, hy] at hs; simp [sameCells] at hs; subst hs; rfl
      | cons y ys => rw [hx, hy] at hs; simp [sameCells] at hs
    | cons x xs => rw [hx] at hs; cases hy : ys.toList.drop o <;> rw [hy] at hs <;> simp [sameCells] at hs
  | f :: fs, o, ks, b, hf, hs => by
    simp only [flatFields] at hf
    split at hf
    · rename_i hno
      simp only [Bool.and_eq_true, bne_iff_ne, ne_eq, beq_iff_eq] at hno
      obtain ⟨hname, hoff⟩ := hno
      have main : ∀ k ks', ks = k :: ks' → flatFields P fs (o + 1) = some ks' → tyAgg P f.type = some false →
          (∀ p q a, sameCell k p q = some a → (Op.equalIn (d + 1) f.type p q).run P w = .ok a w) → (Op.eqFields (d + 1) xs ys (f :: fs)).run P w = .ok b w := by
        intro k ks' hk hrest hag hq
        subst hk
        cases hx : xs.toList.drop o with
        | nil => rw [hx] at hs; cases hy : ys.toList.drop o <;> rw [hy] at hs <;> simp [sameCells] at hs
        | cons x xr =>
          cases hy : ys.toList.drop o with
          | nil => rw [hx, hy] at hs; simp [sameCells] at hs
          | cons y yr =>
            rw [hx, hy] at hs
            simp only [sameCells] at hs
            split at hs
            · rename_i a c h1 h2
              obtain rfl := Option.some.inj hs
              have hx' : xs.toList.drop (o + 1) = xr := by rw [← List.drop_drop, hx]; rfl
              have hy' : ys.toList.drop (o + 1) = yr := by rw [← List.drop_drop, hy]; rfl
              have ih := eqFields_sound d xs ys fs (o + 1) ks' c hrest (by rw [hx', hy']; exact h2)
              have hxv : xs[o]? = some x := by
                have := List.getElem?_drop (xs := xs.toList) (i := o) (j := 0)
                rw [hx] at this
                simpa using this.symm
              have hyv : ys[o]? = some y := by
                have := List.getElem?_drop (xs := ys.toList) (i := o) (j := 0)
                rw [hy] at this
                simpa using this.symm
              have hpx : (part f.type xs f.offset).run P w = .ok x w := by simp only [part, Sem.run_bind, run_isAgg hag, Result.andThen_ok, Bool.false_eq_true, if_false, hoff, hxv, Sem.run_pure]
              have hpy : (part f.type ys f.offset).run P w = .ok y w := by simp only [part, Sem.run_bind, run_isAgg hag, Result.andThen_ok, Bool.false_eq_true, if_false, hoff, hyv, Sem.run_pure]
              simp only [Op.eqFields, ne_eq, hname, not_false_eq_true, if_true, Sem.run_bind, hpx, hpy, hq x y a h1, Result.andThen_ok]
              cases a
              · simp
              · simp [ih]
            · cases hs
      split at hf
      · rename_i k0 ks' hu hr
        obtain rfl := Option.some.inj hf
        refine main _ _ rfl hr (by simp [tyAgg, hu]) (fun p q a h1 => ?_)
        unfold sameCell at h1
        split at h1
        · split at h1
          · rename_i hk; obtain rfl := Option.some.inj h1; subst hk; simp [Op.equalIn, run_underlying hu]; rfl
          · cases h1
        · contradiction
        · contradiction
        · cases h1
      · rename_i ks' hu hr
        obtain rfl := Option.some.inj hf
        refine main _ _ rfl hr (by simp [tyAgg, hu]) (fun p q a h1 => ?_)
        unfold sameCell at h1
        split at h1
        · contradiction
        · obtain rfl := Option.some.inj h1; simp [Op.equalIn, run_underlying hu]
        · contradiction
        · cases h1
      · rename_i ks' hu hr
        obtain rfl := Option.some.inj hf
        refine main _ _ rfl hr (by simp [tyAgg, hu]) (fun p q a h1 => ?_)
        unfold sameCell at h1
        split at h1
        · contradiction
        · contradiction
        · obtain rfl := Option.some.inj h1; simp [Op.equalIn, run_underlying hu, beq_toListBytes]
        · cases h1
      · cases hf
    · cases hf

theorem VRel.ptrSome {a : Addr} {v : Value} (h : VRel φ (.pointer (some a)) v) : ∃ c, v = .pointer (some c) := by
  obtain ⟨b, o, s⟩ := a
  obtain ⟨_, p, _, rfl⟩ := h.ptrInv
  exact ⟨_, rfl⟩
theorem VRel.sliceNone {n m : Nat} {v : Value} (h : VRel φ (.slice none n m) v) : v = .slice none 0 0 ∧ n = 0 ∧ m = 0 := by
  cases h with
  | plain hp => unfold plainCell at hp; split at hp <;> simp_all
theorem VRel.sliceSome {a : Addr} {n m : Nat} {v : Value} (h : VRel φ (.slice (some a) n m) v) (hn : n ≠ 0) : ∃ c k, v = .slice (some c) n k := by
  obtain ⟨b, o, s⟩ := a
  obtain ⟨_, _, h1⟩ := h.sliceInv
  rcases h1 with ⟨p, c, _, _, _, _, rfl⟩ | ⟨rfl, _⟩
  · exact ⟨_, _, rfl⟩
  · exact absurd rfl hn

theorem equal_of {t : TypeId} {u v : Value} {r : Bool} (h : ∀ d, (Op.equalIn (d + 1) t u v).run P w = .ok r w) : (Op.equal t u v).run P w = .ok r w := h 9999

theorem eqK_sound {op : BinOp} {t : TypeId} {ox oy : Operand} {x y u v : Value} (hx : VRel φ x u) (hy : VRel φ y v) {r : Bool} (h : aEqK (eqKind P t) x y = some r) :
    (eqGuard op t ox oy u v).run P w = .ok () w ∧ (Op.equal t u v).run P w = .ok r w := by
  unfold eqKind at h
  split at h
  · rename_i fs hu
    split at h
    · rename_i h1 h2
      split at h
      · rename_i ks hks
        unfold aEqK at h
        split at h <;> first | contradiction | skip
        rename_i ks' a b he
        injection he with he
        subst he
        obtain ⟨a', rfl, ha⟩ := hx.aggInv
        obtain ⟨b', rfl, hb⟩ := hy.aggInv
        have hsame : ∀ (ks : List CK) (p q p' q' : List Value) (r : Bool), VRels φ p p' → VRels φ q q' → sameCells ks p q = some r → sameCells ks p' q' = some r := by
          intro ks
          induction ks with
          | nil =>
            intro p q p' q' r hp hq hs
            cases p <;> cases q <;> simp [sameCells] at hs
            have e1 : p' = [] := List.eq_nil_of_length_eq_zero hp.1.symm
            have e2 : q' = [] := List.eq_nil_of_length_eq_zero hq.1.symm
            subst e1; subst e2; simp [sameCells, hs]
          | cons k ks ih =>
            intro p q p' q' r hp hq hs
            cases p with
            | nil => simp [sameCells] at hs
            | cons p0 p =>
              cases q with
              | nil => simp [sameCells] at hs
              | cons q0 q =>
                cases p' with
                | nil => exact absurd hp.1 (by simp)
                | cons p0' p' =>
                  cases q' with
                  | nil => exact absurd hq.1 (by simp)
                  | cons q0' q' =>
                    simp only [sameCells] at hs
                    split at hs
                    · rename_i c d h1 h2
                      have hp0 : VRel φ p0 p0' := hp.2 0 _ _ (by simp) (by simp)
                      have hq0 : VRel φ q0 q0' := hq.2 0 _ _ (by simp) (by simp)
                      have hp1 : VRels φ p p' := ⟨by simpa using hp.1, fun i u v hu hv => hp.2 (i + 1) u v (by simpa using hu) (by simpa using hv)⟩
                      have hq1 : VRels φ q q' := ⟨by simpa using hq.1, fun i u v hu hv => hq.2 (i + 1) u v (by simpa using hu) (by simpa using hv)⟩
                      have hc : sameCell k p0' q0' = some c := by
                        unfold sameCell at h1
                        split at h1
                        · rw [hp0.int, hq0.int]; exact h1
                        · rw [hp0.bool, hq0.bool]; exact h1
                        · rw [hp0.string, hq0.string]; exact h1
                        · cases h1
                      simp only [sameCells, hc, ih p q p' q' d hp1 hq1 h2, hs]
                    · cases hs
        have hs := hsame _ _ _ _ _ _ ha hb h
        refine ⟨run_eqGuard_agg w op t ox oy a' b' h2, ?_⟩
        have hfo : P.fieldsOf t = fs := by simp [Program.fieldsOf, hu]
        have hu' : P.underlying t = some (.struct (P.fieldsOf t)) := by rw [hfo]; exact hu
        unfold Op.equal
        have := run_equalIn_struct w 9999 t a' b' hu' h1
        rw [show Op.maxDepth = 9999 + 1 from rfl, this, hfo]
        exact eqFields_sound (P := P) (w := w) 9998 a' b' fs.toList 0 ks r hks hs
      · simp [aEqK] at h
    · simp [aEqK] at h
  · rename_i hu
    unfold aEqK at h
    split at h <;> first | contradiction | skip
    obtain rfl := Option.some.inj h
    rw [hx.bool, hy.bool]
    exact ⟨run_eqGuard_plain rfl, equal_of fun d => by simp [Op.equalIn, run_underlying hu]⟩
  · rename_i e hu
    unfold aEqK at h
    split at h <;> first | contradiction | skip
    · obtain rfl := Option.some.inj h
      rw [hx.ptrNil]
      rename_i q hh
      cases q with
      | none => rw [hy.ptrNil]; exact ⟨run_eqGuard_plain rfl, equal_of fun d => by simp [Op.equalIn, run_underlying hu]⟩
      | some a => obtain ⟨c, rfl⟩ := hy.ptrSome; exact ⟨run_eqGuard_plain rfl, equal_of fun d => by simp [Op.equalIn, run_underlying hu]⟩
    · obtain rfl := Option.some.inj h
      obtain ⟨c, rfl⟩ := hx.ptrSome
      rw [hy.ptrNil]
      exact ⟨run_eqGuard_plain rfl, equal_of fun d => by simp [Op.equalIn, run_underlying hu]⟩
  · rename_i e hu
    unfold aEqK at h
    split at h <;> first | contradiction | skip
    · obtain rfl := Option.some.inj h
      rw [hx.sliceNone.1, hy.sliceNone.1]
      exact ⟨run_eqGuard_plain rfl, equal_of fun d => by simp [Op.equalIn, run_underlying hu]⟩
    · split at h
      · cases h
      · rename_i hn
        obtain rfl := Option.some.inj h
        obtain ⟨c, k, rfl⟩ := hy.sliceSome hn
        rw [hx.sliceNone.1]
        exact ⟨run_eqGuard_plain rfl, equal_of fun d => by simp [Op.equalIn, run_underlying hu]⟩
    · split at h
      · cases h
      · rename_i hn
        obtain rfl := Option.some.inj h
        obtain ⟨c, k, rfl⟩ := hx.sliceSome hn
        rw [hy.sliceNone.1]
        exact ⟨run_eqGuard_plain rfl, equal_of fun d => by simp [Op.equalIn, run_underlying hu]⟩
  · rename_i e hu
    unfold aEqK at h
    split at h <;> first | contradiction | skip
    · obtain rfl := Option.some.inj h
      obtain ⟨c, rfl, _⟩ := hy.ifaceInv
      rw [hx.nilIface]
      refine ⟨?_, equal_of fun d => by simp [Op.equalIn, run_underlying hu]⟩
      unfold eqGuard
      generalize (!match op with | .eql | .neq => true | _ => false) = c
      cases c <;> rfl
    · obtain rfl := Option.some.inj h
      obtain ⟨c, rfl, _⟩ := hx.ifaceInv
      rw [hy.nilIface]
      exact ⟨run_eqGuard_plain rfl, equal_of fun d => by simp [Op.equalIn, run_underlying hu]⟩
  · simp [aEqK] at h

theorem bin_sound {op : BinOp} {t : TypeId} {ox oy : Operand} {x y u v : Value} (hx : VRel φ x u) (hy : VRel φ y v) {r : Value} (h : aBin op (eqKind P t) x y = some r) :
    (do eqGuard op t ox oy u v; binOp op t u v : Sem Value).run P w = .ok r w ∧ plainCell r = true := by
  unfold aBin at h
  split at h
  · rename_i k a k' b
    rw [hx.int, hy.int]
    rw [Sem.run_bind, run_eqGuard_plain rfl, Result.andThen_ok]
    split at h
    · exact aInt_sound (.inl (.inl rfl)) h
    · exact aInt_sound (.inl (.inr rfl)) h
    · split at h
      · rename_i hk; exact aInt_sound (.inr hk) h
      · cases h
  · rename_i a b
    rw [hx.string, hy.string]
    rw [Sem.run_bind, run_eqGuard_plain rfl, Result.andThen_ok]
    exact aStr_sound h
  · rename_i h1 h2
    have hne : ∀ q, aEqK (eqKind P t) x y = some q → (∀ k a, u ≠ .int k a) ∧ (∀ a, u ≠ .string a) := by
      intro q hq
      refine ⟨fun k a he => ?_, fun a he => ?_⟩
      · subst he
        unfold aEqK at hq
        split at hq <;> first | (cases hq; done) | skip
        · exact absurd hx.bool (by simp)
        · exact absurd hx.ptrNil (by simp)
        · obtain ⟨c, hc⟩ := hx.ptrSome; cases hc
        · exact absurd hx.sliceNone.1 (by simp)
        · exact absurd hx.sliceNone.1 (by simp)
        · split at hq
          · cases hq
          · rename_i hn; obtain ⟨c, k, hc⟩ := hx.sliceSome hn; cases hc
        · exact absurd hx.nilIface (by simp)
        · obtain ⟨c, hc, _⟩ := hx.ifaceInv; cases hc
        · obtain ⟨c, hc, _⟩ := hx.aggInv; cases hc
      · subst he
        unfold aEqK at hq
        split at hq <;> first | (cases hq; done) | skip
        · exact absurd hx.bool (by simp)
        · exact absurd hx.ptrNil (by simp)
        · obtain ⟨c, hc⟩ := hx.ptrSome; cases hc
        · exact absurd hx.sliceNone.1 (by simp)
        · exact absurd hx.sliceNone.1 (by simp)
        · split at hq
          · cases hq
          · rename_i hn; obtain ⟨c, k, hc⟩ := hx.sliceSome hn; cases hc
        · exact absurd hx.nilIface (by simp)
        · obtain ⟨c, hc, _⟩ := hx.ifaceInv; cases hc
        · obtain ⟨c, hc, _⟩ := hx.aggInv; cases hc
    have hfl : ∀ q, aEqK (eqKind P t) x y = some q → (∀ k a, u ≠ .float k a) ∧ (∀ k a b, u ≠ .complex k a b) := by
      intro q hq
      refine ⟨fun k a he => ?_, fun k a b he => ?_⟩ <;>
      · subst he
        unfold aEqK at hq
        split at hq <;> first | (cases hq; done) | skip
        · exact absurd hx.bool (by simp)
        · exact absurd hx.ptrNil (by simp)
        · obtain ⟨c, hc⟩ := hx.ptrSome; cases hc
        · exact absurd hx.sliceNone.1 (by simp)
        · exact absurd hx.sliceNone.1 (by simp)
        · split at hq
          · cases hq
          · rename_i hn; obtain ⟨c, k, hc⟩ := hx.sliceSome hn; cases hc
        · exact absurd hx.nilIface (by simp)
        · obtain ⟨c, hc, _⟩ := hx.ifaceInv; cases hc
        · obtain ⟨c, hc, _⟩ := hx.aggInv; cases hc
    split at h
    · obtain ⟨q, hq, rfl⟩ := Option.map_eq_some_iff.1 h
      obtain ⟨hg, he⟩ := eqK_sound (P := P) (w := w) (op := .eql) (ox := ox) (oy := oy) hx hy hq
      obtain ⟨n1, n2⟩ := hne q hq
      obtain ⟨n3, n4⟩ := hfl q hq
      refine ⟨?_, rfl⟩
      rw [Sem.run_bind, hg, Result.andThen_ok]
      cases u <;> first | exact absurd rfl (n1 _ _) | exact absurd rfl (n2 _) | exact absurd rfl (n3 _ _) | exact absurd rfl (n4 _ _ _) | simp [binOp, he]
    · obtain ⟨q, hq, rfl⟩ := Option.map_eq_some_iff.1 h
      obtain ⟨hg, he⟩ := eqK_sound (P := P) (w := w) (op := .neq) (ox := ox) (oy := oy) hx hy hq
      obtain ⟨n1, n2⟩ := hne q hq
      obtain ⟨n3, n4⟩ := hfl q hq
      refine ⟨?_, rfl⟩
      rw [Sem.run_bind, hg, Result.andThen_ok]
      cases u <;> first | exact absurd rfl (n1 _ _) | exact absurd rfl (n2 _) | exact absurd rfl (n3 _ _) | exact absurd rfl (n4 _ _ _) | simp [binOp, he]
    · cases h

theorem slEq_sound {t : TypeId} {ox oy : Operand} {b o c : Nat} {u v : Value} (hk : eqKind P t = .slice) (hx : VRel φ (.slice (some ⟨b, o, none⟩) 0 c) u) (hy : VRel φ (.slice none 0 0) v) :
    ∃ r : Bool, (do eqGuard .eql t ox oy u v; binOp .eql t u v : Sem Value).run P w = .ok (.bool r) w := by
  obtain ⟨e, hu⟩ : ∃ e, P.underlying t = some (.slice e) := by
    unfold eqKind at hk
    split at hk <;> first | (rename_i e hu; exact ⟨e, hu⟩) | skip
    all_goals (repeat' (split at hk)) <;> cases hk
  obtain ⟨A, l, d, rfl⟩ : ∃ A l d, u = .slice A l d := by
    obtain ⟨_, _, h3⟩ := hx.sliceInv
    rcases h3 with ⟨p, c, _, _, _, _, h4⟩ | ⟨_, _, A, _, h4⟩
    · exact ⟨_, _, _, h4⟩
    · exact ⟨_, _, _, h4⟩
  rw [hy.sliceNil]
  have he : (Op.equal t (.slice A l d) (.slice none 0 0)).run P w = .ok A.isNone w := equal_of fun d => by cases A <;> simp [Op.equalIn, run_underlying hu]
  refine ⟨A.isNone, ?_⟩
  rw [Sem.run_bind, run_eqGuard_plain rfl, Result.andThen_ok]
  simp [binOp, he]

/-- Held against the literal nil of an interface type. -/
def aIfaceNil (op : BinOp) (x : Value) : Option Value := match x with
  | .nilIface => (match op with
    | .eql => some (.bool true)
    | .neq => some (.bool false)
    | _ => none)
  | .iface _ _ => (match op with
    | .eql => some (.bool false)
    | .neq => some (.bool true)
    | _ => none)
  | _ => none
def nilRight (e : EK) (y : Operand) : Bool := match e with
  | .iface => (match y with
    | .const .nilIface => true
    | _ => false)
  | _ => false
theorem ifaceNil_sound {op : BinOp} {t : TypeId} {ox oy : Operand} {x u r : Value} (hk : nilRight (eqKind P t) oy = true) (hx : VRel φ x u) (h : aIfaceNil op x = some r) :
    oy = .const .nilIface ∧ (do eqGuard op t ox oy u .nilIface; binOp op t u .nilIface : Sem Value).run P w = .ok r w ∧ plainCell r = true := by
  have hoy : oy = .const .nilIface ∧ ∃ ms, P.underlying t = some (.interface ms) := by
    unfold nilRight at hk
    split at hk
    · rename_i he
      split at hk
      · refine ⟨rfl, ?_⟩
        unfold eqKind at he
        split at he <;> first | (rename_i e hu; exact ⟨e, hu⟩) | skip
        all_goals (repeat' (split at he)) <;> cases he
      · cases hk
    · cases hk
  obtain ⟨rfl, ms, hu⟩ := hoy
  refine ⟨rfl, ?_⟩
  have hg : ∀ v, (eqGuard op t ox (.const .nilIface) v .nilIface).run P w = .ok () w := by
    intro v
    unfold eqGuard
    cases op <;> first | rfl | (cases v <;> first | rfl | (cases ox <;> rfl))
  unfold aIfaceNil at h
  split at h
  · rw [hx.nilIface]
    have he : (Op.equal t .nilIface .nilIface).run P w = .ok true w := equal_of fun d => by simp [Op.equalIn, run_underlying hu]
    split at h
    · obtain rfl := Option.some.inj h
      exact ⟨by rw [Sem.run_bind, hg, Result.andThen_ok]; simp [binOp, he], rfl⟩
    · obtain rfl := Option.some.inj h
      exact ⟨by rw [Sem.run_bind, hg, Result.andThen_ok]; simp [binOp, he], rfl⟩
    · cases h
  · rename_i tt vv
    obtain ⟨c, rfl, _⟩ := hx.ifaceInv
    have he : (Op.equal t (.iface tt c) .nilIface).run P w = .ok false w := equal_of fun d => by simp [Op.equalIn, run_underlying hu]
    split at h
    · obtain rfl := Option.some.inj h
      exact ⟨by rw [Sem.run_bind, hg, Result.andThen_ok]; simp [binOp, he], rfl⟩
    · obtain rfl := Option.some.inj h
      exact ⟨by rw [Sem.run_bind, hg, Result.andThen_ok]; simp [binOp, he], rfl⟩
    · cases h
  · cases h

theorem un_sound {op : UnOp} {x u r : Value} (hx : VRel φ x u) (h : aUn op x = some r) : (Op.unary op u).run P w = .ok r w ∧ plainCell r = true := by
  unfold aUn at h
  split at h
  · obtain rfl := Option.some.inj h
    rw [hx.bool]
    exact ⟨rfl, rfl⟩
  · obtain rfl := Option.some.inj h
    rw [hx.int]
    exact ⟨by simp [Op.unary, Op.intArith], rfl⟩
  · cases h
end
end Go.Abs
