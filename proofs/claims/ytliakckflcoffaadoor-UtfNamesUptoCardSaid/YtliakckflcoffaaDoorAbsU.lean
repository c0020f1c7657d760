/- Functions. -/
import Derived.Test.YtliakckflcoffaaDoorAbsT
set_option linter.unusedVariables false
set_option linter.unusedSimpArgs false
namespace Go.Abs
open Go

def argTmps (args : List Value) : ATmps := fun t => args.getD t undef
def aRes1 (P : Program) (r : ResultVar) (a : ATmps) (H : AHeap) : Option Value := match r with
  | .tmp t => some (a t)
  | .cell p t => aLoad P t (a p) H
def aResL (P : Program) : List ResultVar → ATmps → AHeap → (List Value → Prop) → Prop
  | [], _, _, K => K []
  | r :: rs, a, H, K => bnd (aRes1 P r a H) fun v => aResL P rs a H fun vs => K (v :: vs)
def aTuple : List Value → Value
  | [v] => v
  | vs => .tuple vs.toArray
/-- A function's body, and what it hands back. -/
def awpFn (P : Program) (c : Code) (rs : List ResultVar) (an : Ann) (args : List Value) (H : AHeap) (K : Value → AHeap → Prop) : Prop :=
  awp P c an (fun e a H => match e with
    | .normal => aResL P rs a H fun vs => K (aTuple vs) H
    | .ret => aResL P rs a H fun vs => K (aTuple vs) H
    | .exit _ => False) (argTmps args) H

section
variable {P : Program}

theorem loadVar_sound {G B : Nat} {φ : Phi} {H : AHeap} {w : World} (hr : Rel G B φ H w) {t : TypeId} {x u v : Value} (hx : VRel φ x u) (h : aLoad P t x H = some v) : ∃ v', (do loadVar t (← asAddr u) : Sem Value).run P w = .ok v' w ∧ VRel φ v v' := by
  obtain ⟨v', h1, h2⟩ := load_sound (P := P) hr hx h
  refine ⟨v', ?_, h2⟩
  have hp : ∃ a, u = .pointer (some a) := by
    unfold aLoad at h
    split at h
    · unfold aLdAgg at h
      split at h
      · obtain ⟨_, p, _, rfl⟩ := hx.ptrInv; exact ⟨_, rfl⟩
      · cases h
    · unfold aLdCell at h
      split at h
      · obtain ⟨_, p, _, rfl⟩ := hx.ptrInv; exact ⟨_, rfl⟩
      · cases h
    · cases h
  obtain ⟨ad, rfl⟩ := hp
  simpa [Instr.loadAt, Instr.sureAddr, asAddr] using h1

def resOne (tmps : Array Value) (r : ResultVar) : Sem Value := match r with
  | .tmp t => pure (tmps.getD t undef)
  | .cell a t => do loadVar t (← asAddr (tmps.getD a undef))
theorem results_eq (fn : Func) (tmps : Array Value) : results fn tmps = (do let vs ← fn.results.mapM (resOne tmps); pure (if h : vs.size = 1 then vs[0] else .tuple vs)) := by
  unfold results
  congr 1

theorem resL_sound {B n : Nat} {φ : Phi} {H : AHeap} {w : World} {a : ATmps} {act : Act} (hr : Rel P.globals.size B φ H w) (ha : ATRel φ n a act) : ∀ (rs : List ResultVar) (K : List Value → Prop), aResL P rs a H K →
    ∃ vs us, K vs ∧ VRels φ vs us ∧ (rs.mapM (resOne act.tmps)).run P w = .ok us w
  | [], K, h => ⟨[], [], h, VRels.nil φ, rfl⟩
  | r :: rs, K, h => by
    obtain ⟨v, hv, h⟩ := bnd_iff.1 h
    obtain ⟨vs, us, h1, h2, h3⟩ := resL_sound hr ha rs _ h
    have hr1 : ∃ u, (resOne act.tmps r).run P w = .ok u w ∧ VRel φ v u := by
      cases r with
      | tmp t =>
        simp only [aRes1, Option.some.injEq] at hv
        subst hv
        exact ⟨_, rfl, ha.get t⟩
      | cell p t => exact loadVar_sound hr (ha.get p) hv
    obtain ⟨u, hu, hvu⟩ := hr1
    refine ⟨v :: vs, u :: us, h1, VRels.cons hvu h2, ?_⟩
    rw [List.mapM_cons, Sem.run_bind, hu, Result.andThen_ok, Sem.run_bind, h3, Result.andThen_ok]
    rfl

theorem results_sound {B n : Nat} {φ : Phi} {H : AHeap} {w : World} {a : ATmps} {act : Act} (hr : Rel P.globals.size B φ H w) (ha : ATRel φ n a act) {fn : Func} {K : List Value → Prop} (h : aResL P fn.results.toList a H K) :
    ∃ vs u, K vs ∧ (results fn act.tmps).run P w = .ok u w ∧ VRel φ (aTuple vs) u := by
  obtain ⟨vs, us, h1, h2, h3⟩ := resL_sound hr ha _ _ h
  refine ⟨vs, aTuple us, h1, ?_, ?_⟩
  · rw [results_eq, Array.mapM_eq_mapM_toList]
    simp only [Sem.run_bind, Sem.run_map, h3, Result.andThen_ok, Sem.run_pure]
    congr 1
    cases us with
    | nil => rfl
    | cons u us => cases us with
      | nil => rfl
      | cons v us => simp [aTuple]
  · cases vs with
    | nil =>
      have : us = [] := List.eq_nil_of_length_eq_zero h2.1.symm
      subst this
      exact tuple_of h2
    | cons v vs =>
      cases us with
      | nil => exact absurd h2.1 (by simp)
      | cons u us =>
        cases vs with
        | nil =>
          have : us = [] := by have := h2.1; simpa using this.symm
          subst this
          exact h2.2 0 v u (by simp) (by simp)
        | cons v' vs =>
          cases us with
          | nil => exact absurd h2.1 (by simp)
          | cons u' us => exact tuple_of h2

theorem calls_of_awp {f : FuncId} {fn : Func} {c : Code} {an : Ann} {args : List Value} {H : AHeap} {K : Value → AHeap → Prop} (hm : P.follows .mixedOrders = true) (hf : P.funcs[f]? = some fn) (hb : fn.body = some c)
    (hok : codeOk P fn.ntmps c an = true) (hl : args.length ≤ fn.ntmps) (h : awpFn P c fn.results.toList an args H K) : ACalls P f args H K := by
  intro B φ w cargs hr hv
  refine Go.calls_of_wp hf hb ?_
  have hcl : cargs.length = args.length := hv.1.symm
  have ha : ATRel φ fn.ntmps (argTmps args) { tmps := cargs.toArray ++ Array.replicate (fn.ntmps - cargs.toArray.size) undef, defers := [] } := by
    refine ⟨by simp; omega, fun t ht => ?_, fun t ht => ?_, rfl⟩
    · unfold argTmps
      rw [List.getD_eq_getElem?_getD, List.getElem?_eq_none (by omega)]
      rfl
    · unfold argTmps
      rw [List.getD_eq_getElem?_getD, Array.getD_eq_getD_getElem?]
      by_cases h1 : t < args.length
      · rw [Array.getElem?_append_left (by simp; omega), List.getElem?_eq_getElem h1]
        have h2 : cargs.toArray[t]? = some cargs[t] := by simp
        rw [h2]
        exact hv.2 t _ _ (List.getElem?_eq_getElem h1) (List.getElem?_eq_getElem (by omega))
      · rw [List.getElem?_eq_none (by omega), Array.getElem?_append_right (by simp; omega)]
        rw [Array.getElem?_replicate]
        split <;> exact VRel.undef φ
  refine awp_sound (n := fn.ntmps) hm c an _ _ H φ w _ _ h hok hr ha fun e a' H' φ' act' w' hQ hst ha' _ => ?_
  cases e with
  | normal =>
    obtain ⟨vs, u, h1, h2, h3⟩ := results_sound hst.rel ha' hQ
    exact ⟨ha'.defers, u, h2, aTuple vs, H', φ', u, rfl, h1, hst, h3⟩
  | ret =>
    obtain ⟨vs, u, h1, h2, h3⟩ := results_sound hst.rel ha' hQ
    exact ⟨ha'.defers, u, h2, aTuple vs, H', φ', u, rfl, h1, hst, h3⟩
  | exit i => exact hQ.elim

/-- What is left behind a call is thrown away. -/
theorem ACalls.tidy {f : FuncId} {args : List Value} {H : AHeap} {K L : Value → AHeap → Prop} (h : ACalls P f args H K)
    (ht : ∀ v H', K v H' → ∃ H'', Tidy H H' H'' ∧ VIn (fun c => c < H.next ∨ (c < H''.next ∧ (H''.at_ c).alive = true)) v ∧ L v H'') : ACalls P f args H L := by
  intro B φ w cargs hr hv
  refine (h B φ w cargs hr hv).mono fun e w' ⟨v, H', φ', u, he, hK, hst, hvu⟩ => ?_
  obtain ⟨H'', t1, t2, t3⟩ := ht v H' hK
  obtain ⟨φ'', s1, s2⟩ := hst.tidy hr H'' t1
  exact ⟨v, H'', φ'', u, he, t3, s1, s2 v u t2 hvu⟩

/-- Nothing is made that is kept. -/
theorem Tidy.same {H H' : AHeap} (hw : ∀ b, H.next ≤ b → H.at_ b = .dead) (h : ∀ b, b < H.next → H'.at_ b = H.at_ b) : Tidy H H' H :=
  ⟨Nat.le_refl _, fun b => by
    rcases Nat.lt_or_ge b H.next with hb | hb
    · exact .inl (h b hb).symm
    · exact .inr (hw b hb), fun b hb => by
    rcases Nat.lt_or_ge b H.next with h1 | h1
    · exact .inl ⟨h1, rfl⟩
    · rw [hw b h1] at hb; simp [Blk.alive] at hb⟩
end
end Go.Abs
