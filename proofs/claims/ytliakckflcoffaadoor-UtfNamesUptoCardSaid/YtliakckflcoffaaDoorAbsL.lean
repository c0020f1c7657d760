/- Regions in the order of the text; guards. -/
import Derived.Test.YtliakckflcoffaaDoorAbsK
set_option linter.unusedVariables false
set_option linter.unusedSimpArgs false
namespace Go.Abs
open Go

def aput (a : ATmps) (d : Option Tmp) (v : Value) : ATmps := match d with
  | some t => fun i => match Nat.beq i t with | true => v | false => a i
  | none => a

/-- What an operation that is guarded looks at. -/
def gval (ops : Array Oper) (a : ATmps) (j : Nat) : Value := match ops[j]? with
  | some o => match o.dst with
    | some d => a d
    | none => undef
  | none => undef
def aGuardK (g : Value) (want : Bool) (F : (Value → AHeap → Prop) → AHeap → Prop) (K : Value → AHeap → Prop) (H : AHeap) : Prop := match g with
  | .bool b => if b = want then F K H else K undef H
  | .tuple _ => K undef H
  | _ => False
def aopG (P : Program) (ops : Array Oper) (o : Oper) (a : ATmps) (H : AHeap) (K : Value → AHeap → Prop) : Prop := match o.guard with
  | none => aopK P o.op a H K
  | some (j, want) => aGuardK (gval ops a j) want (fun K H => aopK P o.op a H K) K H

def awpOps (P : Program) (ops : Array Oper) : List Nat → ATmps → AHeap → (ATmps → AHeap → Prop) → Prop
  | [], a, H, K => K a H
  | i :: r, a, H, K => match ops[i]? with
    | none => False
    | some o => aopG P ops o a H fun v H => awpOps P ops r (aput a o.dst v) H K

/-- All temporaries that are written are there. -/
def dstOk (n : Nat) (ops : Array Oper) : Bool := ops.toList.all fun o => match o.dst with | some d => decide (d < n) | none => true

theorem dstOk_at {n : Nat} {ops : Array Oper} (h : dstOk n ops = true) {i : Nat} {o : Oper} (ho : ops[i]? = some o) {d : Tmp} (hd : o.dst = some d) : d < n := by
  have := (List.all_eq_true.1 h) o (by rw [← Array.getElem?_toList] at ho; exact List.mem_of_getElem? ho)
  rw [hd] at this
  exact of_decide_eq_true this

theorem beq_ne {t d : Nat} (h : t ≠ d) : Nat.beq t d = false := by
  cases hb : Nat.beq t d with
  | false => rfl
  | true => exact absurd (Nat.eq_of_beq_eq_true hb) h

theorem ATRel.put {φ : Phi} {n : Nat} {a : ATmps} {act : Act} (h : ATRel φ n a act) {dst : Option Tmp} (hd : ∀ d, dst = some d → d < n) {v u : Value} (hv : VRel φ v u) : ATRel φ n (aput a dst v) (act.put dst u) := by
  cases dst with
  | none => exact h
  | some d =>
    have hlt := hd d rfl
    refine ⟨by simp [Act.put, h.size], fun t ht => ?_, fun t ht => ?_, h.defers⟩
    · have : Nat.beq t d = false := beq_ne (Nat.ne_of_gt (Nat.lt_of_lt_of_le hlt ht))
      simp only [aput, this]
      exact h.out t ht
    · simp only [aput, Act.put]
      by_cases e : t = d
      · subst e
        have : Nat.beq t t = true := Nat.beq_refl t
        simp only [this, Array.getD_eq_getD_getElem?, Array.getElem?_setIfInBounds, if_true]
        rw [if_pos (by rw [h.size]; exact ht)]
        exact hv
      · have : Nat.beq t d = false := beq_ne e
        simp only [this, Array.getD_eq_getD_getElem?, Array.getElem?_setIfInBounds, if_neg (Ne.symm e)]
        have := h.rel t ht
        simpa [Array.getD_eq_getD_getElem?] using this

theorem gval_rel {φ : Phi} {n : Nat} {a : ATmps} {act : Act} (h : ATRel φ n a act) {ops : Array Oper} (hok : dstOk n ops = true) {j : Nat} {b : Bool} (hg : gval ops a j = .bool b) : yielded ops act.tmps j = some b := by
  unfold gval at hg
  split at hg
  · rename_i o ho
    split at hg
    · rename_i d hd
      have hlt := dstOk_at hok ho hd
      have := h.rel d hlt
      rw [hg] at this
      have he := this.bool
      have hs : d < act.tmps.size := by rw [h.size]; exact hlt
      have : act.tmps[d]? = some (.bool b) := by
        simp only [Array.getD_eq_getD_getElem?, Array.getElem?_eq_getElem hs, Option.getD_some] at he
        rw [Array.getElem?_eq_getElem hs, he]
      simp [yielded, ho, hd, this]
    · simp [undef] at hg
  · simp [undef] at hg

theorem gval_tuple {φ : Phi} {n : Nat} {a : ATmps} {act : Act} (h : ATRel φ n a act) {ops : Array Oper} (hok : dstOk n ops = true) {j : Nat} {vs : Array Value} (hg : gval ops a j = .tuple vs) : yielded ops act.tmps j = none := by
  unfold gval at hg
  split at hg
  · rename_i o ho
    split at hg
    · rename_i d hd
      have hlt := dstOk_at hok ho hd
      have := h.rel d hlt
      rw [hg] at this
      obtain ⟨us, he, _⟩ := this.tupleInv
      have hs : d < act.tmps.size := by rw [h.size]; exact hlt
      have : act.tmps[d]? = some (.tuple us) := by
        simp only [Array.getD_eq_getD_getElem?, Array.getElem?_eq_getElem hs, Option.getD_some] at he
        rw [Array.getElem?_eq_getElem hs, he]
      simp [yielded, ho, hd, this]
    · rename_i hd
      simp [yielded, ho, hd]
  · rename_i ho
    simp [yielded, ho]

/-- An operation with its guard. -/
theorem opG_sound {P : Program} {B : Nat} {φ : Phi} {H : AHeap} {w : World} {n : Nat} {a : ATmps} {act : Act} {ops : Array Oper} (hok : dstOk n ops = true) {i : Nat} {o : Oper} (ho : ops[i]? = some o) {K : Value → AHeap → Prop}
    (h : aopG P ops o a H K) (hr : Rel P.globals.size B φ H w) (ha : ATRel φ n a act) {next : Act → World → Prop} {Q : Exit → Act → World → Prop}
    (hk : ∀ v H' φ' w' u, K v H' → Step P.globals.size B φ H w φ' H' w' → VRel φ' v u → next (act.put o.dst u) w') : wpOp P ops Q i next act w := by
  unfold wpOp
  simp only [ho]
  unfold aopG at h
  split at h
  · rename_i hg
    have hw : Region.wanted o (yielded ops act.tmps) = true := by simp [Region.wanted, hg]
    rw [if_pos hw]
    exact .inl (op_sound h hr ha hk)
  · rename_i j want hg
    unfold aGuardK at h
    split at h
    · rename_i b hb
      have hy := gval_rel ha hok hb
      split at h
      · rename_i hbw
        subst hbw
        have hw : Region.wanted o (yielded ops act.tmps) = true := by simp [Region.wanted, hg, hy]
        rw [if_pos hw]
        exact .inl (op_sound h hr ha hk)
      · rename_i hbw
        have hw : ¬ Region.wanted o (yielded ops act.tmps) = true := by simp [Region.wanted, hg, hy, hbw]
        rw [if_neg hw]
        exact hk undef H φ w undef h (Step.refl hr) (VRel.undef φ)
    · rename_i vs hb
      have hy := gval_tuple ha hok hb
      have hw : ¬ Region.wanted o (yielded ops act.tmps) = true := by simp [Region.wanted, hg, hy]
      rw [if_neg hw]
      exact hk undef H φ w undef h (Step.refl hr) (VRel.undef φ)
    · exact h.elim

theorem ops_sound {P : Program} {B : Nat} {n : Nat} {ops : Array Oper} (hok : dstOk n ops = true) {Q : Exit → Act → World → Prop} {K : ATmps → AHeap → Prop} : ∀ (il : List Nat) (φ : Phi) (H : AHeap) (w : World) (a : ATmps) (act : Act),
    awpOps P ops il a H K → Rel P.globals.size B φ H w → ATRel φ n a act →
    (∀ a' H' φ' act' w', K a' H' → Step P.globals.size B φ H w φ' H' w' → ATRel φ' n a' act' → Q .normal act' w') → wpOps P ops Q il act w
  | [], φ, H, w, a, act, h, hr, ha, hk => hk a H φ act w h (Step.refl hr) ha
  | i :: r, φ, H, w, a, act, h, hr, ha, hk => by
    rw [wpOps_cons]
    simp only [awpOps] at h
    split at h
    · exact h.elim
    · rename_i o ho
      refine opG_sound hok ho h hr ha fun v H' φ' w' u h1 h2 h3 => ?_
      exact ops_sound hok r φ' H' w' _ _ h1 h2.rel ((ha.mono (h2.le hr)).put (fun d hd => dstOk_at hok ho hd) h3) fun a' H'' φ'' act' w'' k1 k2 k3 => hk a' H'' φ'' act' w'' k1 (h2.trans k2) k3
end Go.Abs
