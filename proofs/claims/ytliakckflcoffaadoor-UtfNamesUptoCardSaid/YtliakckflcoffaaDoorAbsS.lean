/- Code: what it comes to, said of abstract values alone. -/
import Derived.Test.YtliakckflcoffaaDoorAbsR
set_option linter.unusedVariables false
set_option linter.unusedSimpArgs false
namespace Go.Abs
open Go

inductive AExit
  | normal
  | exit (id : Nat)
  | ret

abbrev AQ := AExit → ATmps → AHeap → Prop

/-- What is told of code beside it: of a drawn region its plan, of a loop what lives through it and what it writes. -/
inductive Ann
  | leaf
  | draw (pl : List (Nat × List Nat))
  | one (p : Ann)
  | two (p q : Ann)
  | loop (S W : List Nat) (p : Ann)
  | join (S W : List Nat) (p q : Ann)

def nth (vs : List Value) (k : Nat) : Value := vs.getD k undef
def mergeAt : List Nat → Nat → List Value → Nat → Option Value
  | [], _, _, _ => none
  | s :: S, k, vs, t => match Nat.beq t s with
    | true => some (nth vs k)
    | false => mergeAt S (k + 1) vs t
def isIn : List Nat → Nat → Bool
  | [], _ => false
  | s :: S, t => match Nat.beq t s with
    | true => true
    | false => isIn S t
def merge (a : ATmps) (S W : List Nat) (vs : List Value) : ATmps := fun t => match mergeAt S 0 vs t with
  | some v => v
  | none => match isIn W t with
    | true => poison
    | false => a t

def aCond (v : Value) (p q : Prop) : Prop := match v with
  | .bool b => if b then p else q
  | _ => False
def aLoop (vs0 : List Value) (H0 : AHeap) (body : List Value → AHeap → (List Value → AHeap → Prop) → Prop) : Prop :=
  ∃ (I : Nat → List Value → AHeap → Prop) (m : Nat), I m vs0 H0 ∧ ∀ m vs H, I m vs H → body vs H fun vs' H' => ∃ k, k < m ∧ I k vs' H'

def aJoin (J : List Value → AHeap → Prop) (F : (List Value → AHeap → Prop) → Prop) : Prop := F J

def awp (P : Program) : Code → Ann → AQ → ATmps → AHeap → Prop
  | .skip, _, Q, a, H => Q .normal a H
  | .region _ ops d, an, Q, a, H => match d, an with
    | false, _ => awpOps P ops (List.range ops.size) a H (Q .normal)
    | true, .draw pl => awpDraw P ops pl a H (Q .normal)
    | true, _ => False
  | .seq x y, .two p q, Q, a, H => awp P x p (fun e a H => match e with
    | .normal => awp P y q Q a H
    | .exit i => Q (.exit i) a H
    | .ret => Q .ret a H) a H
  | .seq x y, .join S W p q, Q, a, H => aJoin (fun vs H => awp P y q Q (merge a S W vs) H) fun J => awp P x p (fun e a' H' => match e with
    | .normal => J (S.map a') H'
    | .exit i => Q (.exit i) a' H'
    | .ret => Q .ret a' H') a H
  | .cond c x y, .two p q, Q, a, H => aCond (aeval P.globals.size a c) (awp P x p Q a H) (awp P y q Q a H)
  | .block id c, .one p, Q, a, H => awp P c p (fun e a H => match e with
    | .normal => Q .normal a H
    | .exit i => (match Nat.beq i id with
      | true => Q .normal a H
      | false => Q (.exit i) a H)
    | .ret => Q .ret a H) a H
  | .loop c, .loop S W p, Q, a, H => aLoop (S.map a) H fun vs H cont => awp P c p (fun e a' H' => match e with
    | .normal => cont (S.map a') H'
    | .exit i => Q (.exit i) a' H'
    | .ret => Q .ret a' H') (merge a S W vs) H
  | .exit id, _, Q, a, H => Q (.exit id) a H
  | .ret, _, Q, a, H => Q .ret a H
  | _, _, _, _, _ => False

/-- The temporaries that code writes. -/
def wrOps (ops : Array Oper) : List Nat := ops.toList.filterMap (·.dst)
def wr : Code → List Nat
  | .region _ ops _ => wrOps ops
  | .seq x y => wr x ++ wr y
  | .cond _ x y => wr x ++ wr y
  | .block _ c => wr c
  | .loop c => wr c
  | _ => []

def codeOk (P : Program) (n : Nat) : Code → Ann → Bool
  | .region _ ops d, an => dstOk n ops && (match d, an with
    | false, _ => true
    | true, .draw pl => planOk P ops pl
    | true, _ => false)
  | .seq x y, .two p q => codeOk P n x p && codeOk P n y q
  | .seq x y, .join S W p q => codeOk P n x p && codeOk P n y q && S.all (isIn W) && (wr x).all (isIn W) && W.all (fun t => Nat.blt t n) && W.all (isIn (wr x))
  | .cond _ x y, .two p q => codeOk P n x p && codeOk P n y q
  | .block _ c, .one p => codeOk P n c p
  | .loop c, .loop S W p => codeOk P n c p && S.all (isIn W) && (wr c).all (isIn W) && W.all (fun t => Nat.blt t n) && W.all (isIn (wr c))
  | .skip, _ => true
  | .exit _, _ => true
  | .ret, _ => true
  | _, _ => false

theorem isIn_iff {S : List Nat} {t : Nat} : isIn S t = true ↔ t ∈ S := by
  induction S with
  | nil => simp [isIn]
  | cons s S ih =>
    simp only [isIn, List.mem_cons]
    cases h : Nat.beq t s with
    | true => simp [Nat.eq_of_beq_eq_true h]
    | false =>
      have : t ≠ s := fun e => by rw [e, Nat.beq_refl] at h; cases h
      simp [this, ih]
theorem mergeAt_some {a : ATmps} {t : Nat} {vs : List Value} : ∀ {S : List Nat} {k : Nat}, t ∈ S → (∀ j s, S[j]? = some s → nth vs (k + j) = a s) → mergeAt S k vs t = some (a t)
  | [], _, h, _ => by simp at h
  | s :: S, k, h, hv => by
    simp only [mergeAt]
    cases hb : Nat.beq t s with
    | true =>
      have := Nat.eq_of_beq_eq_true hb
      subst this
      have := hv 0 t (by simp)
      simp only [Nat.add_zero] at this
      rw [this]
    | false =>
      have hne : t ≠ s := fun e => by rw [e, Nat.beq_refl] at hb; cases hb
      refine mergeAt_some (by rcases List.mem_cons.1 h with e | h; exact absurd e hne; exact h) fun j s' hj => ?_
      have := hv (j + 1) s' (by simpa using hj)
      rw [show k + 1 + j = k + (j + 1) by omega]
      exact this
theorem mergeAt_none {t : Nat} {vs : List Value} : ∀ {S : List Nat} {k : Nat}, t ∉ S → mergeAt S k vs t = none
  | [], _, _ => rfl
  | s :: S, k, h => by
    simp only [mergeAt]
    rw [beq_ne (fun e => h (by rw [e]; simp))]
    exact mergeAt_none fun hh => h (List.mem_cons_of_mem _ hh)
theorem nth_map (a : ATmps) (S : List Nat) (j s : Nat) (h : S[j]? = some s) : nth (S.map a) (0 + j) = a s := by
  simp [nth, List.getD_eq_getElem?_getD, h]
theorem merge_at {a a' : ATmps} {S W : List Nat} (t : Nat) : merge a S W (S.map a') t = if t ∈ S then a' t else if t ∈ W then poison else a t := by
  unfold merge
  by_cases h : t ∈ S
  · rw [mergeAt_some (a := a') h (nth_map a' S), if_pos h]
  · rw [mergeAt_none h, if_neg h]
    by_cases hw : t ∈ W
    · simp only [isIn_iff.2 hw, if_pos hw]
    · have : isIn W t = false := by cases hb : isIn W t; rfl; exact absurd (isIn_iff.1 hb) hw
      simp only [this, if_neg hw]

theorem ATRel.merge {φ : Phi} {n : Nat} {a a' : ATmps} {act : Act} {S W : List Nat} (h : ATRel φ n a' act) (hS : ∀ t ∈ S, t ∈ W) (hW : ∀ t ∈ W, t < n) (hout : ∀ t, t ∉ W → a' t = a t) : ATRel φ n (Abs.merge a S W (S.map a')) act := by
  refine ⟨h.size, fun t ht => ?_, fun t ht => ?_, h.defers⟩
  · have hw : t ∉ W := fun hh => absurd (hW t hh) (Nat.not_lt.2 ht)
    rw [merge_at, if_neg (fun hh => hw (hS t hh)), if_neg hw, ← hout t hw]
    exact h.out t ht
  · rw [merge_at]
    split
    · exact h.rel t ht
    · split
      · exact .top
      · rename_i hw
        rw [← hout t hw]
        exact h.rel t ht

section
variable {P : Program}

theorem aopG_mono {ops : Array Oper} {o : Oper} {a : ATmps} {H : AHeap} {K L : Value → AHeap → Prop} (h : aopG P ops o a H K) (hKL : ∀ v H', K v H' → L v H') : aopG P ops o a H L := by
  unfold aopG at h ⊢
  split at h
  · exact aopK_mono h hKL
  · unfold aGuardK at h ⊢
    split at h
    · rename_i b hb
      split at h
      · rename_i hbw; simp only [if_pos hbw]; exact aopK_mono h hKL
      · rename_i hbw; simp only [if_neg hbw]; exact hKL _ _ h
    · rename_i vs hb; exact hKL _ _ h
    · exact h.elim

theorem wrOps_mem {ops : Array Oper} {i : Nat} {o : Oper} (ho : ops[i]? = some o) {d : Tmp} (hd : o.dst = some d) : d ∈ wrOps ops :=
  List.mem_filterMap.2 ⟨o, by rw [← Array.getElem?_toList] at ho; exact List.mem_of_getElem? ho, hd⟩

theorem awpOps_frame {ops : Array Oper} {K : ATmps → AHeap → Prop} : ∀ (il : List Nat) (a : ATmps) (H : AHeap), awpOps P ops il a H K → awpOps P ops il a H fun a' H' => K a' H' ∧ ∀ t, t ∉ wrOps ops → a' t = a t
  | [], a, H, h => ⟨h, fun _ _ => rfl⟩
  | i :: r, a, H, h => by
    simp only [awpOps] at h ⊢
    split at h
    · exact h.elim
    · rename_i o ho
      refine aopG_mono h fun v H' h' => ?_
      have := awpOps_frame r _ _ h'
      have e : (fun (a' : ATmps) (H' : AHeap) => K a' H' ∧ ∀ t, t ∉ wrOps ops → a' t = aput a o.dst v t) = (fun a' H' => K a' H' ∧ ∀ t, t ∉ wrOps ops → a' t = a t) := by
        funext a' H'
        apply propext
        refine and_congr Iff.rfl (forall_congr' fun t => forall_congr' fun ht => ?_)
        rw [aput_ne (fun e => ht (wrOps_mem ho e))]
      rw [e] at this
      exact this
theorem awpDraw_frame {ops : Array Oper} {K : ATmps → AHeap → Prop} : ∀ (il : List (Nat × List Nat)) (a : ATmps) (H : AHeap), awpDraw P ops il a H K → awpDraw P ops il a H fun a' H' => K a' H' ∧ ∀ t, t ∉ wrOps ops → a' t = a t
  | [], a, H, h => ⟨h, fun _ _ => rfl⟩
  | (i, R) :: r, a, H, h => by
    simp only [awpDraw] at h ⊢
    split at h
    · exact h.elim
    · rename_i o ho
      refine aopG_mono h fun v H' h' => ?_
      have e : (fun (a' : ATmps) (H' : AHeap) => K a' H' ∧ ∀ t, t ∉ wrOps ops → a' t = aput a o.dst v t) = (fun a' H' => K a' H' ∧ ∀ t, t ∉ wrOps ops → a' t = a t) := by
        funext a' H'
        apply propext
        refine and_congr Iff.rfl (forall_congr' fun t => forall_congr' fun ht => ?_)
        rw [aput_ne (fun e => ht (wrOps_mem ho e))]
      cases R with
      | nil =>
        have := awpDraw_frame r _ _ h'
        rw [e] at this
        exact this
      | cons x xs =>
        have := awpDraw_frame r _ _ h'.2
        rw [e] at this
        exact ⟨h'.1, this⟩
end
end Go.Abs
