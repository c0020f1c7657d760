/- Regions whose order is drawn: operations that only read, or make memory, may stand anywhere. -/
import Derived.Test.YtliakckflcoffaaDoorAbsL
import Derived.Orders
set_option linter.unusedVariables false
set_option linter.unusedSimpArgs false
namespace Go.Abs
open Go

inductive Cls
  | pure
  | read
  | new
  | eff
  deriving DecidableEq
def cls (P : Program) : Op → Cls
  | .move _ => .pure
  | .assign _ => .pure
  | .pick _ _ _ => .pure
  | .build _ _ => .pure
  | .nilCheck _ => .pure
  | .binOp _ t _ _ _ => match eqKind P t with
    | .slice => .eff
    | _ => .pure
  | .unOp _ _ _ => .pure
  | .convert s d _ => match P.underlying s, P.underlying d with
    | some (.int _), some (.int _) => .pure
    | some (.slice _), some .string => .read
    | _, _ => .eff
  | .makeFunc _ _ _ => .pure
  | .slice _ _ _ _ _ => .pure
  | .fieldAddr _ _ _ => .pure
  | .field _ _ _ => .pure
  | .indexAddr _ _ _ => .pure
  | .index _ _ _ => .pure
  | .extract _ _ => .pure
  | .call { callee := .builtin .len, .. } => .pure
  | .call { callee := .builtin .unsafeSliceData, .. } => .pure
  | .load _ _ => .read
  | .alloc _ => .new
  | .buildSlice _ _ _ => .new
  | .makeMap _ none => .new
  | _ => .eff

/-- Where a value's block is. -/
def blkOf : Value → Nat
  | .pointer (some ⟨b, _, _⟩) => b
  | .slice (some ⟨b, _, _⟩) _ _ => b
  | .map (some b) => b
  | _ => 0

/-- Behind an effect: what may be looked at later is as it was. -/
def stable (P : Program) (ops : Array Oper) (q : Nat) (a : ATmps) (H H' : AHeap) : Prop := match ops[q]? with
  | none => False
  | some o => match o.dst with
    | none => False
    | some d => match cls P o.op with
      | .read => aopG P ops o a H' fun v _ => v = a d
      | _ => H'.at_ (blkOf (a d)) = H.at_ (blkOf (a d))
def stables (P : Program) (ops : Array Oper) : List Nat → ATmps → AHeap → AHeap → Prop
  | [], _, _, _ => True
  | [q], a, H, H' => stable P ops q a H H'
  | q :: r, a, H, H' => stable P ops q a H H' ∧ stables P ops r a H H'

def aStab (P : Program) (ops : Array Oper) (l : List Nat) (a : ATmps) (H H' : AHeap) (X : Prop) : Prop := match l with
  | [] => X
  | _ => stables P ops l a H H' ∧ X

def awpDraw (P : Program) (ops : Array Oper) : List (Nat × List Nat) → ATmps → AHeap → (ATmps → AHeap → Prop) → Prop
  | [], a, H, K => K a H
  | (i, l) :: r, a, H, K => match ops[i]? with
    | none => False
    | some o => aopG P ops o a H fun v H' => aStab P ops l a H H' (awpDraw P ops r (aput a o.dst v) H' K)

theorem aStab_out {P : Program} {ops : Array Oper} {l : List Nat} {a : ATmps} {H H' : AHeap} {X : Prop} (h : aStab P ops l a H H' X) : stables P ops l a H H' ∧ X := by
  cases l with
  | nil => exact ⟨trivial, h⟩
  | cons q r => exact h
theorem stables_mem {P : Program} {ops : Array Oper} {a : ATmps} {H H' : AHeap} : ∀ {l : List Nat}, stables P ops l a H H' → ∀ q ∈ l, stable P ops q a H H'
  | [], _, q, hq => by simp at hq
  | [x], h, q, hq => by simp at hq; subst hq; exact h
  | x :: y :: r, h, q, hq => by
    rcases List.mem_cons.1 hq with rfl | hq
    · exact h.1
    · exact stables_mem h.2 q hq

/-- The operations that must be behind an operation. -/
def preds (ops : Array Oper) (j : Nat) : List Nat := match ops[j]? with
  | some o => (o.after.toList.filter fun e => Region.binds .any e).map (·.on)
  | none => []
def reaches (ops : Array Oper) : Nat → Nat → Nat → Bool
  | 0, _, _ => false
  | f + 1, i, j => (preds ops j).contains i || (preds ops j).any fun p => reaches ops f i p

def odst (ops : Array Oper) (i : Nat) : Option Tmp := (ops[i]?).bind (·.dst)
def olooks (ops : Array Oper) (i : Nat) : List Tmp := match ops[i]? with
  | some o => o.looksAt ops
  | none => []
/-- What is done here and there at once: effects, and what sets a variable anew that was looked at. -/
def isEff (P : Program) (ops : Array Oper) (i : Nat) : Bool := match ops[i]? with
  | some o => decide (cls P o.op = .eff) || (match o.dst with
    | some d => (List.range ops.size).any fun j => (olooks ops j).contains d && reaches ops ops.size j i
    | none => false)
  | none => false
theorem not_eff {P : Program} {ops : Array Oper} {i : Nat} {o : Oper} (ho : ops[i]? = some o) (h : isEff P ops i = false) : cls P o.op ≠ .eff := by
  unfold isEff at h
  rw [ho] at h
  simp only [Bool.or_eq_false_iff, decide_eq_false_iff_not] at h
  exact h.1
def isReadNew (P : Program) (ops : Array Oper) (i : Nat) : Bool := match ops[i]? with
  | some o => decide (cls P o.op = .read) || decide (cls P o.op = .new)
  | none => false

/-- One step of a plan, behind others. -/
def planAt (P : Program) (ops : Array Oper) (l1 : List Nat) (i : Nat) (R : List Nat) (l2 : List Nat) : Bool :=
  let f := ops.size
  Nat.blt i ops.size && !l1.contains i && (preds ops i).all (fun p => l1.contains p) &&
  (match odst ops i with | some d => !(olooks ops i).contains d | none => true) && l2.all (fun j => match odst ops j with | some d => !(olooks ops i).contains d || (isEff P ops j && reaches ops f i j) | none => true) &&
  l1.all (fun j => (match odst ops j with | some d => !(olooks ops i).contains d || reaches ops f j i | none => true) &&
    (match odst ops j, odst ops i with | some d, some d' => d != d' | _, _ => true) &&
    (!isEff P ops j || reaches ops f j i) && (!isEff P ops i || !isReadNew P ops j || R.contains j || reaches ops f j i))
def planGo (P : Program) (ops : Array Oper) : List Nat → List (Nat × List Nat) → Bool
  | _, [] => true
  | l1, (i, R) :: r => planAt P ops l1 i R (r.map (·.1)) && planGo P ops (l1 ++ [i]) r
def planOk (P : Program) (ops : Array Oper) (pl : List (Nat × List Nat)) : Bool :=
  (pl.length == ops.size) && (List.range ops.size).all (fun i => (pl.map (·.1)).contains i) && planGo P ops [] pl

section
variable {P : Program}

theorem aeval_congr {G : Nat} {a a' : ATmps} {x : Operand} (h : ∀ t, x = .tmp t → a t = a' t) : aeval G a x = aeval G a' x := by
  cases x with
  | tmp t => exact h t rfl
  | _ => rfl

theorem aopK_congr {op : Op} {a a' : ATmps} {H : AHeap} {K : Value → AHeap → Prop} (h : ∀ t, Operand.tmp t ∈ op.operands.toList → a t = a' t) (hk : aopK P op a H K) : aopK P op a' H K := by
  have e : ∀ x ∈ op.operands.toList, aeval P.globals.size a x = aeval P.globals.size a' x := fun x hx => aeval_congr fun t ht => h t (ht ▸ hx)
  have em : ∀ (xs : Array Operand), (∀ x ∈ xs.toList, x ∈ op.operands.toList) → opArgs P.globals.size a xs = opArgs P.globals.size a' xs := by
    intro xs hx
    exact List.map_congr_left fun x h1 => e x (hx x h1)
  have ep : ∀ (xs : Array (Nat × Operand)), (∀ p ∈ xs.toList, p.2 ∈ op.operands.toList) → opParts P.globals.size a xs = opParts P.globals.size a' xs := by
    intro xs hx
    refine List.map_congr_left fun p h1 => ?_
    rw [e p.2 (hx p h1)]
  have eo : ∀ (x : Option Operand), (∀ y, x = some y → y ∈ op.operands.toList) → opOpt P.globals.size a x = opOpt P.globals.size a' x := by
    intro x hx
    cases x with
    | none => rfl
    | some y => simp only [opOpt, Option.map_some, e y (hx y rfl)]
  cases op with
  | move x => simpa only [aopK, e x (by simp [Op.operands])] using hk
  | assign x => simpa only [aopK, e x (by simp [Op.operands])] using hk
  | pick c x y => simpa only [aopK, e c (by simp [Op.operands]), e x (by simp [Op.operands]), e y (by simp [Op.operands])] using hk
  | alloc t => exact hk
  | box t x => simpa only [aopK, e x (by simp [Op.operands])] using hk
  | build t parts => simpa only [aopK, ep parts (by intro p hp; simp only [Op.operands]; simpa using ⟨p.1, by simpa using hp⟩)] using hk
  | buildSlice t len parts => simpa only [aopK, ep parts (by intro p hp; simp only [Op.operands]; simpa using ⟨p.1, by simpa using hp⟩)] using hk
  | load t x => simpa only [aopK, e x (by simp [Op.operands])] using hk
  | store t x y => simpa only [aopK, e x (by simp [Op.operands]), e y (by simp [Op.operands])] using hk
  | nilCheck x => simpa only [aopK, e x (by simp [Op.operands])] using hk
  | binOp op t x y t' => simpa only [aopK, e x (by simp [Op.operands]), e y (by simp [Op.operands])] using hk
  | unOp op t x => simpa only [aopK, e x (by simp [Op.operands])] using hk
  | convert s d x => simpa only [aopK, e x (by simp [Op.operands])] using hk
  | makeFunc fn first capt =>
    cases fn with
    | func f => simpa only [aopK, em first (by intro x hx; simp only [Op.operands]; simp at hx ⊢; exact .inl hx), em capt (by intro x hx; simp only [Op.operands]; simp at hx ⊢; exact .inr hx)] using hk
    | _ => exact hk
  | makeSlice t l c => simpa only [aopK, e l (by simp [Op.operands]), e c (by simp [Op.operands])] using hk
  | slice t x lo hi mx =>
    cases mx with
    | none => simpa only [aopK, e x (by simp [Op.operands]), eo lo (by intro y hy; subst hy; simp [Op.operands]), eo hi (by intro y hy; subst hy; simp [Op.operands])] using hk
    | some m => exact hk
  | fieldAddr s x f => simpa only [aopK, e x (by simp [Op.operands])] using hk
  | field s x f => simpa only [aopK, e x (by simp [Op.operands])] using hk
  | indexAddr t x i => simpa only [aopK, e x (by simp [Op.operands]), e i (by simp [Op.operands])] using hk
  | index t x i => simpa only [aopK, e x (by simp [Op.operands]), e i (by simp [Op.operands])] using hk
  | extract x i => simpa only [aopK, e x (by simp [Op.operands])] using hk
  | makeMap t r => cases r <;> exact hk
  | lookup t x i b =>
    cases b with
    | true => simpa only [aopK, e x (by simp [Op.operands]), e i (by simp [Op.operands])] using hk
    | false => exact hk
  | mapUpdate t m i x => simpa only [aopK, e m (by simp [Op.operands]), e i (by simp [Op.operands]), e x (by simp [Op.operands])] using hk
  | call c =>
    obtain ⟨callee, args, ats⟩ := c
    have eargs := em args (by intro x hx; simp only [Op.operands, Call.operands]; simp at hx ⊢; exact .inr hx)
    have eargs' : ∀ x ∈ args.toList, aeval P.globals.size a x = aeval P.globals.size a' x := fun x hx => e x (by simp only [Op.operands, Call.operands]; simp at hx ⊢; exact .inr hx)
    cases callee with
    | value f =>
      have ef := e f (by simp [Op.operands, Call.operands])
      cases f with
      | func g => simpa only [aopK, eargs] using hk
      | tmp t => simpa only [aopK, eargs, ef] using hk
      | const v => simpa only [aopK, eargs, ef] using hk
      | global g => simpa only [aopK, eargs, ef] using hk
    | invoke r m => exact hk
    | builtin b =>
      cases b <;> first | exact hk | simpa only [aopK, eargs] using hk
  | _ => exact hk

theorem bnd_mono {α : Type} {x : Option α} {K L : α → Prop} (h : bnd x K) (hKL : ∀ v, K v → L v) : bnd x L := by
  obtain ⟨v, hv, hk⟩ := bnd_iff.1 h
  exact bnd_iff.2 ⟨v, hv, hKL v hk⟩
theorem args1_mono {ts : List TypeId} {vs : List Value} {K L : TypeId → Value → Prop} (h : args1 ts vs K) (hKL : ∀ t v, K t v → L t v) : args1 ts vs L := by
  obtain ⟨t, v, rfl, rfl, h⟩ := args1_inv h
  exact hKL _ _ h
theorem args2_mono {ts : List TypeId} {vs : List Value} {K L : TypeId → TypeId → Value → Value → Prop} (h : args2 ts vs K) (hKL : ∀ t t' v v', K t t' v v' → L t t' v v') : args2 ts vs L := by
  obtain ⟨t, t', v, v', rfl, rfl, h⟩ := args2_inv h
  exact hKL _ _ _ _ h
theorem aLenX_mono {t : TypeId} {x : Value} {H : AHeap} {K L : Value → AHeap → Prop} (h : aLenX P t x H K) (hKL : ∀ v H', K v H' → L v H') : aLenX P t x H L := by
  unfold aLenX at h ⊢
  split at h
  · exact bnd_mono h fun v => hKL v H
  · exact bnd_mono h fun v => hKL v H
  · exact h.elim
theorem aAppX_mono {t t' : TypeId} {v x : Value} {H : AHeap} {K L : Value → AHeap → Prop} (h : aAppX P t t' v x H K) (hKL : ∀ v H', K v H' → L v H') : aAppX P t t' v x H L := by
  unfold aAppX at h ⊢
  split at h
  · exact bnd_mono h fun cs hcs => bnd_mono hcs fun nw hnw => ⟨hnw.1, hKL _ _ hnw.2⟩
  · split at h
    · unfold aZeros at h ⊢
      split at h
      · exact ⟨h.1, hKL _ _ h.2⟩
      · exact h.elim
    · unfold aAppStr at h ⊢
      split at h
      · exact bnd_mono h fun cs hcs => ⟨hcs.1, hKL _ _ hcs.2⟩
      · exact h.elim
    · exact h.elim
  · exact h.elim
theorem aUStr_mono {t : TypeId} {v v' : Value} {H : AHeap} {K L : Value → AHeap → Prop} (h : aUStr P t v v' H K) (hKL : ∀ v H', K v H' → L v H') : aUStr P t v v' H L := by
  unfold aUStr at h ⊢
  split at h
  · split at h
    · unfold aUString at h ⊢
      split at h
      · split at h
        · exact bnd_mono h fun l hl => ⟨hl.1, hKL _ _ hl.2⟩
        · exact h.elim
      · exact h.elim
    · exact h.elim
  · exact h.elim
theorem aCapX_mono {t : TypeId} {x : Value} {H : AHeap} {K L : Value → AHeap → Prop} (h : aCapX P t x H K) (hKL : ∀ v H', K v H' → L v H') : aCapX P t x H L := by
  unfold aCapX at h ⊢
  split at h
  · exact bnd_mono h fun v => hKL v H
  · exact h.elim
theorem aConvX_mono {P : Program} {s d : TypeId} {x : Value} {H : AHeap} {K L : Value → AHeap → Prop} (h : aConvX P s d x H K) (hKL : ∀ v H', K v H' → L v H') : aConvX P s d x H L := by
  unfold aConvX at h ⊢
  split at h
  · exact bnd_mono h fun v => hKL v H
  · exact bnd_mono h fun v => hKL v H
  · split at h
    · exact bnd_mono h fun v => hKL v H
    · exact h.elim
  · split at h
    · unfold aStrBytes at h ⊢
      split at h
      · exact ⟨h.1, hKL _ _ h.2⟩
      · exact h.elim
    · exact h.elim
  · split at h
    · unfold aMark at h ⊢
      split at h
      · split at h
        · exact ⟨h.1, hKL _ _ h.2⟩
        · exact h.elim
      · exact h.elim
    · exact h.elim
  · exact h.elim
theorem aopK_mono {op : Op} {a : ATmps} {H : AHeap} {K L : Value → AHeap → Prop} (h : aopK P op a H K) (hKL : ∀ v H', K v H' → L v H') : aopK P op a H L := by
  unfold aopK at h ⊢
  dsimp only at h ⊢
  split at h
  case h_1 => exact hKL _ _ h
  case h_2 => exact hKL _ _ h
  case h_3 => exact bnd_mono h fun v => hKL v H
  case h_4 => (repeat' (split at h)) <;> first | exact h.elim | (exact hKL _ _ h) | (simp only [*]; exact hKL _ _ h)
  case h_5 => exact ⟨h.1, hKL _ _ h.2⟩
  case h_6 => (repeat' (split at h)) <;> first | exact h.elim | (exact bnd_mono h fun v => hKL _ H) | (simp only [*]; exact bnd_mono h fun v => hKL _ H)
  case h_7 => (repeat' (split at h)) <;> first | exact h.elim | (exact bnd_mono h fun v hv => ⟨hv.1, hKL _ _ hv.2⟩) | (simp only [*]; exact bnd_mono h fun v hv => ⟨hv.1, hKL _ _ hv.2⟩)
  case h_8 => exact bnd_mono h fun v => hKL v H
  case h_9 => (repeat' (split at h)) <;> first | exact h.elim | (exact bnd_mono h fun v => hKL _ v) | (simp only [*]; exact bnd_mono h fun v => hKL _ v)
  case h_10 => exact bnd_mono h fun v => hKL v H
  case h_11 =>
    unfold aBinN at h ⊢
    split at h
    · rename_i hnr
      try simp only [hnr]
      exact bnd_mono h fun v => hKL v H
    · rename_i hnr
      try simp only [hnr]
      exact aBinK_mono h fun v => hKL v H
  case h_12 => exact bnd_mono h fun v => hKL v H
  case h_13 => exact aConvX_mono h hKL
  case h_14 => exact hKL _ _ h
  case h_15 =>
    split at h
    · rename_i h1
      try simp only [h1]
      unfold aMakeSlice at h ⊢
      split at h
      · exact ⟨h.1, hKL _ _ h.2⟩
      · exact h.elim
    · exact h.elim
  case h_16 => (repeat' (split at h)) <;> first | exact h.elim | (exact bnd_mono h fun v => hKL v H) | (simp only [*]; exact bnd_mono h fun v => hKL v H)
  case h_17 => (repeat' (split at h)) <;> first | exact h.elim | (exact bnd_mono h fun v => hKL v H) | (simp only [*]; exact bnd_mono h fun v => hKL v H)
  case h_18 => (repeat' (split at h)) <;> first | exact h.elim | (exact bnd_mono h fun v => hKL v H) | (simp only [*]; exact bnd_mono h fun v => hKL v H)
  case h_19 => (repeat' (split at h)) <;> first | exact h.elim | (exact bnd_mono h fun v => hKL v H) | (simp only [*]; exact bnd_mono h fun v => hKL v H)
  case h_20 => (repeat' (split at h)) <;> first | exact h.elim | (exact bnd_mono h fun v => hKL v H) | (simp only [*]; exact bnd_mono h fun v => hKL v H)
  case h_21 => exact bnd_mono h fun v => hKL v H
  case h_22 =>
    unfold aCallF at h ⊢
    split at h
    · rename_i h1
      try simp only [h1]
      exact h.mono hKL
    · exact h.elim
  case h_23 =>
    unfold aCallV at h ⊢
    split at h
    · rename_i h1
      try simp only [h1]
      exact ⟨h.1, h.2.mono hKL⟩
    · exact h.elim
  case h_24 => exact args1_mono h fun t v h => aLenX_mono h hKL
  case h_25 => exact args2_mono h fun t t' v v' h => aAppX_mono h hKL
  case h_26 => exact args1_mono h fun t v h => aCapX_mono h hKL
  case h_27 => exact hKL _ _ h
  case h_28 => (repeat' (split at h)) <;> first | exact h.elim | (exact bnd_mono h fun v => hKL v H) | (simp only [*]; exact bnd_mono h fun v => hKL v H)
  case h_29 => (repeat' (split at h)) <;> first | exact h.elim | (exact bnd_mono h fun v => hKL _ v) | (simp only [*]; exact bnd_mono h fun v => hKL _ v)
  case h_30 => exact args2_mono h fun t t' v v' h => bnd_mono h fun v => hKL v H
  case h_31 => exact args1_mono h fun t v h => bnd_mono h fun v => hKL v H
  case h_32 => exact args2_mono h fun t t' v v' h => aUStr_mono h hKL
  case h_33 => exact h.elim

theorem pure_out {op : Op} {a : ATmps} {H : AHeap} {K : Value → AHeap → Prop} (hc : cls P op = .pure) (h : aopK P op a H K) : ∃ v, K v H ∧ ∀ (H2 : AHeap) (K2 : Value → AHeap → Prop), K2 v H2 → aopK P op a H2 K2 := by
  cases op with
  | move x => exact ⟨_, h, fun H2 K2 h2 => h2⟩
  | assign x => exact ⟨_, h, fun H2 K2 h2 => h2⟩
  | pick c x y => obtain ⟨v, hv, h⟩ := bnd_iff.1 h; exact ⟨v, h, fun H2 K2 h2 => bnd_iff.2 ⟨v, hv, h2⟩⟩
  | build t parts =>
    simp only [aopK] at h
    split at h
    · rename_i places zs h1 h2
      split at h
      · rename_i h3
        split at h
        · rename_i rs h4
          obtain ⟨v, hv, h⟩ := bnd_iff.1 h
          exact ⟨_, h, fun H2 K2 hk => by simp only [aopK, h1, h2, h3, h4]; exact bnd_iff.2 ⟨v, hv, hk⟩⟩
        · exact h.elim
      · exact h.elim
    · exact h.elim
  | nilCheck x => obtain ⟨v, hv, h⟩ := bnd_iff.1 h; exact ⟨v, h, fun H2 K2 h2 => bnd_iff.2 ⟨v, hv, h2⟩⟩
  | binOp op t x y t' =>
    have hne : eqKind P t ≠ .slice := by
      intro he
      simp [cls, he] at hc
    simp only [aopK, aBinN] at h
    split at h
    · rename_i hnr
      obtain ⟨v, hv, h⟩ := bnd_iff.1 h
      exact ⟨v, h, fun H2 K2 h2 => by simp only [aopK, aBinN, hnr]; exact bnd_iff.2 ⟨v, hv, h2⟩⟩
    · rename_i hnr
      rcases aBinK_inv h with ⟨hsl, _⟩ | ⟨v, hv, h⟩
      · exact absurd hsl hne
      · exact ⟨v, h, fun H2 K2 h2 => by simp only [aopK, aBinN, hnr]; exact aBinK_of hne hv h2⟩
  | unOp op t x => obtain ⟨v, hv, h⟩ := bnd_iff.1 h; exact ⟨v, h, fun H2 K2 h2 => bnd_iff.2 ⟨v, hv, h2⟩⟩
  | convert s d x =>
    simp only [cls] at hc
    split at hc
    · rename_i h1 h2
      simp only [aopK, aConvX, h1, h2] at h
      obtain ⟨v, hv, h⟩ := bnd_iff.1 h
      exact ⟨v, h, fun H2 K2 hk => by simp only [aopK, aConvX, h1, h2]; exact bnd_iff.2 ⟨v, hv, hk⟩⟩
    · cases hc
    · cases hc
  | makeFunc fn first capt =>
    cases fn with
    | func f => exact ⟨_, h, fun H2 K2 h2 => h2⟩
    | _ => exact h.elim
  | slice t x lo hi mx =>
    cases mx with
    | some m => exact h.elim
    | none =>
      simp only [aopK] at h
      split at h
      · rename_i e h1
        split at h
        · rename_i k h2
          obtain ⟨v, hv, h⟩ := bnd_iff.1 h
          exact ⟨v, h, fun H2 K2 hk => by simp only [aopK, h1, h2]; exact bnd_iff.2 ⟨v, hv, hk⟩⟩
        · exact h.elim
      · rename_i h1
        obtain ⟨v, hv, h⟩ := bnd_iff.1 h
        exact ⟨v, h, fun H2 K2 hk => by simp only [aopK, h1]; exact bnd_iff.2 ⟨v, hv, hk⟩⟩
      · rename_i len e h1
        split at h
        · rename_i k h2
          obtain ⟨v, hv, h⟩ := bnd_iff.1 h
          exact ⟨v, h, fun H2 K2 hk => by simp only [aopK, h1, h2]; exact bnd_iff.2 ⟨v, hv, hk⟩⟩
        · exact h.elim
      · exact h.elim
  | fieldAddr s x f =>
    simp only [aopK] at h
    split at h
    · rename_i off h1
      obtain ⟨v, hv, h⟩ := bnd_iff.1 h
      exact ⟨v, h, fun H2 K2 hk => by simp only [aopK, h1]; exact bnd_iff.2 ⟨v, hv, hk⟩⟩
    · exact h.elim
  | field s x f =>
    simp only [aopK] at h
    split at h
    · rename_i g off k h1
      obtain ⟨v, hv, h⟩ := bnd_iff.1 h
      exact ⟨v, h, fun H2 K2 hk => by simp only [aopK, h1]; exact bnd_iff.2 ⟨v, hv, hk⟩⟩
    · exact h.elim
  | indexAddr t x i =>
    simp only [aopK] at h
    split at h
    · rename_i e h1
      split at h
      · rename_i k h2
        obtain ⟨v, hv, h⟩ := bnd_iff.1 h
        exact ⟨v, h, fun H2 K2 hk => by simp only [aopK, h1, h2]; exact bnd_iff.2 ⟨v, hv, hk⟩⟩
      · exact h.elim
    · rename_i len e h1
      split at h
      · rename_i k h2
        obtain ⟨v, hv, h⟩ := bnd_iff.1 h
        exact ⟨v, h, fun H2 K2 hk => by simp only [aopK, h1, h2]; exact bnd_iff.2 ⟨v, hv, hk⟩⟩
      · exact h.elim
    · exact h.elim
  | index t x i => obtain ⟨v, hv, h⟩ := bnd_iff.1 h; exact ⟨v, h, fun H2 K2 h2 => bnd_iff.2 ⟨v, hv, h2⟩⟩
  | extract x i => obtain ⟨v, hv, h⟩ := bnd_iff.1 h; exact ⟨v, h, fun H2 K2 h2 => bnd_iff.2 ⟨v, hv, h2⟩⟩
  | call c =>
    obtain ⟨callee, args, ats⟩ := c
    cases callee with
    | value f => simp [cls] at hc
    | invoke r m => simp [cls] at hc
    | builtin b =>
      cases b <;> try (simp [cls] at hc; done)
      case unsafeSliceData =>
        obtain ⟨t, v, h1, h2, h0⟩ := args1_inv h
        obtain ⟨r, hv, h3⟩ := bnd_iff.1 h0
        exact ⟨r, h3, fun H2 K2 hk => by simp only [aopK, h1, h2, args1]; exact bnd_iff.2 ⟨r, hv, hk⟩⟩
      obtain ⟨t, v, h1, h2, h0⟩ := args1_inv h
      clear h
      have h := h0
      clear h0
      unfold aLenX at h
      split at h
      · rename_i hu
        obtain ⟨r, hv, h⟩ := bnd_iff.1 h
        exact ⟨r, h, fun H2 K2 hk => by simp only [aopK, h1, h2, args1, aLenX, hu]; exact bnd_iff.2 ⟨r, hv, hk⟩⟩
      · rename_i e hu
        obtain ⟨r, hv, h⟩ := bnd_iff.1 h
        exact ⟨r, h, fun H2 K2 hk => by simp only [aopK, h1, h2, args1, aLenX, hu]; exact bnd_iff.2 ⟨r, hv, hk⟩⟩
      · exact h.elim
  | makeMap _ r => cases r <;> simp [cls] at hc
  | _ => simp [cls] at hc

theorem read_out {op : Op} {a : ATmps} {H : AHeap} {K : Value → AHeap → Prop} (hc : cls P op = .read) (h : aopK P op a H K) : ∃ v, K v H ∧ ∀ (K2 : Value → AHeap → Prop), K2 v H → aopK P op a H K2 := by
  cases op with
  | load t x => obtain ⟨v, hv, h⟩ := bnd_iff.1 h; exact ⟨v, h, fun K2 h2 => bnd_iff.2 ⟨v, hv, h2⟩⟩
  | lookup _ _ _ _ => simp [cls] at hc
  | convert s d x =>
    simp only [cls] at hc
    split at hc
    · cases hc
    · rename_i h1 h2
      simp only [aopK, aConvX, h1, h2] at h
      split at h
      · rename_i h3
        obtain ⟨v, hv, h⟩ := bnd_iff.1 h
        exact ⟨v, h, fun K2 hk => by simp only [aopK, aConvX, h1, h2, h3]; exact bnd_iff.2 ⟨v, hv, hk⟩⟩
      · exact h.elim
    · cases hc
  | binOp op t x y t' => simp only [cls] at hc; split at hc <;> cases hc
  | call c =>
    obtain ⟨callee, args, ats⟩ := c
    cases callee with
    | value f => simp [cls] at hc
    | invoke r m => simp [cls] at hc
    | builtin b => cases b <;> simp [cls] at hc
  | makeMap _ r => cases r <;> simp [cls] at hc
  | _ => simp [cls] at hc

/-- What an operation that makes memory makes. -/
theorem new_out {o : Oper} {a : ATmps} {H : AHeap} {K : Value → AHeap → Prop} (hc : cls P o.op = .new) (h : aopK P o.op a H K) :
    ∃ (blk : Blk) (val : Nat → Value), K (val H.next) (H.alloc blk) ∧ (∀ b, blkOf (val b) = b) ∧ (∀ (H2 : AHeap) (K2 : Value → AHeap → Prop), K2 (val H2.next) (H2.alloc blk) → aopK P o.op a H2 K2) ∧
      ∀ {B : Nat} {φ : Phi} {H1 : AHeap} {w : World} {n : Nat} {act : Act}, Rel P.globals.size B φ H1 w → ATRel φ n a act →
        ∃ u ob p, (execOp act.eval o).run P w = .ok (.value u) (w.alloc ob) ∧ p.blk = w.heap.size ∧ ∀ (ψ : Phi) (b : Nat), φ.le ψ → ψ b = some (some p) → VRel ψ (val b) u ∧ BRel ψ B blk p (w.alloc ob) := by
  obtain ⟨dst, op, ty, pos, after, guard⟩ := o
  dsimp only at hc h ⊢
  have brel : ∀ {B : Nat} {φ : Phi} {w : World} {cs : List Value} {c : Array Value} {t : TypeId} {k : Use} {esz : Nat}, B ≤ w.heap.size → VRels φ cs c.toList → (∀ v ∈ cs, okCell v = true) → (∀ s, k = .row s → esz = s ∧ ∃ m, cs.length = m * s) →
      BRel φ B (.cells cs k t) ⟨w.heap.size, 0, c.size, esz⟩ (w.alloc (.cells c t)) := by
    intro B φ w cs c t k esz hB hv hok hk
    have hl : cs.length = c.size := by simpa using hv.1
    refine ⟨c, t, (0, 0), by rw [heap_alloc, if_pos rfl], rfl, by simp [hl], ?_, hok, fun _ => ⟨hB, rfl, rfl, rfl⟩, fun s hs => by rw [← hl]; exact hk s hs, fun _ => ⟨hl.symm, rfl⟩⟩
    have : (c.toList.drop 0).take cs.length = c.toList := by rw [List.drop_zero]; exact List.take_of_length_le (by simp [hl])
    rw [this]
    exact hv
  cases op with
  | alloc t =>
    simp only [aopK] at h
    split at h
    · rename_i cs hz
      split at h
      · rename_i hp
        refine ⟨.cells cs .var t, fun b => .pointer (some ⟨b, 0, none⟩), h, fun b => rfl, fun H2 K2 h2 => by simp only [aopK, hz, hp]; exact h2, fun {B φ H1 w n act} hr ha => ?_⟩
        obtain ⟨i, z, hi, hzz, rfl⟩ := tyZero_inv hz hp
        refine ⟨.pointer (some ⟨w.heap.size, 0, none⟩), .cells z.cells t, ⟨w.heap.size, 0, z.cells.size, 0⟩, by simp [execOp, Instr.alloc, zeroValue, typeInfo, hi, hzz, newVar, newRow], rfl, fun ψ b hle hb => ⟨?_, ?_⟩⟩
        · simpa using VRel.ptr (φ := ψ) (b := b) (o := 0) hb
        · exact brel hr.base (VRels.plain hp) (fun v hv => okCell_of_plain ((List.all_eq_true.1 hp) v hv)) (fun s hs => by cases hs)
      · exact h.elim
    · exact h.elim
  | buildSlice t len parts =>
    simp only [aopK] at h
    split at h
    · rename_i e k bytes zs hei
      split at h
      · rename_i rs hrs hsm
        obtain ⟨cs, hcs, ⟨hok, hcl⟩, h⟩ := bnd_iff.1 h
        refine ⟨.cells cs (.row (k + 1)) e, fun b => .slice (some ⟨b, 0, none⟩) len len, h, fun b => rfl, fun H2 K2 h2 => by simp only [aopK, hei, hrs, hsm]; exact bnd_iff.2 ⟨cs, hcs, ⟨hok, hcl⟩, h2⟩, fun {B φ H1 w n act} hr ha => ?_⟩
        obtain ⟨hu, i, z, hi, hz, hsz, hby, hzc, hzp, hzl, hpos, hts, htz⟩ := elemInfo_inv hei
        obtain ⟨p1, p2⟩ := parts_rel hr ha parts
        obtain ⟨v, c, h1, h2, h3, h4⟩ := buildSlice_run (P := P) (φ := φ) (w := w) hu hts (of_decide_eq_true hsm) htz hzp hzl p1 p2 hrs hcs hcl
        have h1' : (Instr.buildSlice t len (parts.map fun (i, x) => (i, act.eval x))).run P w = .ok v (w.alloc (.cells c e)) := by simpa only [Array.toArray_toList] using h1
        refine ⟨v, .cells c e, ⟨w.heap.size, 0, c.size, k + 1⟩, by simp only [execOp, Sem.run_bind, h1', Result.andThen_ok, Sem.run_pure], rfl, fun ψ b hle hb => ⟨?_, ?_⟩⟩
        · rw [h2]
          have hcc : c.size = len * (k + 1) := by have := h3.1; simp at this; omega
          have := VRel.slice (φ := ψ) (b := b) (o := 0) (n := len) (c := len) hb (Nat.le_refl _) (by
            have : len ≤ len * (k + 1) := Nat.le_mul_of_pos_right _ (Nat.succ_pos k)
            have := of_decide_eq_true hsm
            simp only [maxLen]; omega) (.inr (.inr (by simp [hcc])))
          simpa using this
        · exact brel hr.base (h3.mono hle) (okCell_of_all hok) (fun s hs => by cases hs; exact ⟨rfl, len, hcl⟩)
      · exact h.elim
    · exact h.elim
  | makeMap t r =>
    cases r with
    | some x => simp [cls] at hc
    | none =>
      simp only [aopK, aMakeMap] at h
      refine ⟨.map [], fun b => .map (some b), h, fun b => rfl, fun H2 K2 h2 => by simp only [aopK, aMakeMap]; exact h2, fun {B φ H1 w n act} hr ha => ?_⟩
      refine ⟨.map (some w.heap.size), .map #[] 0, ⟨w.heap.size, 0, 0, 0⟩, by
        have hrun : (Instr.makeMap t none).run P w = .ok (.map (some w.heap.size)) (w.alloc (.map #[] 0)) := by simp [Instr.makeMap, Result.andThen]
        simp [execOp, hrun, Result.andThen], rfl, fun ψ b hle hb => ⟨.map hb, ?_⟩⟩
      exact ⟨#[], 0, by rw [heap_alloc, if_pos rfl], hr.base, VRels.nil _, VRels.nil _⟩
  | convert s d x => simp only [cls] at hc; split at hc <;> cases hc
  | binOp op t x y t' => simp only [cls] at hc; split at hc <;> cases hc
  | call c =>
    obtain ⟨callee, args, ats⟩ := c
    cases callee with
    | value f => simp [cls] at hc
    | invoke r m => simp [cls] at hc
    | builtin b => cases b <;> simp [cls] at hc
  | _ => simp [cls] at hc
end
end Go.Abs
