/- What each operation does to abstract values and heaps. -/
import Derived.Test.YtliakckflcoffaaDoorAbsC
set_option linter.unusedVariables false
namespace Go.Abs
open Go

abbrev ATmps := Nat → Value

/-- What follows a value that is there. -/
def bnd {α : Type} (x : Option α) (K : α → Prop) : Prop := match x with | some v => K v | none => False
theorem bnd_some {α : Type} (v : α) (K : α → Prop) : bnd (some v) K = K v := rfl
theorem bnd_iff {α : Type} {x : Option α} {K : α → Prop} : bnd x K ↔ ∃ v, x = some v ∧ K v := by
  cases x with
  | none => simp [bnd]
  | some v => simp [bnd]

def plainOr (v : Value) : Value := match plainCell v with | true => v | false => poison

def aeval (G : Nat) (a : ATmps) : Operand → Value
  | .tmp t => a t
  | .const v => plainOr v
  | .global g => match decide (g < G) with | true => .pointer (some ⟨g, 0, none⟩) | false => poison
  | .func f => .func (.func f) #[] #[]

def vcells : Value → List Value
  | .agg cs => cs.toList
  | v => [v]

/-- As many cells as a type has; whether it is a struct or an array. -/
def tySize (P : Program) (t : TypeId) : Option Nat := (P.info? t).map (·.size)
def tyAgg (P : Program) (t : TypeId) : Option Bool := match P.underlying t with | some (.struct _) => some true | some (.array _ _) => some true | some _ => some false | none => none
def tyZero (P : Program) (t : TypeId) : Option (List Value) := (P.info? t).bind fun i => i.zero.map vcells

def aPick (c x y : Value) : Option Value := match c with | .bool b => some (if b then x else y) | _ => none

def aAdd (off : Nat) (x : Value) : Option Value := match x with | .pointer (some ⟨b, o, none⟩) => some (.pointer (some ⟨b, o + off, none⟩)) | _ => none

def aLdCell (x : Value) (H : AHeap) : Option Value := match x with
  | .pointer (some ⟨b, o, none⟩) => match H.at_ b with | .cells cs _ _ => cs[o]? | _ => none
  | _ => none
def aLdAgg (n : Nat) (x : Value) (H : AHeap) : Option Value := match x with
  | .pointer (some ⟨b, o, none⟩) => match H.at_ b with | .cells cs _ _ => if o + n ≤ cs.length then some (.agg ((cs.drop o).take n).toArray) else none | _ => none
  | _ => none
def aLoad (P : Program) (t : TypeId) (x : Value) (H : AHeap) : Option Value := match tyAgg P t, tySize P t with
  | some true, some n => aLdAgg n x H
  | some false, some _ => aLdCell x H
  | _, _ => none

/-- Cells set, from one on. -/
def setCells : List Value → Nat → List Value → List Value
  | cs, _, [] => cs
  | cs, o, v :: vs => setCells (cs.set o v) (o + 1) vs
def aSt (n : Nat) (x y : Value) (H : AHeap) : Option AHeap := match x with
  | .pointer (some ⟨b, o, none⟩) => match H.at_ b with
    | .cells cs k t => if k.own = true ∧ (vcells y).length = n ∧ o + n ≤ cs.length ∧ (vcells y).all okCell = true then some (H.upd b (.cells (setCells cs o (vcells y)) k t)) else none
    | _ => none
  | _ => none

def aBox (t : TypeId) (y : Value) (H : AHeap) (K : Value → AHeap → Prop) : Prop :=
  (vcells y).all okCell = true ∧ K (.pointer (some ⟨H.next, 0, none⟩)) (H.alloc (.cells (vcells y) .var t))

def aNilCheck (x : Value) : Option Value := match x with
  | .pointer (some _) => some x
  | .iface _ _ => some x
  | .func (.func _) _ _ => some x
  | .slice _ _ _ => some x
  | _ => none

def aExtract (x : Value) (i : Nat) : Option Value := match x with | .tuple vs => vs[i]? | _ => none

/-- A part of a whole. -/
def aPart (agg : Bool) (off n : Nat) (x : Value) : Option Value := match x with
  | .agg cs => match agg with
    | true => if off + n ≤ cs.size then some (.agg (cs.extract off (off + n))) else none
    | false => cs[off]?
  | _ => none

/-- A whole built of parts over noughts. -/
def aFill : List Value → List (Nat × Nat × Value) → Option (List Value)
  | cells, [] => some cells
  | cells, (off, n, v) :: rest => if (vcells v).length = n ∧ off + n ≤ cells.length ∧ (vcells v).all okCell = true then aFill (setCells cells off (vcells v)) rest else none

def aIdxAddr (n : Nat) (x i : Value) : Option Value := match x, i with
  | .slice (some ⟨b, o, none⟩) len _, .int k j => if 0 ≤ j ∧ j < len then some (.pointer (some ⟨b, o + j.toNat * n, none⟩)) else none
  | _, _ => none
def aIdxAddrArr (len n : Nat) (x i : Value) : Option Value := match x, i with
  | .pointer (some ⟨b, o, none⟩), .int k j => if 0 ≤ j ∧ j < len then some (.pointer (some ⟨b, o + j.toNat * n, none⟩)) else none
  | _, _ => none
def aIdxStr (x i : Value) : Option Value := match x, i with
  | .string s, .int k j => if 0 ≤ j then (s[j.toNat]?).map fun b => .int .u8 b.toNat else none
  | _, _ => none

def aIdxArr (len : Nat) (g : Bool) (n : Nat) (x i : Value) : Option Value := match i with
  | .int _ j => if 0 ≤ j ∧ j < len then aPart g (j.toNat * n) n x else none
  | _ => none

def aLen (x : Value) : Option Value := match x with
  | .string s => some (.int .i64 s.size)
  | .slice _ n _ => some (.int .i64 n)
  | _ => none

def loOf : Option Value → Option Nat
  | none => some 0
  | some (.int _ l) => if 0 ≤ l then some l.toNat else none
  | _ => none
def hiOf (len : Nat) : Option Value → Option Nat
  | none => some len
  | some (.int _ h) => if 0 ≤ h ∧ h ≤ len then some h.toNat else none
  | _ => none
/-- A slice's or a text's piece. -/
def aCut (n : Nat) (x : Value) (l h : Nat) : Option Value := if l ≤ h then match x with
  | .slice none _ _ => some x
  | .slice (some ⟨b, o, s⟩) _ _ => some (.slice (some ⟨b, o + l * n, s⟩) (h - l) (h - l))
  | .string s => some (.string (s.extract l h))
  | _ => none
  else none
def aSlice (n : Nat) (x : Value) (lo hi : Option Value) : Option Value := match aLen x with
  | some (.int _ len) => (loOf lo).bind fun l => (hiOf len.toNat hi).bind fun h => aCut n x l h
  | _ => none

def aBits (op : BinOp) (k : IntKind) (x y : Int) : Option Int :=
  match op with
  | .and => some (k.wrap (BitVec.ofInt k.bits x &&& BitVec.ofInt k.bits y).toNat)
  | .or => some (k.wrap (BitVec.ofInt k.bits x ||| BitVec.ofInt k.bits y).toNat)
  | .xor => some (k.wrap (BitVec.ofInt k.bits x ^^^ BitVec.ofInt k.bits y).toNat)
  | .andNot => some (k.wrap (BitVec.ofInt k.bits x &&& ~~~(BitVec.ofInt k.bits y)).toNat)
  | _ => none
def aInt (op : BinOp) (k : IntKind) (x y : Int) : Option Value :=
  match op with
  | .add => some (.int k (k.wrap (x + y)))
  | .sub => some (.int k (k.wrap (x - y)))
  | .mul => some (.int k (k.wrap (x * y)))
  | .quo => if y = 0 then none else some (.int k (k.wrap (x.tdiv y)))
  | .rem => if y = 0 then none else some (.int k (x.tmod y))
  | .eql => some (.bool (decide (x = y)))
  | .neq => some (.bool (!decide (x = y)))
  | .lss => some (.bool (decide (x < y)))
  | .leq => some (.bool (decide (x ≤ y)))
  | .gtr => some (.bool (decide (x > y)))
  | .geq => some (.bool (decide (x ≥ y)))
  | .and | .or | .xor | .andNot => (aBits op k x y).map (.int k)
  | .shl => if y < 0 then none else some (.int k (k.wrap (x * 2 ^ min y.toNat k.bits)))
  | .shr => if y < 0 then none else some (.int k (x.fdiv (2 ^ min y.toNat k.bits)))
def aStr (op : BinOp) (x y : ByteArray) : Option Value :=
  match op with
  | .add => if x.size + y.size ≤ 9223372036854775807 then some (.string (x ++ y)) else none
  | .eql => some (.bool (x == y))
  | .neq => some (.bool (!(x == y)))
  | _ => none

/-- Are two aggregates of whole numbers, bools and texts the same? -/
inductive CK
  | int
  | bool
  | str
def sameCell : CK → Value → Value → Option Bool
  | .int, .int k a, .int k' b => if k = k' then some (decide (a = b)) else none
  | .bool, .bool a, .bool b => some (a == b)
  | .str, .string a, .string b => some (a == b)
  | _, _, _ => none
def sameCells : List CK → List Value → List Value → Option Bool
  | [], [], [] => some true
  | k :: ks, u :: us, v :: vs => match sameCell k u v, sameCells ks us vs with
    | some a, some b => some (a && b)
    | _, _ => none
  | _, _, _ => none
/-- What a type's equality is. -/
inductive EK
  | bool
  | ptr
  | slice
  | iface
  | cells (ks : List CK)
  | no
def aEqK (e : EK) (x y : Value) : Option Bool := match e, x, y with
  | .bool, .bool a, .bool b => some (a == b)
  | .ptr, .pointer none, .pointer b => some b.isNone
  | .ptr, .pointer (some _), .pointer none => some false
  | .slice, .slice none _ _, .slice none _ _ => some true
  | .slice, .slice none _ _, .slice (some _) n _ => if n = 0 then none else some false
  | .slice, .slice (some _) n _, .slice none _ _ => if n = 0 then none else some false
  | .iface, .nilIface, .iface _ _ => some false
  | .iface, .iface _ _, .nilIface => some false
  | .cells ks, .agg a, .agg b => sameCells ks a.toList b.toList
  | _, _, _ => none
def aBin (op : BinOp) (e : EK) (x y : Value) : Option Value := match x, y with
  | .int k a, .int k' b => match op with
    | .shl => aInt .shl k a b
    | .shr => aInt .shr k a b
    | _ => if k = k' then aInt op k a b else none
  | .string a, .string b => aStr op a b
  | _, _ => match op with
    | .eql => (aEqK e x y).map .bool
    | .neq => (aEqK e x y).map fun b => .bool (!b)
    | _ => none

def aUn (op : UnOp) (x : Value) : Option Value := match op, x with
  | .not, .bool b => some (.bool (!b))
  | .neg, .int k n => some (.int k (k.wrap (0 - n)))
  | _, _ => none

def aConvInt (k : IntKind) (x : Value) : Option Value := match x with | .int _ n => some (.int k (k.wrap n)) | _ => none

theorem vcells_rel {φ : Phi} {u v : Value} (h : VRel φ u v) (hu : (vcells u).all okCell = true) : VRels φ (vcells u) v.cells.toList := by
  cases u with
  | agg a =>
    obtain ⟨b, rfl, hb⟩ := h.aggInv
    exact hb
  | tuple a => simp [vcells, okCell] at hu
  | chan r => simp [vcells, okCell] at hu
  | _ =>
    have ho := h.okCell (by simpa [vcells] using hu)
    have : v.cells = #[v] := by cases v <;> first | rfl | (simp [Value.oneCell'] at ho)
    rw [this]
    exact VRels.cons h (VRels.nil φ)
end Go.Abs
