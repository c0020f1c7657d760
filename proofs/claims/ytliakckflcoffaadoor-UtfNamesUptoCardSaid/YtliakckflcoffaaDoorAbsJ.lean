/- What each operation does, in one: and that it does so. -/
import Derived.Test.YtliakckflcoffaaDoorAbsI
set_option linter.unusedVariables false
set_option linter.unusedSimpArgs false
namespace Go.Abs
open Go

def goodCall (P : Program) (f : FuncId) : Bool := match P.funcs[f]? with
  | some fn => match fn.body with
    | some _ => !(fn.name == "runtime.NumGoroutine")
    | none => false
  | none => false

/-- A call: wherever its arguments lie, it returns, as K says. -/
def ACalls (P : Program) (f : FuncId) (args : List Value) (H : AHeap) (K : Value → AHeap → Prop) : Prop :=
  ∀ (B : Nat) (φ : Phi) (w : World) (cargs : List Value), Rel P.globals.size B φ H w → VRels φ args cargs →
    Calls P f cargs.toArray w fun e w' => ∃ v H' φ' u, e = .returned u ∧ K v H' ∧ Step P.globals.size B φ H w φ' H' w' ∧ VRel φ' v u

theorem ACalls.mono {P : Program} {f : FuncId} {args : List Value} {H : AHeap} {K L : Value → AHeap → Prop} (h : ACalls P f args H K) (hKL : ∀ v H', K v H' → L v H') : ACalls P f args H L :=
  fun B φ w cargs hr hv => (h B φ w cargs hr hv).mono fun e w' ⟨v, H', φ', u, h1, h2, h3⟩ => ⟨v, H', φ', u, h1, hKL _ _ h2, h3⟩

def aCallF (ok : Bool) (P : Program) (f : FuncId) (args : List Value) (H : AHeap) (K : Value → AHeap → Prop) : Prop := match ok with
  | true => ACalls P f args H K
  | false => False
def aCallV (P : Program) (x : Value) (args : List Value) (H : AHeap) (K : Value → AHeap → Prop) : Prop := match x with
  | .func (.func f) a c => goodCall P f = true ∧ ACalls P f (a.toList ++ args ++ c.toList) H K
  | _ => False

def sliceLen : Value → Nat
  | .slice _ n _ => n
  | _ => 0
def aBase (n : Nat) (e : TypeId) (v : Value) (H : AHeap) : Option (List Value) := match v with
  | .slice none _ _ => some []
  | .slice (some ⟨b, 0, none⟩) len _ => match H.at_ b with
    | .cells cs (.row s) t => if s = n ∧ t = e ∧ len * n ≤ cs.length then some (cs.take (len * n)) else none
    | _ => none
  | _ => none
def aRow (n : Nat) (x : Value) (H : AHeap) : Option (List Value) := match x with
  | .slice none _ _ => some []
  | .slice (some ⟨b, o, none⟩) len _ => match H.at_ b with
    | .cells cs _ _ => if o + len * n ≤ cs.length then some ((cs.drop o).take (len * n)) else none
    | _ => none
  | _ => none
def aAppend (n bytes : Nat) (e : TypeId) (v x : Value) (H : AHeap) (K : Value → AHeap → Prop) : Prop :=
  bnd (aBase n e v H) fun cs => bnd (aRow n x H) fun news =>
    (sliceLen v + sliceLen x ≤ maxLen ∧ (sliceLen v + sliceLen x) * bytes ≤ 140737488355328) ∧
    K (.slice (some ⟨H.next, 0, none⟩) (sliceLen v + sliceLen x) (sliceLen v + sliceLen x)) ((H.kill v).alloc (.cells (cs ++ news) (.row n) e))

/-- An element type: its number, cells, bytes and noughts. -/
def elemInfo (P : Program) (t : TypeId) : Option (TypeId × Nat × Nat × List Value) := match P.underlying t with
  | some (.slice e) => match P.info? e with
    | some i => match i.zero with
      | some z => match (vcells z).all plainCell, (vcells z).length == i.size, i.size with
        | true, true, n + 1 => some (e, n + 1, i.bytes, vcells z)
        | _, _, _ => none
      | none => none
    | none => none
  | _ => none

def aMakeSlice (bytes : Nat) (e : TypeId) (zs : List Value) (l c : Value) (H : AHeap) (K : Value → AHeap → Prop) : Prop := match l, c with
  | .int _ n, .int _ m => (n = m ∧ 0 ≤ n ∧ (bytes : Int) * n ≤ 140737488355328 ∧ n ≤ 9223372036854775807 ∧ zs.length = 1) ∧
      K (.slice (some ⟨H.next, 0, none⟩) n.toNat n.toNat) (H.alloc (.cells (List.replicate n.toNat (zs.getD 0 undef)) (.row 1) e))
  | _, _ => False

def aAlloc (cs : List Value) (t : TypeId) (H : AHeap) (K : Value → AHeap → Prop) : Prop := K (.pointer (some ⟨H.next, 0, none⟩)) (H.alloc (.cells cs .var t))
def aBuildSlice (n len : Nat) (e : TypeId) (zs : List Value) (rs : List (Nat × Nat × Value)) (H : AHeap) (K : Value → AHeap → Prop) : Prop :=
  bnd (aFill (List.replicate len zs).flatten rs) fun cs => (cs.all okCell = true ∧ cs.length = len * n) ∧ K (.slice (some ⟨H.next, 0, none⟩) len len) (H.alloc (.cells cs (.row n) e))

def opArgs (G : Nat) (a : ATmps) (xs : Array Operand) : List Value := xs.toList.map (aeval G a)
def opParts (G : Nat) (a : ATmps) (xs : Array (Nat × Operand)) : List (Nat × Value) := xs.toList.map fun p => (p.1, aeval G a p.2)
def opOpt (G : Nat) (a : ATmps) (x : Option Operand) : Option Value := x.map (aeval G a)

def aSliceSl (n : Nat) (x : Value) (lo hi : Option Value) : Option Value := match x with
  | .slice A l c => aSlice n (.slice A l c) lo hi
  | _ => none
def aSliceStr (x : Value) (lo hi : Option Value) : Option Value := match x with
  | .string s => aSlice 0 (.string s) lo hi
  | _ => none
def aLenSl (x : Value) : Option Value := match x with
  | .slice _ n _ => some (.int .i64 n)
  | _ => none
def aLenStr (x : Value) : Option Value := match x with
  | .string s => some (.int .i64 s.size)
  | _ => none
theorem aSliceSl_inv {n : Nat} {x : Value} {lo hi : Option Value} {v : Value} (h : aSliceSl n x lo hi = some v) : ∃ A l c, x = .slice A l c ∧ aSlice n (.slice A l c) lo hi = some v := by
  unfold aSliceSl at h
  split at h
  · exact ⟨_, _, _, rfl, h⟩
  · cases h
theorem aSliceStr_inv {x : Value} {lo hi : Option Value} {v : Value} (h : aSliceStr x lo hi = some v) : ∃ s, x = .string s ∧ aSlice 0 (.string s) lo hi = some v := by
  unfold aSliceStr at h
  split at h
  · exact ⟨_, rfl, h⟩
  · cases h
theorem aLenSl_inv {x v : Value} (h : aLenSl x = some v) : ∃ A n c, x = .slice A n c ∧ v = .int .i64 n := by
  unfold aLenSl at h
  split at h
  · exact ⟨_, _, _, rfl, (Option.some.inj h).symm⟩
  · cases h
theorem aLenStr_inv {x v : Value} (h : aLenStr x = some v) : ∃ s, x = .string s ∧ v = .int .i64 s.size := by
  unfold aLenStr at h
  split at h
  · exact ⟨_, rfl, (Option.some.inj h).symm⟩
  · cases h

def aCap (x : Value) : Option Value := match x with
  | .slice none _ _ => some (.int .i64 0)
  | _ => none
/-- append(nil, so many noughts). -/
def aZeros (bytes : Nat) (e : TypeId) (zs : List Value) (v x : Value) (H : AHeap) (K : Value → AHeap → Prop) : Prop := match v, x with
  | .slice none _ _, .int _ m => (0 < m ∧ m ≤ 140737488355328 ∧ m * bytes ≤ 140737488355328 ∧ zs.length = 1) ∧
      K (.slice (some ⟨H.next, 0, none⟩) m.toNat m.toNat) (H.alloc (.cells (List.replicate m.toNat (zs.getD 0 undef)) (.row 1) e))
  | _, _ => False
def byteCells (s : ByteArray) : List Value := s.data.toList.map fun b => .int .u8 b.toNat
/-- append(v, s...), s a text. -/
def aAppStr (n bytes : Nat) (e : TypeId) (v x : Value) (H : AHeap) (K : Value → AHeap → Prop) : Prop := match x with
  | .string s => bnd (aBase n e v H) fun cs => (n = 1 ∧ bytes = 1 ∧ sliceLen v + s.size ≤ 140737488355328) ∧
      K (.slice (some ⟨H.next, 0, none⟩) (sliceLen v + s.size) (sliceLen v + s.size)) ((H.kill v).alloc (.cells (cs ++ byteCells s) (.row n) e))
  | _ => False
def aAppX (P : Program) (t t' : TypeId) (v x : Value) (H : AHeap) (K : Value → AHeap → Prop) : Prop := match decide (t = t'), elemInfo P t with
  | true, some (e, n, bytes, _) => aAppend n bytes e v x H K
  | false, some (e, n, bytes, zs) => (match P.underlying t' with
    | some (.int _) => aZeros bytes e zs v x H K
    | some .string => aAppStr n bytes e v x H K
    | _ => False)
  | _, _ => False
def aCapX (P : Program) (t : TypeId) (x : Value) (H : AHeap) (K : Value → AHeap → Prop) : Prop := match P.underlying t with
  | some (.slice _) => bnd (aCap x) fun v => K v H
  | _ => False
def aLenX (P : Program) (t : TypeId) (x : Value) (H : AHeap) (K : Value → AHeap → Prop) : Prop := match P.underlying t with
  | some .string => bnd (aLenStr x) fun v => K v H
  | some (.slice _) => bnd (aLenSl x) fun v => K v H
  | _ => False
def args1 (ts : List TypeId) (vs : List Value) (K : TypeId → Value → Prop) : Prop := match ts with
  | [t] => (match vs with
    | [v] => K t v
    | _ => False)
  | _ => False
def args2 (ts : List TypeId) (vs : List Value) (K : TypeId → TypeId → Value → Value → Prop) : Prop := match ts with
  | [t, t'] => (match vs with
    | [v, v'] => K t t' v v'
    | _ => False)
  | _ => False

theorem args1_inv {ts : List TypeId} {vs : List Value} {K : TypeId → Value → Prop} (h : args1 ts vs K) : ∃ t v, ts = [t] ∧ vs = [v] ∧ K t v := by
  unfold args1 at h
  split at h
  · split at h
    · exact ⟨_, _, rfl, rfl, h⟩
    · exact h.elim
  · exact h.elim
theorem args2_inv {ts : List TypeId} {vs : List Value} {K : TypeId → TypeId → Value → Value → Prop} (h : args2 ts vs K) : ∃ t t' v v', ts = [t, t'] ∧ vs = [v, v'] ∧ K t t' v v' := by
  unfold args2 at h
  split at h
  · split at h
    · exact ⟨_, _, _, _, rfl, rfl, h⟩
    · exact h.elim
  · exact h.elim

/-! Conversions. -/
/-- Bytes that cells hold. -/
def bytesOf : List Value → Option (List UInt8)
  | [] => some []
  | .int .u8 n :: vs => if 0 ≤ n ∧ n < 256 then (bytesOf vs).map (UInt8.ofNat n.toNat :: ·) else none
  | _ => none
def aBytesStr (v : Value) (H : AHeap) : Option Value := (aRow 1 v H).bind fun cs => (bytesOf cs).map fun l => .string ⟨l.toArray⟩
def aStrBytes (e : TypeId) (v : Value) (H : AHeap) (K : Value → AHeap → Prop) : Prop := match v with
  | .string s => s.size ≤ 140737488355328 ∧ K (.slice (some ⟨H.next, 0, none⟩) s.size s.size) (H.alloc (.cells (byteCells s) .read e))
  | _ => False
/-- From now on it is only read. -/
def aMark (v : Value) (H : AHeap) (K : Value → AHeap → Prop) : Prop := match v with
  | .slice (some ⟨b, o, s⟩) n c => match H.at_ b with
    | .cells cs k t => (k.own = true ∧ 0 < n) ∧ K (.slice (some ⟨b, o, s⟩) n c) (H.upd b (.cells cs .read t))
    | _ => False
  | _ => False
/-- A rune as a text. -/
def aRuneStr (v : Value) : Option Value := match v with
  | .int _ n => some (.string (Utf8.encode n))
  | _ => none
def aConvX (P : Program) (s d : TypeId) (v : Value) (H : AHeap) (K : Value → AHeap → Prop) : Prop := match P.underlying s, P.underlying d with
  | some (.int _), some (.int k) => bnd (aConvInt k v) fun v => K v H
  | some (.int _), some .string => bnd (aRuneStr v) fun v => K v H
  | some (.slice e), some .string => (match P.underlying e with
    | some (.int .u8) => bnd (aBytesStr v H) fun v => K v H
    | _ => False)
  | some .string, some (.slice e) => (match P.underlying e with
    | some (.int .u8) => aStrBytes e v H K
    | _ => False)
  | some (.slice _), some (.slice e) => (match decide (s = d), P.underlying e with
    | true, some (.int .u8) => aMark v H K
    | _, _ => False)
  | _, _ => False

/-! A row's bytes as a text, in place; a piece of an array. -/
def aSliceData (v : Value) : Option Value := match v with
  | .slice (some ⟨b, o, none⟩) n _ => if 0 < n then some (.pointer (some ⟨b, o, none⟩)) else none
  | _ => none
def aUString (e : TypeId) (v v' : Value) (H : AHeap) (K : Value → AHeap → Prop) : Prop := match v, v' with
  | .pointer (some ⟨b, 0, none⟩), .int .i64 n => (match H.at_ b with
    | .cells cs (.row _) t => bnd (bytesOf (cs.take n.toNat)) fun l => (t = e ∧ 0 < n ∧ n ≤ cs.length ∧ n ≤ 9223372036854775807) ∧ K (.string ⟨l.toArray⟩) (H.upd b (.cells cs .read t))
    | _ => False)
  | _, _ => False
def aUStr (P : Program) (t : TypeId) (v v' : Value) (H : AHeap) (K : Value → AHeap → Prop) : Prop := match P.underlying t with
  | some (.pointer e) => (match tySize P e with
    | some 1 => aUString e v v' H K
    | _ => False)
  | _ => False
def aSliceArr (len n : Nat) (x : Value) (lo hi : Option Value) : Option Value := match x with
  | .pointer (some ⟨b, o, none⟩) => (loOf lo).bind fun l => (hiOf len hi).bind fun h => if l ≤ h ∧ l < len ∧ 0 < o + l * n ∧ len ≤ maxLen then some (.slice (some ⟨b, o + l * n, none⟩) (h - l) (h - l)) else none
  | _ => none

/-! Maps whose keys are texts; the greater of two. -/
def mapGet : List (Value × Value) → ByteArray → Option (Option Value)
  | [], _ => some none
  | (.string k, v) :: es, s => if s == k then some (some v) else mapGet es s
  | _, _ => none
def mapPut : List (Value × Value) → ByteArray → Value → Option (List (Value × Value))
  | [], s, x => some [(.string s, x)]
  | (.string k, v) :: es, s, x => if s == k then some ((.string k, x) :: es) else (mapPut es s x).map ((.string k, v) :: ·)
  | _, _, _ => none
def found (z : Value) (r : Option Value) : Value := match r with
  | some v => .tuple #[v, .bool true]
  | none => .tuple #[z, .bool false]
def aLookup (z x i : Value) (H : AHeap) : Option Value := match x, i with
  | .map (some b), .string s => (match H.at_ b with
    | .map es => (mapGet es s).map (found z)
    | _ => none)
  | _, _ => none
def aMapUpd (m i x : Value) (H : AHeap) : Option AHeap := match m, i with
  | .map (some b), .string s => (match H.at_ b with
    | .map es => (mapPut es s x).map fun es' => H.upd b (.map es')
    | _ => none)
  | _, _ => none
/-- A type's nought, if it is one plain cell. -/
def tyZero1 (P : Program) (t : TypeId) : Option Value := match P.info? t with
  | some i => (match i.zero with
    | some z => (match plainCell z with
      | true => some z
      | false => none)
    | none => none)
  | none => none
def mapInfo (P : Program) (t : TypeId) : Option Value := match P.underlying t with
  | some (.map k e) => (match P.underlying k, tyZero1 P e with
    | some .string, some z => some z
    | _, _ => none)
  | _ => none
/-- A new map. -/
def aMakeMap (H : AHeap) (K : Value → AHeap → Prop) : Prop := K (.map (some H.next)) (H.alloc (.map []))
def aMax (x y : Value) : Option Value := match x, y with
  | .int k a, .int k' b => if k = k' then some (.int k (if b > a then b else a)) else none
  | _, _ => none

/-- An empty row held against none: it is not told which it is. -/
def emptyCmp (op : BinOp) (x y : Value) : Bool := match op with
  | .eql => (match x, y with
    | .slice (some ⟨_, _, none⟩) 0 _, .slice none 0 0 => true
    | _, _ => false)
  | _ => false
def aSlEq (op : BinOp) (x y : Value) (H : AHeap) (K : Value → AHeap → Prop) : Prop := match emptyCmp op x y with
  | true => K (.bool true) H ∧ K (.bool false) H
  | false => bnd (aBin op .slice x y) fun v => K v H
def aBinK (op : BinOp) (e : EK) (x y : Value) (H : AHeap) (K : Value → AHeap → Prop) : Prop := match e with
  | .slice => aSlEq op x y H K
  | .bool => bnd (aBin op .bool x y) fun v => K v H
  | .ptr => bnd (aBin op .ptr x y) fun v => K v H
  | .iface => bnd (aBin op .iface x y) fun v => K v H
  | .cells ks => bnd (aBin op (.cells ks) x y) fun v => K v H
  | .no => bnd (aBin op .no x y) fun v => K v H
theorem aBinK_inv {op : BinOp} {e : EK} {x y : Value} {H : AHeap} {K : Value → AHeap → Prop} (h : aBinK op e x y H K) : (e = .slice ∧ emptyCmp op x y = true ∧ K (.bool true) H ∧ K (.bool false) H) ∨ ∃ v, aBin op e x y = some v ∧ K v H := by
  cases e with
  | slice =>
    simp only [aBinK, aSlEq] at h
    split at h
    · rename_i he; exact .inl ⟨rfl, he, h.1, h.2⟩
    · exact .inr (bnd_iff.1 h)
  | bool => exact .inr (bnd_iff.1 h)
  | ptr => exact .inr (bnd_iff.1 h)
  | iface => exact .inr (bnd_iff.1 h)
  | cells ks => exact .inr (bnd_iff.1 h)
  | no => exact .inr (bnd_iff.1 h)
theorem aBinK_mono {op : BinOp} {e : EK} {x y : Value} {H : AHeap} {K L : Value → AHeap → Prop} (h : aBinK op e x y H K) (hKL : ∀ v, K v H → L v H) : aBinK op e x y H L := by
  have bm : ∀ {z : Option Value}, bnd z (fun v => K v H) → bnd z (fun v => L v H) := fun {z} hz => by
    obtain ⟨v, h1, h2⟩ := bnd_iff.1 hz
    exact bnd_iff.2 ⟨v, h1, hKL v h2⟩
  cases e with
  | slice =>
    simp only [aBinK, aSlEq] at h ⊢
    split at h
    · exact ⟨hKL _ h.1, hKL _ h.2⟩
    · exact bm h
  | bool => exact bm h
  | ptr => exact bm h
  | iface => exact bm h
  | cells ks => exact bm h
  | no => exact bm h
theorem aBinK_of {op : BinOp} {e : EK} {x y v : Value} {H : AHeap} {K : Value → AHeap → Prop} (hne : e ≠ .slice) (h : aBin op e x y = some v) (hk : K v H) : aBinK op e x y H K := by
  cases e with
  | slice => exact absurd rfl hne
  | bool => exact bnd_iff.2 ⟨v, h, hk⟩
  | ptr => exact bnd_iff.2 ⟨v, h, hk⟩
  | iface => exact bnd_iff.2 ⟨v, h, hk⟩
  | cells ks => exact bnd_iff.2 ⟨v, h, hk⟩
  | no => exact bnd_iff.2 ⟨v, h, hk⟩

def aBinN (op : BinOp) (e : EK) (oy : Operand) (x y : Value) (H : AHeap) (K : Value → AHeap → Prop) : Prop := match nilRight e oy with
  | true => bnd (aIfaceNil op x) fun v => K v H
  | false => aBinK op e x y H K
/-- What an operation comes to: K of its value and the heap behind it. -/
def aopK (P : Program) (op : Op) (a : ATmps) (H : AHeap) (K : Value → AHeap → Prop) : Prop :=
  let ev := aeval P.globals.size a
  match op with
  | .move x => K (ev x) H
  | .assign x => K (ev x) H
  | .pick c x y => bnd (aPick (ev c) (ev x) (ev y)) fun v => K v H
  | .alloc t => match tyZero P t with
    | some cs => match cs.all plainCell with
      | true => aAlloc cs t H K
      | false => False
    | none => False
  | .box t x => aBox t (ev x) H K
  | .build t parts => match structPlaces P t, tyZero P t with
    | some places, some zs => match zs.all plainCell with
      | true => match resolve (fun i => places[i]?) (opParts P.globals.size a parts) with
        | some rs => bnd (aFill zs rs) fun cs => K (.agg cs.toArray) H
        | none => False
      | false => False
    | _, _ => False
  | .buildSlice t len parts => match elemInfo P t with
    | some (e, n + 1, _, zs) => match resolve (fun i => some (i * (n + 1), n + 1)) (opParts P.globals.size a parts), decide (len * (n + 1) ≤ 16777216) with
      | some rs, true => aBuildSlice (n + 1) len e zs rs H K
      | _, _ => False
    | _ => False
  | .load t x => bnd (aLoad P t (ev x) H) fun v => K v H
  | .store t x y => match tySize P t with
    | some n => bnd (aSt n (ev x) (ev y) H) fun H' => K undef H'
    | none => False
  | .nilCheck x => bnd (aNilCheck (ev x)) fun v => K v H
  | .binOp op t x y _ => aBinN op (eqKind P t) y (ev x) (ev y) H K
  | .unOp op _ x => bnd (aUn op (ev x)) fun v => K v H
  | .convert s d x => aConvX P s d (ev x) H K
  | .makeFunc (.func f) first capt => K (.func (.func f) (opArgs P.globals.size a first).toArray (opArgs P.globals.size a capt).toArray) H
  | .makeSlice t l c => match elemInfo P t with
    | some (e, _, bytes, zs) => aMakeSlice bytes e zs (ev l) (ev c) H K
    | none => False
  | .slice t x lo hi none => match P.underlying t with
    | some (.slice e) => match tySize P e with
      | some (n + 1) => bnd (aSliceSl (n + 1) (ev x) (opOpt P.globals.size a lo) (opOpt P.globals.size a hi)) fun v => K v H
      | _ => False
    | some .string => bnd (aSliceStr (ev x) (opOpt P.globals.size a lo) (opOpt P.globals.size a hi)) fun v => K v H
    | some (.array len e) => match tySize P e with
      | some n => bnd (aSliceArr len n (ev x) (opOpt P.globals.size a lo) (opOpt P.globals.size a hi)) fun v => K v H
      | none => False
    | _ => False
  | .fieldAddr s x f => match fieldOff P s f with
    | some off => bnd (aAdd off (ev x)) fun v => K v H
    | none => False
  | .field s x f => match fieldPart P s f with
    | some (g, off, n) => bnd (aPart g off n (ev x)) fun v => K v H
    | none => False
  | .indexAddr t x i => match P.underlying t with
    | some (.slice e) => match tySize P e with
      | some n => bnd (aIdxAddr n (ev x) (ev i)) fun v => K v H
      | none => False
    | some (.array len e) => match tySize P e with
      | some n => bnd (aIdxAddrArr len n (ev x) (ev i)) fun v => K v H
      | none => False
    | _ => False
  | .index t x i => bnd (aIdxV P t (ev x) (ev i)) fun v => K v H
  | .extract x i => bnd (aExtract (ev x) i) fun v => K v H
  | .call { callee := .value (.func f), args, argTypes := _ } => aCallF (goodCall P f) P f (opArgs P.globals.size a args) H K
  | .call { callee := .value x, args, argTypes := _ } => aCallV P (ev x) (opArgs P.globals.size a args) H K
  | .call { callee := .builtin .len, args, argTypes } => args1 argTypes.toList (opArgs P.globals.size a args) fun t v => aLenX P t v H K
  | .call { callee := .builtin .append, args, argTypes } => args2 argTypes.toList (opArgs P.globals.size a args) fun t t' v v' => aAppX P t t' v v' H K
  | .call { callee := .builtin .cap, args, argTypes } => args1 argTypes.toList (opArgs P.globals.size a args) fun t v => aCapX P t v H K
  | .makeMap _ none => aMakeMap H K
  | .lookup t x i true => match mapInfo P t with
    | some z => bnd (aLookup z (ev x) (ev i) H) fun v => K v H
    | none => False
  | .mapUpdate t m i x => match mapInfo P t with
    | some _ => bnd (aMapUpd (ev m) (ev i) (ev x) H) fun H' => K undef H'
    | none => False
  | .call { callee := .builtin .max, args, argTypes } => args2 argTypes.toList (opArgs P.globals.size a args) fun _ _ v v' => bnd (aMax v v') fun v => K v H
  | .call { callee := .builtin .unsafeSliceData, args, argTypes } => args1 argTypes.toList (opArgs P.globals.size a args) fun _ v => bnd (aSliceData v) fun v => K v H
  | .call { callee := .builtin .unsafeString, args, argTypes } => args2 argTypes.toList (opArgs P.globals.size a args) fun t _ v v' => aUStr P t v v' H K
  | _ => False

/-- Abstract and concrete temporaries. -/
structure ATRel (φ : Phi) (n : Nat) (a : ATmps) (act : Act) : Prop where
  size : act.tmps.size = n
  out : ∀ t, n ≤ t → a t = undef
  rel : ∀ t, t < n → VRel φ (a t) (act.tmps.getD t undef)
  defers : act.defers = []

theorem ATRel.get {φ : Phi} {n : Nat} {a : ATmps} {act : Act} (h : ATRel φ n a act) (t : Nat) : VRel φ (a t) (act.tmps.getD t undef) := by
  rcases Nat.lt_or_ge t n with ht | ht
  · exact h.rel t ht
  · rw [h.out t ht]
    have : act.tmps.getD t undef = undef := by simp [Array.getD, show ¬ t < act.tmps.size by rw [h.size]; omega]
    rw [this]
    exact VRel.undef φ
theorem ATRel.mono {φ ψ : Phi} {n : Nat} {a : ATmps} {act : Act} (h : ATRel φ n a act) (hle : φ.le ψ) : ATRel ψ n a act := ⟨h.size, h.out, fun t ht => (h.rel t ht).mono hle, h.defers⟩

theorem VRel.plainOr (φ : Phi) (v : Value) : VRel φ (Abs.plainOr v) v := by
  unfold Abs.plainOr
  split
  · rename_i h; exact .plain h
  · exact .top

theorem eval_rel {G B : Nat} {φ : Phi} {H : AHeap} {w : World} (hr : Rel G B φ H w) {n : Nat} {a : ATmps} {act : Act} (h : ATRel φ n a act) (x : Operand) : VRel φ (aeval G a x) (act.eval x) := by
  cases x with
  | tmp t => exact h.get t
  | const v => exact VRel.plainOr φ v
  | global g =>
    simp only [aeval, Act.eval]
    split
    · rename_i hg
      obtain ⟨p, hp, h1, h2⟩ := hr.glob g (of_decide_eq_true hg)
      have := VRel.ptr (φ := φ) (b := g) (o := 0) hp
      rw [h1, h2] at this
      exact this
    · exact .top
  | func f => exact .func rfl rfl (fun i u v h => by simp at h) (fun i u v h => by simp at h)

theorem evals_rel {G B : Nat} {φ : Phi} {H : AHeap} {w : World} (hr : Rel G B φ H w) {n : Nat} {a : ATmps} {act : Act} (h : ATRel φ n a act) (xs : List Operand) : VRels φ (xs.map (aeval G a)) (xs.map act.eval) := by
  refine ⟨by simp, fun i u v hu hv => ?_⟩
  simp only [List.getElem?_map, Option.map_eq_some_iff] at hu hv
  obtain ⟨x, hx, rfl⟩ := hu
  obtain ⟨y, hy, rfl⟩ := hv
  rw [hx] at hy
  cases hy
  exact eval_rel hr h x
end Go.Abs
