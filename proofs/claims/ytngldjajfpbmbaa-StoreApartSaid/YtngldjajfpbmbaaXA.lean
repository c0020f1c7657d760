/- Contracts of functions that the statement reaches; each theorem carries its own conditions, the last theorem of the claim has none. -/
import Derived.Test.YtngldjajfpbmbaaS1
set_option linter.unusedVariables false
set_option linter.unusedSimpArgs false
namespace Go.Proofs.Ytngldjajfpbmbaa.A
open Go Go.Abs

theorem ACalls.eq' {f : FuncId} {args : List Value} {H : AHeap} {r : Value} (h : ACalls Try.prog f args H fun v H' => v = r ∧ Keep H.next H H') (hp : VIn (fun c => c < H.next) r) : ACalls Try.prog f args H fun v H' => v = r ∧ H' = H :=
  ACalls.pure (L := fun v => v = r) h fun v hv => by subst hv; exact hp
theorem vin_two {K : Nat → Prop} {a b : Value} (ha : VIn K a) (hb : VIn K b) : VIn K (.tuple #[a, b]) := by
  refine .tuple fun i u h => ?_
  match i, h with
  | 0, h => simp at h; subst h; exact ha
  | 1, h => simp at h; subst h; exact hb
  | i + 2, h => simp at h
theorem vin_agg2 {K : Nat → Prop} {a b : Value} (ha : VIn K a) (hb : VIn K b) : VIn K (.agg #[a, b]) := by
  refine .agg fun i u h => ?_
  match i, h with
  | 0, h => simp at h; subst h; exact ha
  | 1, h => simp at h; subst h; exact hb
  | i + 2, h => simp at h

section
variable (a : Addr) (x : Option Addr) (n c : Nat)
@[simp] theorem eqPtr : aBin .eql .ptr (.pointer (some a)) (.pointer none) = some (.bool false) := nr rfl
@[simp] theorem nePtr : aBin .neq .ptr (.pointer (some a)) (.pointer none) = some (.bool true) := nr rfl
@[simp] theorem eqNil : aBin .eql .ptr (.pointer none) (.pointer none) = some (.bool true) := nr rfl
@[simp] theorem neNil : aBin .neq .ptr (.pointer none) (.pointer none) = some (.bool false) := nr rfl
@[simp] theorem eqSNil : aBin .eql .slice (.slice none n c) (.slice none 0 0) = some (.bool true) := nr rfl
theorem eqSl (h : n ≠ 0) : aBin .eql .slice (.slice (some a) n c) (.slice none 0 0) = some (.bool false) := by simp [aBin, aEqK, h]
end

@[congr] theorem aSlEq_congr {op : BinOp} {x x' y y' : Value} {H : AHeap} {K : Value → AHeap → Prop} {zz : Prop} (h : x = x') (h' : y = y') (_hq : (∃ n : Nat, n = 0) = zz) : aSlEq op x y H K = aSlEq op x' y' H K := by rw [h, h']
@[simp] theorem aSlEq_nil (n c : Nat) (H : AHeap) (K : Value → AHeap → Prop) : aSlEq .eql (.slice none n c) (.slice none 0 0) H K = K (.bool true) H := nr rfl
theorem aSlEq_some {b o n c : Nat} (H : AHeap) (K : Value → AHeap → Prop) (h : n ≠ 0) : aSlEq .eql (.slice (some ⟨b, o, none⟩) n c) (.slice none 0 0) H K = K (.bool false) H := by
  cases n with
  | zero => exact absurd rfl h
  | succ n => simp [aSlEq, emptyCmp, aBin, aEqK, bnd]
theorem aSlEq_emp {b o c : Nat} (H : AHeap) (K : Value → AHeap → Prop) : aSlEq .eql (.slice (some ⟨b, o, none⟩) 0 c) (.slice none 0 0) H K = (K (.bool true) H ∧ K (.bool false) H) := rfl

/-! The store in memory. -/
abbrev V := Int × Int
abbrev eV (x : V) : List Value := [.int .i64 x.1, .int .i64 x.2]
abbrev vV (x : V) : Value := .agg #[.int .i64 x.1, .int .i64 x.2]
abbrev eS (x : ByteArray) : List Value := [.string x]
abbrev Pt (p : Nat) : Value := .pointer (some ⟨p, 0, none⟩)
/-- Where a piece of syntax has its rows, and how many are in each. -/
structure Ext where
  neg : Bool
  limbs : Option Addr × Nat
  lst : Option Addr
  pos : Int
  marks : Option Addr × Nat
  subs : Option Addr × Nat
def Ext.nil : Ext := ⟨false, (none, 0), none, 0, (none, 0), (none, 0)⟩
def Ext.n (e : Ext) : Nat := e.limbs.2 + e.marks.2 + e.subs.2
structure Ob where
  kind : Int
  slots : List V
  sk : Int
  text : ByteArray
  ex : Ext
structure Sm where
  lim : Int
  used : Int
  objs : List Ob
  names : List ByteArray
def encO (x : Ob × Option Addr) : List Value :=
  [.int .i64 x.1.kind, .slice x.2 x.1.slots.length x.1.slots.length, .int .i64 x.1.sk, .string x.1.text, .bool x.1.ex.neg, .slice x.1.ex.limbs.1 x.1.ex.limbs.2 x.1.ex.limbs.2, .slice x.1.ex.lst 0 0, .int .i64 x.1.ex.pos, .slice x.1.ex.marks.1 x.1.ex.marks.2 x.1.ex.marks.2, .slice x.1.ex.subs.1 x.1.ex.subs.2 x.1.ex.subs.2]
def entries (names : List ByteArray) : List (Value × Value) := names.zipIdx.map fun x => (.string x.1, .int .i64 x.2)
/-- Which store lies at p, in which blocks. -/
structure StX (H : AHeap) (p : Nat) (m : Sm) (F : Nat → Prop) (A : Option Addr) (os : List (Option Addr)) (NA : Option Addr) (mb : Nat) : Prop where
  len : os.length = m.objs.length
  hp : H.at_ p = .cells [.int .i64 m.lim, .int .i64 m.used, .slice A m.objs.length m.objs.length, .slice NA m.names.length m.names.length, .map (some mb)] .var 88
  objs : Ow 10 encO 94 0 H A (m.objs.zip os)
  slots : ∀ (i : Nat) (o : Ob) (a : Option Addr), m.objs[i]? = some o → os[i]? = some a → Ow 2 eV 28 0 H a o.slots
  dist : ∀ (i j : Nat) (a b : Addr), os[i]? = some (some a) → os[j]? = some (some b) → a.block = b.block → i = j
  names : Ow 1 eS 9 0 H NA m.names
  map : H.at_ mb = .map (entries m.names)
  fp : F p
  fA : ∀ a, A = some a → F a.block
  fo : ∀ (i : Nat) (a : Addr), os[i]? = some (some a) → F a.block
  fN : ∀ a, NA = some a → F a.block
  fm : F mb
  lt : ∀ b, F b → b < H.next
def St (H : AHeap) (p : Nat) (m : Sm) (F : Nat → Prop) : Prop := ∃ A os NA mb, StX H p m F A os NA mb

theorem _root_.Go.Abs.Ow.at {α : Type} {n : Nat} {enc : α → List Value} {e : TypeId} {lo : Nat} {H H' : AHeap} {A : Option Addr} {xs : List α} (h : Ow n enc e lo H A xs) (hn : H.next ≤ H'.next) (hk : ∀ a, A = some a → H'.at_ a.block = H.at_ a.block) : Ow n enc e lo H' A xs := by
  refine ⟨h.1, h.2.imp id ?_⟩
  rintro ⟨b, cs, h1, h2, h3, h4, h5⟩
  exact ⟨b, cs, h1, h2, by omega, (hk _ h1).trans h4, h5⟩
theorem StX.frame {H H' : AHeap} {p : Nat} {m : Sm} {F : Nat → Prop} {A : Option Addr} {os : List (Option Addr)} {NA : Option Addr} {mb : Nat} (h : StX H p m F A os NA mb)
    (hn : H.next ≤ H'.next) (hk : ∀ b, F b → H'.at_ b = H.at_ b) : StX H' p m F A os NA mb where
  len := h.len
  hp := (hk _ h.fp).trans h.hp
  objs := h.objs.at hn fun a ha => hk _ (h.fA a ha)
  slots i o a ho ha := (h.slots i o a ho ha).at hn fun b hb => hk _ (h.fo i b (by rw [ha, hb]))
  dist := h.dist
  names := h.names.at hn fun a ha => hk _ (h.fN a ha)
  map := (hk _ h.fm).trans h.map
  fp := h.fp
  fA := h.fA
  fo := h.fo
  fN := h.fN
  fm := h.fm
  lt b hb := Nat.lt_of_lt_of_le (h.lt b hb) hn
theorem St.frame {H H' : AHeap} {p : Nat} {m : Sm} {F : Nat → Prop} (h : St H p m F) (hn : H.next ≤ H'.next) (hk : ∀ b, F b → H'.at_ b = H.at_ b) : St H' p m F := by
  obtain ⟨A, os, NA, mb, h⟩ := h
  exact ⟨A, os, NA, mb, h.frame hn hk⟩
theorem St.kept {H H' : AHeap} {p : Nat} {m : Sm} {F : Nat → Prop} (h : St H p m F) (hk : Keep H.next H H') : St H' p m F := by
  obtain ⟨A, os, NA, mb, hx⟩ := h
  exact ⟨A, os, NA, mb, hx.frame hk.next fun b hb => hk.at_ b (hx.lt b hb)⟩
theorem St.alloc {H : AHeap} {p : Nat} {m : Sm} {F : Nat → Prop} (h : St H p m F) (x : Blk) : St (H.alloc x) p m F := h.kept ((Keep.refl _ _).alloc (Nat.le_refl _) x)
theorem St.lt {H : AHeap} {p : Nat} {m : Sm} {F : Nat → Prop} (h : St H p m F) : ∀ b, F b → b < H.next := by
  obtain ⟨A, os, NA, mb, hx⟩ := h
  exact hx.lt
theorem St.fp {H : AHeap} {p : Nat} {m : Sm} {F : Nat → Prop} (h : St H p m F) : F p := by
  obtain ⟨A, os, NA, mb, hx⟩ := h
  exact hx.fp
/-- Only blocks of the store are changed; the store's blocks behind it are some of those, or new. -/
structure Fr (F : Nat → Prop) (H : AHeap) (F' : Nat → Prop) (H' : AHeap) : Prop where
  next : H.next ≤ H'.next
  at_ : ∀ b, b < H.next → ¬ F b → H'.at_ b = H.at_ b
  new : ∀ b, F' b → F b ∨ H.next ≤ b
theorem Fr.refl (F : Nat → Prop) (H : AHeap) : Fr F H F H := ⟨Nat.le_refl _, fun _ _ _ => rfl, fun _ h => .inl h⟩
theorem Fr.trans {F F' F'' : Nat → Prop} {H H' H'' : AHeap} (h : Fr F H F' H') (k : Fr F' H' F'' H'') : Fr F H F'' H'' where
  next := Nat.le_trans h.next k.next
  at_ b hb hf := (k.at_ b (Nat.lt_of_lt_of_le hb h.next) fun hf' => by
    rcases h.new b hf' with h1 | h1
    · exact hf h1
    · omega).trans (h.at_ b hb hf)
  new b hb := by
    rcases k.new b hb with h1 | h1
    · exact h.new b h1
    · exact .inr (Nat.le_trans h.next h1)
theorem Fr.keep {F : Nat → Prop} {H H' : AHeap} (hk : Keep H.next H H') : Fr F H F H' := ⟨hk.next, fun b hb _ => hk.at_ b hb, fun _ h => .inl h⟩

section
variable {H : AHeap} {p : Nat} {m : Sm} {F : Nat → Prop} {A : Option Addr} {os : List (Option Addr)} {NA : Option Addr} {mb : Nat}
theorem StX.ne (h : StX H p m F A os NA mb) : p ≠ H.next := Nat.ne_of_lt (h.lt _ h.fp)
theorem StX.zlen (h : StX H p m F A os NA mb) : (m.objs.zip os).length = m.objs.length := by rw [List.length_zip, h.len, Nat.min_self]
theorem StX.vinA (h : StX H p m F A os NA mb) (i : Nat) : VIn (fun c => c < H.next) (slot 10 A i) := by
  rcases h.objs.2 with ⟨rfl, _⟩ | ⟨b, cs, rfl, _, hb, _⟩
  · exact .plain rfl
  · exact .ptr hb
theorem StX.idx (h : StX H p m F A os NA mb) {k : IntKind} {j : Int} {c : Nat} (h0 : 0 ≤ j) (hj : j < m.objs.length) : aIdxAddr 10 (.slice A m.objs.length c) (.int k j) = some (slot 10 A j.toNat) := by
  have := h.objs.rd.idx (k := k) (c := c) h0 (by rw [h.zlen]; exact hj)
  rwa [h.zlen] at this
theorem zip_at {α β : Type} {xs : List α} {ys : List β} {i : Nat} {a : α} {b : β} (ha : xs[i]? = some a) (hb : ys[i]? = some b) : (xs.zip ys)[i]? = some (a, b) := by
  simp [List.zip, List.getElem?_zipWith, ha, hb]
/-- A part of an object. -/
theorem StX.part (h : StX H p m F A os NA mb) {i : Nat} {o : Ob} {a : Option Addr} (ho : m.objs[i]? = some o) (ha : os[i]? = some a) : ∃ b, A = some ⟨b, 0, none⟩ ∧ b < H.next ∧ ∃ cs, H.at_ b = .cells cs (.row 10) 94 ∧ i * 10 + 10 ≤ cs.length ∧ (cs.drop (i * 10)).take 10 = encO (o, a) := by
  have hz := zip_at ho ha
  have hlt : i < (m.objs.zip os).length := (List.getElem?_eq_some_iff.1 hz).1
  rcases h.objs.2 with ⟨_, h2⟩ | ⟨b, cs, h1, h2, h3, h4, h5, h6⟩
  · rw [h2] at hlt; simp at hlt
  · refine ⟨b, h1, h3, cs, h4, ?_, ?_⟩
    · have : (i + 1) * 10 ≤ (m.objs.zip os).length * 10 := Nat.mul_le_mul_right _ hlt
      omega
    · have h7 := flatMap_at (f := encO) (n := 10) (fun x _ => rfl) hz
      rw [← h6, List.drop_take, List.take_take] at h7
      rw [← h7]
      congr 1
      have : (i + 1) * 10 ≤ (m.objs.zip os).length * 10 := Nat.mul_le_mul_right _ hlt
      omega
end

def okRef (m : Sm) (v : V) : Bool := decide (v.1 = 7) && (decide (0 ≤ v.2) && decide (v.2 < m.objs.length))
theorem c62 {H : AHeap} {p : Nat} {m : Sm} {F : Nat → Prop} {A : Option Addr} {os : List (Option Addr)} {NA : Option Addr} {mb : Nat} (h : StX H p m F A os NA mb) (v : V) :
    ACalls Try.prog 62 [Pt p, vV v] H fun r H' => r = (if okRef m v then slot 10 A v.2.toNat else .pointer none) ∧ H' = H := by
  refine ACalls.eq' (S62_calls ?_) ?_
  · unfold S62 okRef
    have hne := h.ne
    have e : ∀ x, (H.alloc x).at_ p = H.at_ p := fun x => AHeap.at_alloc_ne _ _ hne
    have hk : ∀ x, Keep H.next H (H.alloc x) := fun x => (Keep.refl _ _).alloc (Nat.le_refl _) _
    by_cases h1 : v.1 = 7
    · by_cases h2 : v.2 < 0
      · have h2' : ¬ 0 ≤ v.2 := by omega
        simp [h1, h2, h2', hk]
      · have h2' : 0 ≤ v.2 := by omega
        by_cases h3 : v.2 < m.objs.length
        · have h3' : ¬ (m.objs.length : Int) ≤ v.2 := by omega
          have hi := h.idx (k := .i64) (c := m.objs.length) h2' h3
          simp [h1, h2, h2', h3, h3', e, h.hp, hi, hk]
        · have h3' : (m.objs.length : Int) ≤ v.2 := by omega
          simp [h1, h2, h2', h3, h3', e, h.hp, hk]
    · simp [h1, hk]
  · split
    · exact h.vinA _
    · exact .plain rfl
end Go.Proofs.Ytngldjajfpbmbaa.A

set_option linter.unusedVariables false
set_option linter.unusedSimpArgs false
namespace Go.Proofs.Ytngldjajfpbmbaa.A
open Go Go.Abs

@[simp] theorem aFill_nil (cs : List Value) : aFill cs [] = some cs := nr rfl
@[simp] theorem aFill_cons (cs : List Value) (off n : Nat) (v : Value) (r : List (Nat × Nat × Value)) : aFill cs ((off, n, v) :: r) = if (vcells v).length = n ∧ off + n ≤ cs.length ∧ (vcells v).all okCell = true then aFill (setCells cs off (vcells v)) r else none := nr rfl
@[simp] theorem setCells_nil (cs : List Value) (o : Nat) : setCells cs o [] = cs := nr (by cases cs <;> rfl)
@[simp] theorem setCells_cons (cs : List Value) (o : Nat) (v : Value) (vs : List Value) : setCells cs o (v :: vs) = setCells (cs.set o v) (o + 1) vs := nr (by cases cs <;> rfl)

def Sm.ob (m : Sm) (v : V) : Ob := m.objs.getD v.2.toNat ⟨0, [], 0, ⟨#[]⟩, Ext.nil⟩
theorem okRef_iff {m : Sm} {v : V} : okRef m v = true ↔ v.1 = 7 ∧ 0 ≤ v.2 ∧ v.2 < m.objs.length := by simp [okRef]
section
variable {H : AHeap} {p : Nat} {m : Sm} {F : Nat → Prop} {A : Option Addr} {os : List (Option Addr)} {NA : Option Addr} {mb : Nat}
/-- The object of a value, where it lies. -/
theorem StX.look (h : StX H p m F A os NA mb) {v : V} (hv : okRef m v = true) : ∃ a b cs, m.objs[v.2.toNat]? = some (m.ob v) ∧ os[v.2.toNat]? = some a ∧ slot 10 A v.2.toNat = .pointer (some ⟨b, v.2.toNat * 10, none⟩) ∧ b < H.next ∧
    H.at_ b = .cells cs (.row 10) 94 ∧ v.2.toNat * 10 + 10 ≤ cs.length ∧ (∀ k, k < 10 → cs[v.2.toNat * 10 + k]? = (encO (m.ob v, a))[k]?) ∧ Ow 2 eV 28 0 H a (m.ob v).slots := by
  obtain ⟨h1, h2, h3⟩ := okRef_iff.1 hv
  have hlt : v.2.toNat < m.objs.length := by omega
  have ho : m.objs[v.2.toNat]? = some (m.ob v) := by simp [Sm.ob, List.getD_eq_getElem?_getD, hlt]
  have hlt' : v.2.toNat < os.length := by rw [h.len]; exact hlt
  have ha := List.getElem?_eq_getElem hlt'
  obtain ⟨b, hA, hb, cs, hat, hl, hc⟩ := h.part ho ha
  refine ⟨_, b, cs, ho, ha, by rw [hA]; simp [slot], hb, hat, hl, fun k hk => ?_, h.slots _ _ _ ho ha⟩
  rw [← hc, List.getElem?_take, if_pos hk, List.getElem?_drop]
end

def slotRes (m : Sm) (v : V) (i : Int) (a : Option Addr) : Value :=
  if okRef m v then (if 0 ≤ i ∧ i < (m.ob v).slots.length then .tuple #[slot 2 a i.toNat, .int .i64 0] else .tuple #[.pointer none, .int .i64 12]) else .tuple #[.pointer none, .int .i64 10]
theorem c47 {H : AHeap} {p : Nat} {m : Sm} {F : Nat → Prop} {A : Option Addr} {os : List (Option Addr)} {NA : Option Addr} {mb : Nat} (h : StX H p m F A os NA mb) (v : V) (i : Int) (a : Option Addr)
    (ha : okRef m v = true → os[v.2.toNat]? = some a) :
    ACalls Try.prog 47 [Pt p, vV v, .int .i64 i] H fun r H' => r = slotRes m v i a ∧ H' = H := by
  refine ACalls.eq' (S47_calls ?_) ?_
  · unfold S47 slotRes
    have hk : ∀ x, Keep H.next H (H.alloc x) := fun x => (Keep.refl _ _).alloc (Nat.le_refl _) _
    have hx : ∀ x, StX (H.alloc x) p m F A os NA mb := fun x => h.frame (hk x).next fun b hb => (hk x).at_ b (h.lt b hb)
    simp
    refine (c62 (hx _) v).use ?_
    cases hv : okRef m v with
    | false => simp [hk]
    | true =>
      obtain ⟨a', b, cs, ho, ha', hs, hb, hat, hl, hc, hsl⟩ := h.look hv
      rw [ha hv] at ha'
      cases ha'
      have e : ∀ x, (H.alloc x).at_ b = H.at_ b := fun x => AHeap.at_alloc_ne _ _ (Nat.ne_of_lt hb)
      have h1 := hc 1 (by omega)
      simp [encO] at h1
      simp [hs]
      unfold S47_46
      by_cases h2 : i < 0
      · have h2' : ¬ 0 ≤ i := by omega
        simp [h2, h2', hk]
      · have h2' : 0 ≤ i := by omega
        by_cases h3 : i < (m.ob v).slots.length
        · have h3' : ¬ ((m.ob v).slots.length : Int) ≤ i := by omega
          have hi := hsl.rd.idx (k := .i64) (c := (m.ob v).slots.length) h2' h3
          simp [h2, h2', h3, h3', e, hat, h1, hi, hk]
        · have h3' : ((m.ob v).slots.length : Int) ≤ i := by omega
          simp [h2, h2', h3, h3', e, hat, h1, hk]
  · unfold slotRes
    split
    · rename_i hv
      obtain ⟨a', b, cs, ho, ha', hs, hb, hat, hl, hc, hsl⟩ := h.look hv
      rw [ha hv] at ha'
      cases ha'
      split
      · refine vin_two ?_ (.plain rfl)
        rcases hsl.2 with ⟨rfl, _⟩ | ⟨b, cs, rfl, _, hb, _⟩
        · exact .plain rfl
        · exact .ptr hb
      · exact vin_two (.plain rfl) (.plain rfl)
    · exact vin_two (.plain rfl) (.plain rfl)

/-- Get. -/
def Sm.get (m : Sm) (v : V) (i : Int) : V × Int :=
  if okRef m v then (if 0 ≤ i ∧ i < (m.ob v).slots.length then ((m.ob v).slots.getD i.toNat (0, 0), 0) else ((0, 0), 12)) else ((0, 0), 10)
theorem c18 {H : AHeap} {p : Nat} {m : Sm} {F : Nat → Prop} (h : St H p m F) (v : V) (i : Int) :
    ACalls Try.prog 18 [Pt p, vV v, .int .i64 i] H fun r H' => r = .tuple #[vV (m.get v i).1, .int .i64 (m.get v i).2] ∧ H' = H := by
  refine ACalls.eq' (S18_calls ?_) (vin_two (vin_agg2 (.plain rfl) (.plain rfl)) (.plain rfl))
  obtain ⟨A, os, NA, mb, h⟩ := h
  unfold S18
  have hk2 : ∀ x y, Keep H.next H ((H.alloc x).alloc y) := fun x y => ((Keep.refl _ _).alloc (Nat.le_refl _) _).alloc (by simp) _
  have hk3 : ∀ x y z, Keep H.next H (((H.alloc x).alloc y).upd (H.next + 1) z) := fun x y z => (hk2 x y).upd (by omega) _
  have hx : ∀ x y, StX ((H.alloc x).alloc y) p m F A os NA mb := fun x y => h.frame (hk2 x y).next fun b hb => (hk2 x y).at_ b (h.lt b hb)
  simp [at_alloc]
  cases hv : okRef m v with
  | false =>
    refine (c47 (hx _ _) v i none (by rw [hv]; intro h; cases h)).use ?_
    unfold S18_17
    simp [slotRes, hv, at_alloc, at_upd, Sm.get, hk3, setCells]
  | true =>
    obtain ⟨a, b, cs, ho, ha, hs, hb, hat, hl, hc, hsl⟩ := h.look hv
    refine (c47 (hx _ _) v i a (fun _ => ha)).use ?_
    unfold S18_17
    by_cases h3 : 0 ≤ i ∧ i < (m.ob v).slots.length
    · obtain ⟨c, o, ds, k, t, rfl, hc1, hc2, hc3, hc4⟩ := hsl.rd.elem (j := i.toNat) (by omega)
      have hc5 : c ≠ H.next ∧ c ≠ H.next + 1 := by omega
      have hg : (m.ob v).slots[i.toNat]? = some ((m.ob v).slots[i.toNat]'(by omega)) := List.getElem?_eq_getElem (by omega)
      simp [slotRes, hv, h3, at_alloc, at_upd, Sm.get, hk3, setCells, slot, hc5, hc2, hc3, hc4, List.getD_eq_getElem?_getD, hg]
    · simp [slotRes, hv, h3, at_alloc, at_upd, Sm.get, hk3, setCells]

theorem c17 {H : AHeap} {p : Nat} {m : Sm} {F : Nat → Prop} (h : St H p m F) : ACalls Try.prog 17 [Pt p] H fun r H' => r = .int .i64 m.used ∧ H' = H := by
  refine ACalls.eq (S17_calls ?_) rfl
  obtain ⟨A, os, NA, mb, h⟩ := h
  unfold S17
  simp [h.hp]

theorem c38 {H : AHeap} (k n : Int) : ACalls Try.prog 38 [.int .i64 k, .int .i64 n] H fun r H' => r = .bool (if k = 1 then decide (n = 2) else if k = 3 then decide (n = 1) else decide (1 ≤ k ∧ k ≤ 9)) ∧ H' = H := by
  refine ACalls.eq (S38_calls ?_) rfl
  unfold S38
  by_cases h1 : k = 1
  · simp [h1]
  by_cases h2 : k = 3
  · simp [h1, h2]
  simp [h1, h2]
  unfold S38_15
  by_cases h3 : 1 ≤ k
  · simp [h1, h2, h3]
  · simp [h1, h2, h3]

theorem c71 {H : AHeap} (n : Int) : ACalls Try.prog 71 [.int .i32 n] H fun r H' => r = .bool (decide ((0 ≤ n ∧ n < 55296) ∨ (57343 < n ∧ n ≤ 1114111))) ∧ H' = H := by
  refine ACalls.eq (S71_calls ?_) rfl
  unfold S71
  by_cases h1 : 0 ≤ n
  · by_cases h2 : n < 55296
    · simp [h1, h2]
    · simp [h1, h2]
      unfold S71_22
      by_cases h3 : 57343 < n
      · by_cases h4 : n ≤ 1114111
        · simp [h1, h2, h3, h4]
        · simp [h1, h2, h3, h4]
      · simp [h1, h2, h3]
  · have h3 : ¬ 57343 < n := by omega
    simp [h1]
    unfold S71_22
    simp [h1, h3]
def scalar (n : Int) : Bool := decide ((0 ≤ n ∧ n < 55296) ∨ (57343 < n ∧ n ≤ 1114111))
theorem c61 {H : AHeap} (n : Int) : ACalls Try.prog 61 [.int .i64 n] H fun r H' => r = .bool (scalar n) ∧ H' = H := by
  refine ACalls.eq (S61_calls ?_) rfl
  unfold S61 scalar
  by_cases h1 : 0 ≤ n
  · by_cases h2 : n ≤ 1114111
    · have hw : IntKind.i32.wrap n = n := by rw [IntKind.wrap_i32]; omega
      simp [h1, h2, hw]
      refine (c71 n).use ?_
      simp [h1, h2]
    · have h3 : ¬ n < 55296 := by omega
      simp [h1, h2, h3]
  · have h3 : ¬ 57343 < n := by omega
    simp [h1, h3]

/-- Sound. -/
def Sm.sound (m : Sm) (v : V) : Bool :=
  if v.1 = 0 ∨ v.1 = 1 ∨ v.1 = 2 ∨ v.1 = 3 ∨ v.1 = 9 then decide (v.2 = 0)
  else if v.1 = 4 then true else if v.1 = 5 then scalar v.2 else if v.1 = 8 then decide (0 ≤ v.2 ∧ v.2 < 256)
  else if v.1 = 6 then decide (0 ≤ v.2 ∧ v.2 < m.names.length) else okRef m v
theorem c30 {H : AHeap} {p : Nat} {m : Sm} {F : Nat → Prop} (h : St H p m F) (v : V) : ACalls Try.prog 30 [Pt p, vV v] H fun r H' => r = .bool (m.sound v) ∧ H' = H := by
  refine ACalls.eq (S30_calls ?_) rfl
  obtain ⟨A, os, NA, mb, h⟩ := h
  have hk : ∀ x, Keep H.next H (H.alloc x) := fun x => (Keep.refl _ _).alloc (Nat.le_refl _) _
  have hx : ∀ x, StX (H.alloc x) p m F A os NA mb := fun x => h.frame (hk x).next fun b hb => (hk x).at_ b (h.lt b hb)
  have hp : ∀ x, (H.alloc x).at_ p = H.at_ p := fun x => AHeap.at_alloc_ne _ _ h.ne
  unfold S30
  simp
  rw [aJoin_eq]
  unfold Sm.sound
  have fin : ∀ x, v.1 = 0 ∨ v.1 = 1 ∨ v.1 = 2 ∨ v.1 = 3 ∨ v.1 = 9 → x = Value.bool true → S30_154 (Pt p) (fun r H' => r = .bool (decide (v.2 = 0)) ∧ Keep H.next H H') (.pointer (some ⟨H.next, 0, none⟩)) (.int .i64 v.1) [x] (H.alloc (.cells (eV v) .var 28)) := by
    intro x h5 hx5
    subst hx5
    unfold S30_154
    simp
    unfold S30_24
    simp [h5, hk]
  obtain ⟨t, n⟩ := v
  dsimp only at fin ⊢
  by_cases h0 : t = 0
  · subst h0
    simpa using fin _ (by simp) rfl
  by_cases h1 : t = 1
  · subst h1
    simpa using fin _ (by simp) rfl
  by_cases h2 : t = 2
  · subst h2
    unfold S30_153
    simpa using fin _ (by simp) rfl
  by_cases h3 : t = 3
  · subst h3
    unfold S30_153
    simpa using fin _ (by simp) rfl
  by_cases h9 : t = 9
  · subst h9
    unfold S30_153
    simpa using fin _ (by simp) rfl
  simp [h0, h1]
  unfold S30_153
  simp [h2, h3, h9]
  unfold S30_154
  simp
  by_cases h4 : t = 4
  · simp [h4, hk]
  simp [h4]
  unfold S30_147
  by_cases h5 : t = 5
  · simp [h5]
    unfold S30_46
    simp
    refine (c61 n).use ?_
    simp [hk]
  by_cases h8 : t = 8
  · simp [h5, h8]
    unfold S30_81
    by_cases g1 : 0 ≤ n
    · simp [g1, hk]
    · simp [g1, hk]
  by_cases h6 : t = 6
  · simp [h5, h8, h6]
    unfold S30_140
    by_cases g1 : 0 ≤ n
    · simp [g1, hk, hp, h.hp]
    · simp [g1, hk]
  simp [h5, h8, h6]
  unfold S30_146
  by_cases h7 : t = 7
  · simp [h7]
    subst h7
    refine (c62 (hx _) (7, n)).use ?_
    cases hv : okRef m (7, n) with
    | false => simp [hk]
    | true =>
      obtain ⟨a, b, cs, ho, ha, hs, hb, hat, hl, hc, hsl⟩ := h.look hv
      simp at hs
      simp [hs, hk]
  · simp [h7, hk, okRef]
end Go.Proofs.Ytngldjajfpbmbaa.A

set_option linter.unusedVariables false
set_option linter.unusedSimpArgs false
namespace Go.Proofs.Ytngldjajfpbmbaa.A
open Go Go.Abs

theorem good40 : goodCall Try.prog 40 = true := by kernel_rfl
theorem good43 : goodCall Try.prog 43 = true := by kernel_rfl
theorem good46 : goodCall Try.prog 46 = true := by kernel_rfl

theorem c40 {H : AHeap} {p q : Nat} {m : Sm} {F : Nat → Prop} (h : St H p m F) (hq : H.at_ q = .cells [Pt p] .var 22) (hl : q < H.next) (v : V) : ACalls Try.prog 40 [vV v, Pt q] H fun r H' => r = .bool (!m.sound v) ∧ H' = H := by
  refine ACalls.eq (S40_calls ?_) rfl
  unfold S40
  have hne : q ≠ H.next := by omega
  simp [at_alloc, hne, hq]
  refine (c30 (h.alloc _) v).use ?_
  simp [Keep.alloc]

/-- The first that is none. -/
def firstBad (m : Sm) (xs : List V) : Int := match xs.findIdx? (fun v => !m.sound v) with
  | some i => i
  | none => -1
theorem c67 {H : AHeap} {p q : Nat} {m : Sm} {F : Nat → Prop} {lo : Nat} {A : Option Addr} {xs : List V} (h : St H p m F) (hq : H.at_ q = .cells [Pt p] .var 22) (hl : q < H.next) (hA : Rd 2 eV lo H A xs) (hn : xs.length ≤ 140737488355328) (g : FuncId) (hg : goodCall Try.prog g = true)
    (hc : ∀ v, ACalls Try.prog g [vV v, Pt q] H fun r H' => r = .bool (!m.sound v) ∧ H' = H) :
    ACalls Try.prog 67 [.slice A xs.length xs.length, .func (.func g) #[] #[Pt q]] H fun r H' => r = .int .i64 (firstBad m xs) ∧ H' = H := by
  refine ACalls.eq (S67_calls ?_) rfl
  unfold S67
  simp
  refine aLoop_st xs.length (fun i => [.int .i64 i]) (fun i H' => H' = H ∧ ∀ v ∈ xs.take i, m.sound v = true) rfl ⟨rfl, by simp⟩ ?_
  rintro i H' again hi ⟨rfl, hgd⟩ ha
  unfold S67_10
  by_cases h' : i < xs.length
  · have hw := wrap64 (x := (i : Int) + 1) (by omega) (by omega)
    have i1 := hA.idx (k := .i64) (j := (i : Int)) (c := xs.length) (by omega) (by omega)
    simp only [Int.toNat_natCast] at i1
    simp [h', i1, -aLdAgg_ptr, hA.agg h']
    refine ⟨hg, ?_⟩
    refine (hc xs[i]).use ?_
    cases hs : m.sound xs[i] with
    | false =>
      simp
      have : xs.findIdx? (fun v => !m.sound v) = some i := by
        rw [List.findIdx?_eq_some_iff_getElem]
        refine ⟨h', by simp [hs], fun j hj => ?_⟩
        have := hgd (xs[j]'(by omega)) (by rw [List.mem_take_iff_getElem]; exact ⟨j, by omega, rfl⟩)
        simp [this]
      simp [firstBad, this]
    | true =>
      simp [hw]
      refine ha _ h' ⟨rfl, ?_⟩
      rw [List.take_succ_eq_append_getElem h']
      intro v hv
      rcases List.mem_append.1 hv with hv | hv
      · exact hgd v hv
      · simp at hv; subst hv; exact hs
  · have hie : i = xs.length := by omega
    subst hie
    rw [List.take_length] at hgd
    simp
    have : xs.findIdx? (fun v => !m.sound v) = none := by
      rw [List.findIdx?_eq_none_iff]
      intro v hv
      simp [hgd v hv]
    simp [firstBad, this]
theorem c39 {H : AHeap} {p q : Nat} {m : Sm} {F : Nat → Prop} {lo : Nat} {A : Option Addr} {xs : List V} (h : St H p m F) (hq : H.at_ q = .cells [Pt p] .var 22) (hl : q < H.next) (hA : Rd 2 eV lo H A xs) (hn : xs.length ≤ 140737488355328) (g : FuncId) (hg : goodCall Try.prog g = true)
    (hc : ∀ v, ACalls Try.prog g [vV v, Pt q] H fun r H' => r = .bool (!m.sound v) ∧ H' = H) :
    ACalls Try.prog 39 [.slice A xs.length xs.length, .func (.func g) #[] #[Pt q]] H fun r H' => r = .bool (!xs.all m.sound) ∧ H' = H := by
  refine ACalls.eq (S39_calls ?_) rfl
  unfold S39
  refine (c67 h hq hl hA hn g hg hc).use ?_
  simp
  unfold firstBad
  cases hf : xs.findIdx? (fun v => !m.sound v) with
  | none =>
    rw [List.findIdx?_eq_none_iff] at hf
    have : xs.all m.sound = true := by rw [List.all_eq_true]; intro v hv; simpa using hf v hv
    simp at this
    simpa using this
  | some i =>
    rw [List.findIdx?_eq_some_iff_getElem] at hf
    obtain ⟨h1, h2, h3⟩ := hf
    simp at h2
    simp
    exact ⟨_, _, List.getElem_mem h1, h2⟩

/-- Clone. -/
theorem c42 {H : AHeap} {lo : Nat} {A : Option Addr} {xs : List V} (hlo : lo ≤ H.next) (hA : Rd 2 eV lo H A xs) (hn : xs.length ≤ 2097152) (he : xs = [] → A = none ∨ True) :
    ACalls Try.prog 42 [.slice A xs.length xs.length] H fun r H' => ∃ B, r = .slice B xs.length xs.length ∧ Ow 2 eV 28 H.next H' B xs ∧ Keep H.next H H' := by
  refine S42_calls ?_
  unfold S42
  cases A with
  | none =>
    have : xs = [] := by
      rcases hA.2 with ⟨_, h⟩ | ⟨b, o, cs, k, t, h, _⟩
      · exact h
      · cases h
    subst this
    simp
    exact Ow.nil _ _ _ _ _
  | some a =>
    have ha : ∃ b o, a = ⟨b, o, none⟩ := by
      rcases hA.2 with ⟨h, _⟩ | ⟨b, o, cs, k, t, h, _⟩
      · cases h
      · cases h; exact ⟨b, o, rfl⟩
    have hO : Ow 2 eV 28 H.next (H.alloc (.cells [] (.row 2) 28)) (some ⟨H.next, 0, none⟩) [] := Ow.new H [] (by simp) rfl
    have fin := hO.append (bytes := 16) (c := 0) (c' := xs.length) (hA.alloc hlo (.cells [] (.row 2) 28)) (by simp) (by simp only [maxLen, List.length_nil]; omega) (by simp only [List.length_nil]; omega) (K := fun t7_3 H_4 => ∃ B, t7_3 = Value.slice B xs.length xs.length ∧ Ow 2 eV 28 H.next H_4 B xs ∧ Keep H.next H H_4) fun H' h1 h2 h3 h4 => by
      refine ⟨_, rfl, by simpa using h1, ?_⟩
      exact ((Keep.refl _ _).alloc (Nat.le_refl _) _).trans h4
    obtain ⟨b, o, rfl⟩ := ha
    by_cases hx : xs.length = 0
    · have hx' : xs = [] := List.eq_nil_of_length_eq_zero hx
      subst hx'
      simp only [List.length_nil]
      rw [aSlEq_emp]
      refine ⟨?_, ?_⟩
      · simp
        exact Ow.nil _ _ _ _ _
      · simp only [List.length_nil] at fin
        simpa using fin
    · rw [aSlEq_some _ _ hx]
      simpa using fin

/-- How many cells an object takes. -/
def Ob.cells (o : Ob) : Nat := if o.kind = 10 then 2 + o.ex.n else 1 + o.slots.length
theorem c68 {H : AHeap} {q o : Nat} {x : Ob × Option Addr} {cs : List Value} {k : Use} {t : TypeId} (hq : H.at_ q = .cells cs k t) (hc : ∀ j, j < 10 → cs[o + j]? = (encO x)[j]?) (hx : x.1.ex.n ≤ 1048576) :
    ACalls Try.prog 68 [.pointer (some ⟨q, o + 2, none⟩)] H fun r H' => r = .int .i64 ((1 + x.1.ex.n : Nat) : Int) ∧ H' = H := by
  refine ACalls.eq (S68_calls ?_) rfl
  unfold S68
  have h5 := hc 5 (by omega)
  have h6 := hc 6 (by omega)
  have h8 := hc 8 (by omega)
  have h9 := hc 9 (by omega)
  simp [encO] at h5 h6 h8 h9
  have hxn : x.1.ex.n = x.1.ex.limbs.2 + x.1.ex.marks.2 + x.1.ex.subs.2 := rfl
  have w1 := wrap64 (x := 1 + (x.1.ex.marks.2 : Int)) (by omega) (by omega)
  have w2 := wrap64 (x := 1 + (x.1.ex.marks.2 : Int) + (x.1.ex.subs.2 : Int)) (by omega) (by omega)
  have w3 := wrap64 (x := 1 + (x.1.ex.marks.2 : Int) + (x.1.ex.subs.2 : Int) + (x.1.ex.limbs.2 : Int)) (by omega) (by omega)
  have e3 : 1 + (x.1.ex.marks.2 : Int) + (x.1.ex.subs.2 : Int) + (x.1.ex.limbs.2 : Int) = ((1 + x.1.ex.n : Nat) : Int) := by rw [hxn]; omega
  rw [e3] at w3
  simp only [aNilCheck_ptr, bnd_some', aAdd_ptr, aLdCell_ptr, hq, blkCell_cells, Nat.add_assoc, Nat.reduceAdd, h5, h6, h8, h9, aLenSl_slice, aBin_add, w1, w2, e3, w3]
  refine aLoop_st 0 (fun i => [.int .i64 ((1 + x.1.ex.n : Nat) : Int), .int .i64 0]) (fun i H' => H' = H) rfl rfl ?_
  rintro i H' again hi rfl ha
  unfold S68_33
  simp
theorem c45 {H : AHeap} {q o : Nat} {x : Ob × Option Addr} {cs : List Value} {k : Use} {t : TypeId} (hq : H.at_ q = .cells cs k t) (hc : ∀ j, j < 10 → cs[o + j]? = (encO x)[j]?) (hn : x.1.slots.length ≤ 1048576) (hx : x.1.ex.n ≤ 1048576) :
    ACalls Try.prog 45 [.pointer (some ⟨q, o, none⟩)] H fun r H' => r = .int .i64 x.1.cells ∧ H' = H := by
  refine ACalls.eq (S45_calls ?_) rfl
  unfold S45
  have h0 := hc 0 (by omega)
  have h1 := hc 1 (by omega)
  simp [encO] at h0 h1
  have w1 := wrap64 (x := 1 + ((1 + x.1.ex.n : Nat) : Int)) (by omega) (by omega)
  have w2 := wrap64 (x := 1 + (x.1.slots.length : Int)) (by omega) (by omega)
  by_cases hk : x.1.kind = 10
  · simp [hq, h0, hk]
    refine (c68 hq hc hx).use ?_
    simp only [aBin_add, bnd_some', w1, Ob.cells, hk, if_true]
    exact ⟨by congr 1; omega, Keep.refl _ _⟩
  · simp [hq, h0, h1, hk, w2, Ob.cells]
end Go.Proofs.Ytngldjajfpbmbaa.A

set_option linter.unusedVariables false
set_option linter.unusedSimpArgs false
namespace Go.Proofs.Ytngldjajfpbmbaa.A
open Go Go.Abs

def total (os : List Ob) : Nat := (os.map Ob.cells).sum
structure Inv (m : Sm) : Prop where
  sum : m.used = (total m.objs : Nat)
  le : m.used ≤ m.lim
  lim : m.lim ≤ 1048576
theorem total_append (xs ys : List Ob) : total (xs ++ ys) = total xs + total ys := by simp [total]
theorem cells_pos (o : Ob) : 1 ≤ o.cells := by unfold Ob.cells; split <;> omega
theorem length_le_total : ∀ os : List Ob, os.length ≤ total os
  | [] => by simp [total]
  | o :: os => by have := length_le_total os; have := cells_pos o; simp [total] at *; omega
theorem Inv.len {m : Sm} (h : Inv m) : m.objs.length ≤ 1048576 := by
  have := length_le_total m.objs
  have := h.sum
  have := h.le
  have := h.lim
  omega
def Sm.put (m : Sm) (o : Ob) : Sm := ⟨m.lim, m.used + o.cells, m.objs ++ [o], m.names⟩

theorem StX.put {H H' : AHeap} {p : Nat} {m : Sm} {F : Nat → Prop} {A : Option Addr} {os : List (Option Addr)} {NA : Option Addr} {mb : Nat} (h : StX H p m F A os NA mb) {o : Ob} {a : Option Addr}
    (ho : Ow 2 eV 28 0 H a o.slots) (hf : ∀ x, a = some x → ¬ F x.block) (hn : H.next ≤ H'.next) (hat : ∀ b, b < H.next → b ≠ p → (∀ x, A = some x → x.block ≠ b) → H'.at_ b = H.at_ b) {N : Nat} (hN : H.next ≤ N) (hN' : N < H'.next)
    (hp : H'.at_ p = .cells [.int .i64 m.lim, .int .i64 (m.used + o.cells), .slice (some ⟨N, 0, none⟩) (m.objs.length + 1) (m.objs.length + 1), .slice NA m.names.length m.names.length, .map (some mb)] .var 88)
    (hO : Ow 10 encO 94 0 H' (some ⟨N, 0, none⟩) (m.objs.zip os ++ [(o, a)])) : St H' p (m.put o) (fun b => F b ∨ (∃ x, a = some x ∧ x.block = b) ∨ b = N) := by
  have hrow : ∀ (cs : List Value) (n : Nat) (t : TypeId) (b : Nat), H.at_ b = .cells cs (.row n) t → n ≠ 10 → b ≠ p ∧ ∀ x, A = some x → x.block ≠ b := by
    intro cs n t b hb hn10
    refine ⟨?_, ?_⟩
    · rintro rfl
      rw [h.hp] at hb
      cases hb
    · rintro x rfl e
      rcases h.objs.2 with ⟨h1, _⟩ | ⟨c, ds, h1, _, _, h2, _⟩
      · cases h1
      · cases h1
        rw [← e, h2] at hb
        cases hb
        exact hn10 rfl
  have hlen := h.len
  have hlta : ∀ x, a = some x → x.block < H.next := by
    rintro x rfl
    rcases ho.2 with ⟨h1, _⟩ | ⟨c, ds, h1, _, h3, _⟩
    · cases h1
    · cases h1; exact h3
  have hrow2 : ∀ {b : Option Addr} {xs : List V}, Ow 2 eV 28 0 H b xs → Ow 2 eV 28 0 H' b xs := by
    intro b xs hb
    refine hb.at hn ?_
    rintro x rfl
    rcases hb.2 with ⟨h1, _⟩ | ⟨c, ds, h1, _, h3, h4, _⟩
    · cases h1
    · cases h1
      have := hrow _ _ _ _ h4 (by omega)
      exact hat _ h3 this.1 this.2
  refine ⟨some ⟨N, 0, none⟩, os ++ [a], NA, mb, ?_⟩
  refine ⟨by simp [Sm.put, hlen], ?_, ?_, ?_, ?_, ?_, ?_, .inl h.fp, ?_, ?_, ?_, .inl h.fm, ?_⟩
  · simpa [Sm.put] using hp
  · have e : (m.put o).objs.zip (os ++ [a]) = m.objs.zip os ++ [(o, a)] := by simp only [Sm.put]; rw [List.zip_append hlen.symm]; rfl
    rw [e]; exact hO
  · intro i o' a' h1 h2
    simp only [Sm.put] at h1
    rw [List.getElem?_append] at h1 h2
    rw [hlen] at h2
    split at h1
    · rename_i hi
      rw [if_pos hi] at h2
      exact hrow2 (h.slots i o' a' h1 h2)
    · rename_i hi
      rw [if_neg hi] at h2
      cases hi' : i - m.objs.length with
      | zero => rw [hi'] at h1 h2; simp at h1 h2; subst h1; subst h2; exact hrow2 ho
      | succ k => rw [hi'] at h1; simp at h1
  · have key : ∀ (i : Nat) (x : Addr), (os ++ [a])[i]? = some (some x) → (i < os.length ∧ os[i]? = some (some x)) ∨ (i = os.length ∧ a = some x) := by
      intro i x hx
      rw [List.getElem?_append] at hx
      split at hx
      · rename_i hi; exact .inl ⟨hi, hx⟩
      · rename_i hi
        cases hi' : i - os.length with
        | zero => rw [hi'] at hx; simp at hx; exact .inr ⟨by omega, hx⟩
        | succ k => rw [hi'] at hx; simp at hx
    intro i j x y hx hy hxy
    rcases key i x hx with ⟨h1, h2⟩ | ⟨h1, h2⟩ <;> rcases key j y hy with ⟨h3, h4⟩ | ⟨h3, h4⟩
    · exact h.dist i j x y h2 h4 hxy
    · exact absurd (hxy ▸ h.fo i x h2) (hf y h4)
    · exact absurd (hxy.symm ▸ h.fo j y h4) (hf x h2)
    · omega
  · refine h.names.at hn ?_
    rintro x rfl
    rcases h.names.2 with ⟨h1, _⟩ | ⟨c, ds, h1, _, h3, h4, _⟩
    · cases h1
    · cases h1
      have := hrow _ _ _ _ h4 (by omega)
      exact hat _ h3 this.1 this.2
  · rw [hat mb (h.lt _ h.fm) ?_ ?_]
    · exact h.map
    · rintro rfl
      have := h.map
      rw [h.hp] at this
      cases this
    · rintro x rfl e
      rcases h.objs.2 with ⟨h1, _⟩ | ⟨c, ds, h1, _, _, h2, _⟩
      · cases h1
      · cases h1
        have := h.map
        rw [← e, h2] at this
        cases this
  · intro x hx
    cases hx
    exact .inr (.inr rfl)
  · intro i x hx
    rw [List.getElem?_append] at hx
    split at hx
    · exact .inl (h.fo i x hx)
    · rename_i hi
      cases hi' : i - os.length with
      | zero => rw [hi'] at hx; simp at hx; exact .inr (.inl ⟨x, hx, rfl⟩)
      | succ k => rw [hi'] at hx; simp at hx
  · intro x hx; exact .inl (h.fN x hx)
  · rintro b (hb | ⟨x, hx, rfl⟩ | rfl)
    · exact Nat.lt_of_lt_of_le (h.lt b hb) hn
    · exact Nat.lt_of_lt_of_le (hlta x hx) hn
    · exact hN'

theorem c41 {H : AHeap} {p : Nat} {m : Sm} {F : Nat → Prop} (h : St H p m F) (hI : Inv m) {o : Ob} {a : Option Addr} (ho : Ow 2 eV 28 0 H a o.slots) (hf : ∀ x, a = some x → ¬ F x.block) (hn : o.slots.length ≤ 1048576) (hx : o.ex.n ≤ 1048576) :
    ACalls Try.prog 41 [Pt p, .agg (encO (o, a)).toArray] H fun r H' => if m.lim - m.used < o.cells then r = .tuple #[vV (0, 0), .int .i64 16] ∧ Keep H.next H H' else
      r = .tuple #[vV (7, m.objs.length), .int .i64 0] ∧ H.next ≤ H'.next ∧ (∀ b, b < H.next → ¬ F b → H'.at_ b = H.at_ b) ∧ ∃ F', St H' p (m.put o) F' ∧ ∀ b, F' b → F b ∨ (∃ x, a = some x ∧ x.block = b) ∨ H.next ≤ b := by
  obtain ⟨A, os, NA, mb, h⟩ := h
  refine S41_calls ?_
  unfold S41
  have hsum := hI.sum
  have hle := hI.le
  have hlim := hI.lim
  have hlen := hI.len
  have hc : (o.cells : Int) ≤ 1048578 := by unfold Ob.cells; split <;> omega
  have hc1 := cells_pos o
  have hne := h.ne
  have hne1 : p ≠ H.next + 1 := by have := h.lt p h.fp; omega
  have hne2 : p ≠ H.next + 2 := by have := h.lt p h.fp; omega
  have w1 := wrap64 (x := m.lim - m.used) (by omega) (by omega)
  have w2 := wrap64 (x := m.used + o.cells) (by omega) (by omega)
  have w3 := wrap64 (x := (m.objs.length : Int)) (by omega) (by omega)
  simp [encO, at_alloc, hne, hne1, h.hp, w1]
  refine (c45 (q := H.next) (o := 0) (x := (o, a)) (k := .var) (t := 94) (cs := encO (o, a)) ?_ (fun j _ => by rw [Nat.zero_add]) hn hx).use ?_
  · simp [at_alloc, encO]
  unfold S41_49
  simp [at_alloc, hne, hne1, h.hp]
  by_cases hfull : m.lim - m.used < o.cells
  · simp [hfull, at_alloc, at_upd]
    exact (((Keep.refl _ _).alloc (Nat.le_refl _) _).alloc (by simp) _).upd (by omega) _
  · simp [hfull, at_alloc, hne, hne1, h.hp]
    refine (c45 (q := H.next) (o := 0) (x := (o, a)) (k := .var) (t := 94) (cs := encO (o, a)) ?_ (fun j _ => by rw [Nat.zero_add]) hn hx).use ?_
    · simp [at_alloc, encO]
    unfold S41_46
    have hne3 := hne.symm
    simp [at_alloc, at_upd, hne, hne1, hne2, hne3, h.hp, w2, encO]
    simp only [aNilCheck_ptr, aAdd_ptr, aLdCell_ptr, bnd_some', vcells_agg, AHeap.next_alloc]
    have hAp : ∀ x, A = some x → x.block ≠ p := by
      rintro x rfl e
      rcases h.objs.2 with ⟨h1, _⟩ | ⟨c, ds, h1, _, _, h2, _⟩
      · cases h1
      · cases h1
        have := h.hp
        rw [← e, h2] at this
        cases this
    have key : ∀ (G : AHeap) (K : Value → AHeap → Prop), G.next = H.next + 3 → (∀ b, b < H.next → b ≠ p → G.at_ b = H.at_ b) → G.at_ (H.next + 1 + 1) = .cells (encO (o, a)) (.row 10) 94 →
        (∀ G', G'.next = H.next + 4 → Ow 10 encO 94 0 G' (some ⟨H.next + 3, 0, none⟩) (m.objs.zip os ++ [(o, a)]) → (∀ b, b < H.next + 3 → (∀ x, A = some x → x.block ≠ b) → G'.at_ b = G.at_ b) → K (.slice (some ⟨H.next + 3, 0, none⟩) (m.objs.length + 1) (m.objs.length + 1)) G') →
        aAppend 10 168 94 (.slice A m.objs.length m.objs.length) (.slice (some ⟨H.next + 1 + 1, 0, none⟩) 1 1) G K := by
      intro G K hGn hG hG2 hk
      have hO : Ow 10 encO 94 0 G A (m.objs.zip os) := h.objs.at (by omega) fun x hx => hG _ (h.lt _ (h.fA x hx)) (hAp x hx)
      have hR : Rd 10 encO G.next G (some ⟨H.next + 1 + 1, 0, none⟩) [(o, a)] := Rd.mk' (by simp [encO]) (by omega) hG2 (by simp) (by simp) (by simp [encO])
      have hz := h.zlen
      have := hO.append (c := m.objs.length) (c' := 1) (bytes := 168) (K := K) hR (Nat.zero_le _) (by rw [hz]; simp only [maxLen, List.length_singleton]; omega) (by rw [hz]; simp only [List.length_singleton]; omega) fun G' h1 h2 h3 _ => by
        rw [hGn] at h1 h2 h3
        rw [hGn, List.length_append, hz, List.length_singleton]
        refine hk G' h2 h1 fun b hb hA => h3 b hb fun o s hh => hA _ hh rfl
      rwa [hz, List.length_singleton] at this
    refine key _ _ (by simp) (fun b hb hbp => ?_) ?_ fun G' hn' hO' hat' => ?_
    · have : b ≠ H.next ∧ b ≠ H.next + 1 ∧ b ≠ H.next + 2 := by omega
      simp [at_alloc, at_upd, this, hbp]
    · simp [at_alloc, encO]
    · have hpl := h.lt p h.fp
      have e1 : G'.at_ p = .cells [.int .i64 m.lim, .int .i64 (m.used + o.cells), .slice A m.objs.length m.objs.length, .slice NA m.names.length m.names.length, .map (some mb)] .var 88 := by
        rw [hat' p (by omega) hAp]
        simp [at_alloc, at_upd, hne, hne1, hne2]
      have e2 : G'.at_ (H.next + 1) = .cells [.int .i64 0, .int .i64 0] .var 28 := by
        rw [hat' _ (by omega) (fun x hx => by have := h.lt _ (h.fA x hx); omega)]
        simp [at_alloc, at_upd, hne1.symm]
      have e3 : ∀ b, b < H.next → b ≠ p → (∀ x, A = some x → x.block ≠ b) → G'.at_ b = H.at_ b := by
        intro b hb hbp hbA
        rw [hat' b (by omega) hbA]
        have : b ≠ H.next ∧ b ≠ H.next + 1 ∧ b ≠ H.next + 2 := by omega
        simp [at_alloc, at_upd, this, hbp]
      clear hat'
      simp [e1, e2, at_upd, hne1.symm, w3]
      refine ⟨by omega, by omega, fun b hb hF => ?_, ?_⟩
      · have g1 : b ≠ H.next + 1 := by omega
        have g2 : b ≠ p := by rintro rfl; exact hF h.fp
        simp [g1, g2]
        exact e3 b hb g2 fun x hx e => hF (e ▸ h.fA x hx)
      · refine ⟨_, h.put (o := o) (a := a) (N := H.next + 3) ho hf ?_ ?_ (by omega) ?_ ?_ ?_, ?_⟩
        · simp; omega
        · intro b hb hbp hbA
          have g1 : b ≠ H.next + 1 := by omega
          simp [at_upd, g1, hbp]
          exact e3 b hb hbp hbA
        · simp; omega
        · simp [at_upd, hne1]
        · refine hO'.at (by simp) ?_
          rintro x hx
          cases hx
          have g1 : H.next + 3 ≠ p := by omega
          simp [at_upd, g1]
        · rintro b (hb | hb | rfl)
          · exact .inl hb
          · exact .inr (.inl hb)
          · exact .inr (.inr (by omega))
end Go.Proofs.Ytngldjajfpbmbaa.A

set_option linter.unusedVariables false
set_option linter.unusedSimpArgs false
namespace Go.Proofs.Ytngldjajfpbmbaa.A
open Go Go.Abs

def shaped (k : Int) (n : Nat) : Bool := if k = 1 then decide ((n : Int) = 2) else if k = 3 then decide ((n : Int) = 1) else decide (1 ≤ k ∧ k ≤ 9)
theorem c38' {H : AHeap} (k : Int) (n : Nat) : ACalls Try.prog 38 [.int .i64 k, .int .i64 n] H fun r H' => r = .bool (shaped k n) ∧ H' = H := c38 k n
def mkOb (k : Int) (xs : List V) : Ob := ⟨k, xs, 0, ⟨#[]⟩, Ext.nil⟩
def Sm.make (m : Sm) (k : Int) (xs : List V) : (V × Int) × Sm :=
  if shaped k xs.length then (if xs.all m.sound then (if m.lim - m.used < (mkOb k xs).cells then (((0, 0), 16), m) else (((7, m.objs.length), 0), m.put (mkOb k xs))) else (((0, 0), 2), m)) else (((0, 0), 1), m)

theorem c15 {H : AHeap} {p : Nat} {m : Sm} {F : Nat → Prop} (h : St H p m F) (hI : Inv m) (k : Int) {lo : Nat} {B : Option Addr} {xs : List V} (hlo : lo ≤ H.next) (hB : Rd 2 eV lo H B xs) (hn : xs.length ≤ 1048576) (he : xs = [] → B = none ∨ True) :
    ACalls Try.prog 15 [Pt p, .int .i64 k, .slice B xs.length xs.length] H fun r H' => r = .tuple #[vV (m.make k xs).1.1, .int .i64 (m.make k xs).1.2] ∧ ∃ F', St H' p (m.make k xs).2 F' ∧ Fr F H F' H' := by
  refine S15_calls ?_
  have hpl := h.lt p h.fp
  have hne : p ≠ H.next ∧ p ≠ H.next + 1 := by omega
  have hk2 : ∀ x y, Keep H.next H ((H.alloc x).alloc y) := fun x y => ((Keep.refl _ _).alloc (Nat.le_refl _) _).alloc (by simp) _
  have hk3 : ∀ x y z, Keep H.next H (((H.alloc x).alloc y).upd (H.next + 1) z) := fun x y z => (hk2 x y).upd (by omega) _
  unfold S15 Sm.make
  simp [at_alloc, hne]
  refine (c38' k xs.length).use ?_
  cases hs : shaped k xs.length with
  | false =>
    simp [at_alloc, at_upd]
    exact ⟨F, h.kept (hk3 _ _ _), Fr.keep (hk3 _ _ _)⟩
  | true =>
    simp
    unfold S15_51
    obtain ⟨H2, hH2⟩ : ∃ X, X = (H.alloc (.cells [Pt p] .var 22)).alloc (.cells [.int .i64 0, .int .i64 0] .var 28) := ⟨_, rfl⟩
    simp only [vcells_pointer]
    rw [← hH2]
    have hk : Keep H.next H H2 := hH2 ▸ hk2 _ _
    have hn2 : H2.next = H.next + 2 := by rw [hH2]; simp
    have e1 : H2.at_ H.next = .cells [Pt p] .var 22 := by rw [hH2]; simp [at_alloc]
    have e2 : H2.at_ (H.next + 1) = .cells [.int .i64 0, .int .i64 0] .var 28 := by rw [hH2]; simp [at_alloc]
    clear hH2
    have h2 := h.kept hk
    have hB2 : Rd 2 eV lo H2 B xs := hB.keep fun b hb => hk.at_ b (by omega)
    refine (c39 h2 e1 (by omega) hB2 (by omega) 40 good40 fun v => c40 h2 e1 (by omega) v).use ?_
    simp
    cases hal : xs.all m.sound with
    | false =>
      simp [e2, at_upd]
      have hk4 : ∀ z, Keep H.next H (H2.upd (H.next + 1) z) := fun z => hk.upd (by omega) _
      exact ⟨F, h.kept (hk4 _), Fr.keep (hk4 _)⟩
    | true =>
      simp [e1]
      refine (c42 (by omega) hB2 (by omega) he).mono fun r H3 ⟨B', hr, hO, hk3'⟩ => ?_
      subst hr
      unfold S15_50
      have hn3 := hk3'.next
      have e3 : H3.at_ H.next = .cells [Pt p] .var 22 := by rw [hk3'.at_ _ (by omega)]; exact e1
      have e4 : H3.at_ (H.next + 1) = .cells [.int .i64 0, .int .i64 0] .var 28 := by rw [hk3'.at_ _ (by omega)]; exact e2
      have h3 := h2.kept hk3'
      have hkk : Keep H.next H H3 := hk.trans (hk3'.lower (by omega))
      simp [e3]
      have hBn : ∀ x, B' = some x → H2.next ≤ x.block ∧ x.block < H3.next := by
        rintro x rfl
        rcases hO.2 with ⟨h1, _⟩ | ⟨c, ds, h1, h2, h3, _⟩
        · cases h1
        · cases h1; exact ⟨h2, h3⟩
      have := c41 h3 hI (o := mkOb k xs) (a := B') (hO.lower (Nat.zero_le _)) (fun x hx hF => by have := hBn x hx; have := h.lt _ hF; omega) hn (by simp [mkOb, Ext.n, Ext.nil])
      refine ACalls.mono (by simpa [encO, mkOb, Ext.nil] using this) fun r H4 hr => ?_
      clear this
      have hmk : (⟨k, xs, 0, ⟨#[]⟩, ⟨false, (none, 0), none, 0, (none, 0), (none, 0)⟩⟩ : Ob) = mkOb k xs := rfl
      simp only [hmk] at hr
      by_cases hfull : m.lim - m.used < (mkOb k xs).cells
      · rw [if_pos hfull] at hr
        obtain ⟨rfl, hk4⟩ := hr
        have e5 : H4.at_ (H.next + 1) = .cells [.int .i64 0, .int .i64 0] .var 28 := by rw [hk4.at_ _ (by omega)]; exact e4
        have hk5 : ∀ z, Keep H.next H (H4.upd (H.next + 1) z) := fun z => (hkk.trans (hk4.lower (by omega))).upd (by omega) _
        simp [e5, at_upd, hfull]
        exact ⟨F, h.kept (hk5 _), Fr.keep (hk5 _)⟩
      · rw [if_neg hfull] at hr
        obtain ⟨rfl, hn4, hat, F', hS, hF'⟩ := hr
        have g : ¬ F (H.next + 1) := fun hF => by have := h.lt _ hF; omega
        have e5 : H4.at_ (H.next + 1) = .cells [.int .i64 0, .int .i64 0] .var 28 := by rw [hat _ (by omega) g]; exact e4
        simp [e5, at_upd, hfull]
        refine ⟨F', hS.frame (by simp) fun b hb => AHeap.at_upd_ne _ _ ?_, ⟨?_, fun b hb hF => ?_, fun b hb => ?_⟩⟩
        · rintro rfl
          rcases hF' _ hb with h1 | ⟨x, hx, h1⟩ | h1
          · exact g h1
          · have := hBn x hx; omega
          · omega
        · simp; omega
        · rw [AHeap.at_upd_ne _ _ (by omega), hat b (by omega) hF]; exact hkk.at_ b hb
        · rcases hF' _ hb with h1 | ⟨x, hx, h1⟩ | h1
          · exact .inl h1
          · have := hBn x hx; exact .inr (by omega)
          · exact .inr (by omega)

theorem Inv.make {m : Sm} (h : Inv m) (k : Int) (xs : List V) : Inv (m.make k xs).2 := by
  unfold Sm.make
  split
  · split
    · split
      · exact h
      · rename_i hf
        have := h.sum
        refine ⟨?_, ?_, h.lim⟩
        · simp only [Sm.put, total_append]
          rw [this]
          simp [total]
        · simp only [Sm.put]; omega
    · exact h
  · exact h

/-- A new store. -/
def Sm.new (n : Int) : Sm := ⟨n, 0, [], []⟩
theorem Inv.new {n : Int} (h : 0 ≤ n) (h' : n ≤ 1048576) : Inv (Sm.new n) := ⟨rfl, h, h'⟩
theorem c13 {H : AHeap} {n : Int} (h : 0 ≤ n) (h' : n ≤ 1048576) : ACalls Try.prog 13 [.int .i64 n] H fun r H' => ∃ p F, r = .tuple #[Pt p, .int .i64 0] ∧ St H' p (Sm.new n) F ∧ Keep H.next H H' ∧ ∀ b, F b → H.next ≤ b := by
  refine S13_calls ?_
  unfold S13
  have g1 : ¬ n < 0 := by omega
  have g2 : ¬ 1048576 < n := by omega
  simp [g1, g2]
  unfold S13_16
  simp
  refine ⟨fun b => H.next ≤ b ∧ b < H.next + 2, ⟨none, [], none, H.next, ?_⟩, ?_, fun b hb => hb.1⟩
  · refine ⟨rfl, ?_, Ow.nil _ _ _ _ _, fun i o a ho => (by simp [Sm.new] at ho), fun i j a b hi => (by simp at hi), Ow.nil _ _ _ _ _, ?_, ?_, fun a ha => (by cases ha), fun i a ha => (by simp at ha), fun a ha => (by cases ha), ?_, fun b hb => by simp; omega⟩
    · simp [at_alloc, Sm.new]
    · simp [at_alloc, Sm.new, entries]
    · omega
    · omega
  · exact ((Keep.refl _ _).alloc (Nat.le_refl _) _).alloc (by simp) _
theorem c13bad {H : AHeap} {n : Int} (h : ¬ (0 ≤ n ∧ n ≤ 1048576)) : ACalls Try.prog 13 [.int .i64 n] H fun r H' => r = .tuple #[.pointer none, .int .i64 1] ∧ H' = H := by
  refine ACalls.eq' (S13_calls ?_) (vin_two (.plain rfl) (.plain rfl))
  unfold S13
  by_cases g1 : n < 0
  · simp [g1]
  · have g2 : 1048576 < n := by omega
    simp [g1, g2]

/-- Set. -/
def Sm.set (m : Sm) (v : V) (i : Int) (x : V) : Int × Sm :=
  if okRef m v then (if 0 ≤ i ∧ i < (m.ob v).slots.length then (if m.sound x then (0, ⟨m.lim, m.used, m.objs.set v.2.toNat ⟨(m.ob v).kind, (m.ob v).slots.set i.toNat x, (m.ob v).sk, (m.ob v).text, (m.ob v).ex⟩, m.names⟩) else (2, m)) else (12, m)) else (10, m)
theorem c14 {H : AHeap} : ACalls Try.prog 14 [] H fun r H' => r = .bool true ∧ H' = H := by
  refine ACalls.eq (S14_calls ?_) rfl
  unfold S14
  refine (c13 (by omega) (by omega)).mono fun r H1 ⟨p, F, hr, hS, hk, hF⟩ => ?_
  subst hr
  unfold S14_78
  simp
  unfold S14_77
  simp
  have hI : Inv (Sm.new 5) := Inv.new (by omega) (by omega)
  have hS' := hS.alloc (.cells [.int .i64 4, .int .i64 3] (.row 2) 28)
  have hR : Rd 2 eV (H1.next + 1) (H1.alloc (.cells [.int .i64 4, .int .i64 3] (.row 2) 28)) (some ⟨H1.next, 0, none⟩) [(4, 3)] := Rd.mk' (by simp) (by omega) (AHeap.at_alloc_new _ _) (by simp) (by simp) (by simp)
  refine (c15 hS' hI 3 (by simp) hR (by simp) (by simp)).mono fun r H2 ⟨hr, F2, hS2, hF2⟩ => ?_
  have em : (Sm.new 5).make 3 [(4, 3)] = (((7, 0), 0), (Sm.new 5).put (mkOb 3 [(4, 3)])) := rfl
  rw [em] at hr hS2
  subst hr
  have hn2 := hF2.next
  simp at hn2
  have hkk : Keep H.next H H2 := ⟨by have := hk.next; omega, fun b hb => by
    have := hk.next
    rw [hF2.at_ b (by simp; omega) (fun hb' => by have := hF b hb'; omega), AHeap.at_alloc_ne _ _ (by omega)]
    exact hk.at_ b hb⟩
  simp [at_alloc, at_upd]
  have hk3 : ∀ x z, Keep H2.next H2 ((H2.alloc x).upd H2.next z) := fun x z => ((Keep.refl _ _).alloc (Nat.le_refl _) _).upd (Nat.le_refl _) _
  refine (c18 (hS2.kept (hk3 _ _)) (7, 0) 0).use ?_
  unfold S14_76
  have eg : ((Sm.new 5).put (mkOb 3 [(4, 3)])).get (7, 0) 0 = ((4, 3), 0) := rfl
  simp [eg, at_alloc, at_upd]
  have hk5 : ∀ x z y w, Keep H2.next H2 ((((H2.alloc x).upd H2.next z).alloc y).upd (H2.next + 1) w) := fun x z y w => ((hk3 x z).alloc (by simp) _).upd (by omega) _
  refine (c17 (hS2.kept (hk5 _ _ _ _))).use ?_
  have eu : ((Sm.new 5).put (mkOb 3 [(4, 3)])).used = 2 := rfl
  simp [eu]
  exact hkk.trans ((hk5 _ _ _ _).lower (by have := hkk.next; omega))
end Go.Proofs.Ytngldjajfpbmbaa.A
