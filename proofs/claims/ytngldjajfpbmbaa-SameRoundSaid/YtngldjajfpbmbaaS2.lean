/- Contracts of functions that the statement reaches; each theorem carries its own conditions, the last theorem of the claim has none. -/
import Derived.Test.YtngldjajfpbmbaaS1
set_option linter.unusedVariables false
set_option linter.unusedSimpArgs false
namespace Go.Proofs.Ytngldjajfpbmbaa.A
open Go Go.Abs

theorem ACalls.eq' {f : FuncId} {args : List Value} {H : AHeap} {r : Value} (h : ACalls Try.prog f args H fun v H' => v = r ∧ Keep H.next H H') (hp : VIn (fun c => c < H.next) r) : ACalls Try.prog f args H fun v H' => v = r ∧ H' = H :=
  ACalls.pure (L := fun v => v = r) h fun v hv => by subst hv; exact hp
theorem vin_two {K : Nat → Prop} {a b : Value} (ha : VIn K a) (hb : VIn K b) : VIn K (.tuple #[a, b]) := by
  refine .tuple fun i u h => ?_
  match i, h with
  | 0, h => simp at h; subst h; exact ha
  | 1, h => simp at h; subst h; exact hb
  | i + 2, h => simp at h
theorem vin_agg2 {K : Nat → Prop} {a b : Value} (ha : VIn K a) (hb : VIn K b) : VIn K (.agg #[a, b]) := by
  refine .agg fun i u h => ?_
  match i, h with
  | 0, h => simp at h; subst h; exact ha
  | 1, h => simp at h; subst h; exact hb
  | i + 2, h => simp at h

section
variable (a : Addr) (x : Option Addr) (n c : Nat)
@[simp] theorem eqPtr : aBin .eql .ptr (.pointer (some a)) (.pointer none) = some (.bool false) := nr rfl
@[simp] theorem nePtr : aBin .neq .ptr (.pointer (some a)) (.pointer none) = some (.bool true) := nr rfl
@[simp] theorem eqNil : aBin .eql .ptr (.pointer none) (.pointer none) = some (.bool true) := nr rfl
@[simp] theorem neNil : aBin .neq .ptr (.pointer none) (.pointer none) = some (.bool false) := nr rfl
@[simp] theorem eqSNil : aBin .eql .slice (.slice none n c) (.slice none 0 0) = some (.bool true) := nr rfl
theorem eqSl (h : n ≠ 0) : aBin .eql .slice (.slice (some a) n c) (.slice none 0 0) = some (.bool false) := by simp [aBin, aEqK, h]
end

/-! The store in memory. -/
abbrev V := Int × Int
abbrev eV (x : V) : List Value := [.int .i64 x.1, .int .i64 x.2]
abbrev vV (x : V) : Value := .agg #[.int .i64 x.1, .int .i64 x.2]
abbrev eS (x : ByteArray) : List Value := [.string x]
abbrev Pt (p : Nat) : Value := .pointer (some ⟨p, 0, none⟩)
structure Ob where
  kind : Int
  slots : List V
  sk : Int
  text : ByteArray
structure Sm where
  lim : Int
  used : Int
  objs : List Ob
  names : List ByteArray
def encO (x : Ob × Option Addr) : List Value :=
  [.int .i64 x.1.kind, .slice x.2 x.1.slots.length x.1.slots.length, .int .i64 x.1.sk, .string x.1.text, .bool false, .slice none 0 0, .slice none 0 0, .int .i64 0, .slice none 0 0, .slice none 0 0]
def entries (names : List ByteArray) : List (Value × Value) := names.zipIdx.map fun x => (.string x.1, .int .i64 x.2)
/-- Which store lies at p, in which blocks. -/
structure StX (H : AHeap) (p : Nat) (m : Sm) (F : Nat → Prop) (A : Option Addr) (os : List (Option Addr)) (NA : Option Addr) (mb : Nat) : Prop where
  len : os.length = m.objs.length
  hp : H.at_ p = .cells [.int .i64 m.lim, .int .i64 m.used, .slice A m.objs.length m.objs.length, .slice NA m.names.length m.names.length, .map (some mb)] .var 88
  objs : Ow 10 encO 94 0 H A (m.objs.zip os)
  slots : ∀ (i : Nat) (o : Ob) (a : Option Addr), m.objs[i]? = some o → os[i]? = some a → Ow 2 eV 28 0 H a o.slots
  dist : ∀ (i j : Nat) (a b : Addr), os[i]? = some (some a) → os[j]? = some (some b) → a.block = b.block → i = j
  names : Ow 1 eS 9 0 H NA m.names
  map : H.at_ mb = .map (entries m.names)
  fp : F p
  fA : ∀ a, A = some a → F a.block
  fo : ∀ (i : Nat) (a : Addr), os[i]? = some (some a) → F a.block
  fN : ∀ a, NA = some a → F a.block
  fm : F mb
  lt : ∀ b, F b → b < H.next
def St (H : AHeap) (p : Nat) (m : Sm) (F : Nat → Prop) : Prop := ∃ A os NA mb, StX H p m F A os NA mb

theorem _root_.Go.Abs.Ow.at {α : Type} {n : Nat} {enc : α → List Value} {e : TypeId} {lo : Nat} {H H' : AHeap} {A : Option Addr} {xs : List α} (h : Ow n enc e lo H A xs) (hn : H.next ≤ H'.next) (hk : ∀ a, A = some a → H'.at_ a.block = H.at_ a.block) : Ow n enc e lo H' A xs := by
  refine ⟨h.1, h.2.imp id ?_⟩
  rintro ⟨b, cs, h1, h2, h3, h4, h5⟩
  exact ⟨b, cs, h1, h2, by omega, (hk _ h1).trans h4, h5⟩
theorem StX.frame {H H' : AHeap} {p : Nat} {m : Sm} {F : Nat → Prop} {A : Option Addr} {os : List (Option Addr)} {NA : Option Addr} {mb : Nat} (h : StX H p m F A os NA mb)
    (hn : H.next ≤ H'.next) (hk : ∀ b, F b → H'.at_ b = H.at_ b) : StX H' p m F A os NA mb where
  len := h.len
  hp := (hk _ h.fp).trans h.hp
  objs := h.objs.at hn fun a ha => hk _ (h.fA a ha)
  slots i o a ho ha := (h.slots i o a ho ha).at hn fun b hb => hk _ (h.fo i b (by rw [ha, hb]))
  dist := h.dist
  names := h.names.at hn fun a ha => hk _ (h.fN a ha)
  map := (hk _ h.fm).trans h.map
  fp := h.fp
  fA := h.fA
  fo := h.fo
  fN := h.fN
  fm := h.fm
  lt b hb := Nat.lt_of_lt_of_le (h.lt b hb) hn
theorem St.frame {H H' : AHeap} {p : Nat} {m : Sm} {F : Nat → Prop} (h : St H p m F) (hn : H.next ≤ H'.next) (hk : ∀ b, F b → H'.at_ b = H.at_ b) : St H' p m F := by
  obtain ⟨A, os, NA, mb, h⟩ := h
  exact ⟨A, os, NA, mb, h.frame hn hk⟩
theorem St.kept {H H' : AHeap} {p : Nat} {m : Sm} {F : Nat → Prop} (h : St H p m F) (hk : Keep H.next H H') : St H' p m F := by
  obtain ⟨A, os, NA, mb, hx⟩ := h
  exact ⟨A, os, NA, mb, hx.frame hk.next fun b hb => hk.at_ b (hx.lt b hb)⟩
theorem St.alloc {H : AHeap} {p : Nat} {m : Sm} {F : Nat → Prop} (h : St H p m F) (x : Blk) : St (H.alloc x) p m F := h.kept ((Keep.refl _ _).alloc (Nat.le_refl _) x)
theorem St.lt {H : AHeap} {p : Nat} {m : Sm} {F : Nat → Prop} (h : St H p m F) : ∀ b, F b → b < H.next := by
  obtain ⟨A, os, NA, mb, hx⟩ := h
  exact hx.lt
theorem St.fp {H : AHeap} {p : Nat} {m : Sm} {F : Nat → Prop} (h : St H p m F) : F p := by
  obtain ⟨A, os, NA, mb, hx⟩ := h
  exact hx.fp
/-- Only blocks of the store are changed; the store's blocks behind it are some of those, or new. -/
structure Fr (F : Nat → Prop) (H : AHeap) (F' : Nat → Prop) (H' : AHeap) : Prop where
  next : H.next ≤ H'.next
  at_ : ∀ b, b < H.next → ¬ F b → H'.at_ b = H.at_ b
  new : ∀ b, F' b → F b ∨ H.next ≤ b
theorem Fr.refl (F : Nat → Prop) (H : AHeap) : Fr F H F H := ⟨Nat.le_refl _, fun _ _ _ => rfl, fun _ h => .inl h⟩
theorem Fr.trans {F F' F'' : Nat → Prop} {H H' H'' : AHeap} (h : Fr F H F' H') (k : Fr F' H' F'' H'') : Fr F H F'' H'' where
  next := Nat.le_trans h.next k.next
  at_ b hb hf := (k.at_ b (Nat.lt_of_lt_of_le hb h.next) fun hf' => by
    rcases h.new b hf' with h1 | h1
    · exact hf h1
    · omega).trans (h.at_ b hb hf)
  new b hb := by
    rcases k.new b hb with h1 | h1
    · exact h.new b h1
    · exact .inr (Nat.le_trans h.next h1)
theorem Fr.keep {F : Nat → Prop} {H H' : AHeap} (hk : Keep H.next H H') : Fr F H F H' := ⟨hk.next, fun b hb _ => hk.at_ b hb, fun _ h => .inl h⟩

section
variable {H : AHeap} {p : Nat} {m : Sm} {F : Nat → Prop} {A : Option Addr} {os : List (Option Addr)} {NA : Option Addr} {mb : Nat}
theorem StX.ne (h : StX H p m F A os NA mb) : p ≠ H.next := Nat.ne_of_lt (h.lt _ h.fp)
theorem StX.zlen (h : StX H p m F A os NA mb) : (m.objs.zip os).length = m.objs.length := by rw [List.length_zip, h.len, Nat.min_self]
theorem StX.vinA (h : StX H p m F A os NA mb) (i : Nat) : VIn (fun c => c < H.next) (slot 10 A i) := by
  rcases h.objs.2 with ⟨rfl, _⟩ | ⟨b, cs, rfl, _, hb, _⟩
  · exact .plain rfl
  · exact .ptr hb
theorem StX.idx (h : StX H p m F A os NA mb) {k : IntKind} {j : Int} {c : Nat} (h0 : 0 ≤ j) (hj : j < m.objs.length) : aIdxAddr 10 (.slice A m.objs.length c) (.int k j) = some (slot 10 A j.toNat) := by
  have := h.objs.rd.idx (k := k) (c := c) h0 (by rw [h.zlen]; exact hj)
  rwa [h.zlen] at this
theorem zip_at {α β : Type} {xs : List α} {ys : List β} {i : Nat} {a : α} {b : β} (ha : xs[i]? = some a) (hb : ys[i]? = some b) : (xs.zip ys)[i]? = some (a, b) := by
  simp [List.zip, List.getElem?_zipWith, ha, hb]
/-- A part of an object. -/
theorem StX.part (h : StX H p m F A os NA mb) {i : Nat} {o : Ob} {a : Option Addr} (ho : m.objs[i]? = some o) (ha : os[i]? = some a) : ∃ b, A = some ⟨b, 0, none⟩ ∧ b < H.next ∧ ∃ cs, H.at_ b = .cells cs (.row 10) 94 ∧ i * 10 + 10 ≤ cs.length ∧ (cs.drop (i * 10)).take 10 = encO (o, a) := by
  have hz := zip_at ho ha
  have hlt : i < (m.objs.zip os).length := (List.getElem?_eq_some_iff.1 hz).1
  rcases h.objs.2 with ⟨_, h2⟩ | ⟨b, cs, h1, h2, h3, h4, h5, h6⟩
  · rw [h2] at hlt; simp at hlt
  · refine ⟨b, h1, h3, cs, h4, ?_, ?_⟩
    · have : (i + 1) * 10 ≤ (m.objs.zip os).length * 10 := Nat.mul_le_mul_right _ hlt
      omega
    · have h7 := flatMap_at (f := encO) (n := 10) (fun x _ => rfl) hz
      rw [← h6, List.drop_take, List.take_take] at h7
      rw [← h7]
      congr 1
      have : (i + 1) * 10 ≤ (m.objs.zip os).length * 10 := Nat.mul_le_mul_right _ hlt
      omega
end

def okRef (m : Sm) (v : V) : Bool := decide (v.1 = 7) && (decide (0 ≤ v.2) && decide (v.2 < m.objs.length))
theorem c62 {H : AHeap} {p : Nat} {m : Sm} {F : Nat → Prop} {A : Option Addr} {os : List (Option Addr)} {NA : Option Addr} {mb : Nat} (h : StX H p m F A os NA mb) (v : V) :
    ACalls Try.prog 62 [Pt p, vV v] H fun r H' => r = (if okRef m v then slot 10 A v.2.toNat else .pointer none) ∧ H' = H := by
  refine ACalls.eq' (S62_calls ?_) ?_
  · unfold S62 okRef
    have hne := h.ne
    have e : ∀ x, (H.alloc x).at_ p = H.at_ p := fun x => AHeap.at_alloc_ne _ _ hne
    have hk : ∀ x, Keep H.next H (H.alloc x) := fun x => (Keep.refl _ _).alloc (Nat.le_refl _) _
    by_cases h1 : v.1 = 7
    · by_cases h2 : v.2 < 0
      · have h2' : ¬ 0 ≤ v.2 := by omega
        simp [h1, h2, h2', hk]
      · have h2' : 0 ≤ v.2 := by omega
        by_cases h3 : v.2 < m.objs.length
        · have h3' : ¬ (m.objs.length : Int) ≤ v.2 := by omega
          have hi := h.idx (k := .i64) (c := m.objs.length) h2' h3
          simp [h1, h2, h2', h3, h3', e, h.hp, hi, hk]
        · have h3' : (m.objs.length : Int) ≤ v.2 := by omega
          simp [h1, h2, h2', h3, h3', e, h.hp, hk]
    · simp [h1, hk]
  · split
    · exact h.vinA _
    · exact .plain rfl
end Go.Proofs.Ytngldjajfpbmbaa.A
