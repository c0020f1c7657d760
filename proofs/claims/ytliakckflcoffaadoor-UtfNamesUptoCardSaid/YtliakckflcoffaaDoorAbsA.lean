/- The abstract heap and how it stands to the model's world: values are related by a map of block numbers. -/
import Derived.WalkKit
import Derived.WalkSpells
import Derived.Maps.AppendAt
import Derived.Laws.CopyRow
namespace Go.Abs
open Go

/-- Where an abstract block lies: the concrete block, the first cell, the concrete block's size, the cells of an element (0: not told). -/
structure Place where
  blk : Nat
  off : Nat
  lim : Nat
  esz : Nat

/-- 'some none': a block of which only slices without room are known. -/
abbrev Phi := Nat → Option (Option Place)

/-- A value that says nothing. -/
def poison : Value := .chan (some 0)

/-- One cell, and told. -/
def okCell : Value → Bool
  | .agg _ | .tuple _ | .chan _ => false
  | _ => true

/-- No address in it. -/
def plainCell : Value → Bool
  | .bool _ | .int .. | .float .. | .complex .. | .string _ | .pointer none | .slice none 0 0 | .map none | .nilFunc | .nilIface => true
  | _ => false

inductive VRel (φ : Phi) : Value → Value → Prop
  | plain {v : Value} (h : plainCell v = true) : VRel φ v v
  | top {v : Value} : VRel φ poison v
  | ptr {b o : Nat} {p : Place} (h : φ b = some (some p)) : VRel φ (.pointer (some ⟨b, o, none⟩)) (.pointer (some ⟨p.blk, p.off + o, none⟩))
  | slice {b o n c : Nat} {p : Place} (h : φ b = some (some p)) (hn : n ≤ c) (hm : c ≤ maxLen) (hl : p.esz = 0 ∨ 0 < o ∨ p.off + c * p.esz = p.lim) :
      VRel φ (.slice (some ⟨b, o, none⟩) n n) (.slice (some ⟨p.blk, p.off + o, none⟩) n c)
  | empty {b o : Nat} {A : Option Addr} {p : Option Place} (h : φ b = some p) (hA : A = none ∨ 0 < o) : VRel φ (.slice (some ⟨b, o, none⟩) 0 0) (.slice A 0 0)
  | map {b : Nat} {p : Place} (h : φ b = some (some p)) : VRel φ (.map (some b)) (.map (some p.blk))
  | func {f : FuncId} {a b c d : Array Value} (h1 : a.size = b.size) (h2 : c.size = d.size) (h3 : ∀ (i : Nat) u v, a[i]? = some u → b[i]? = some v → VRel φ u v)
      (h4 : ∀ (i : Nat) u v, c[i]? = some u → d[i]? = some v → VRel φ u v) : VRel φ (.func (.func f) a c) (.func (.func f) b d)
  | iface {t : TypeId} {u v : Value} (h : VRel φ u v) : VRel φ (.iface t u) (.iface t v)
  | agg {a b : Array Value} (h : a.size = b.size) (hi : ∀ (i : Nat) u v, a[i]? = some u → b[i]? = some v → VRel φ u v) : VRel φ (.agg a) (.agg b)
  | tuple {a b : Array Value} (h : a.size = b.size) (hi : ∀ (i : Nat) u v, a[i]? = some u → b[i]? = some v → VRel φ u v) : VRel φ (.tuple a) (.tuple b)

/-- Lists of values, one by one. -/
def VRels (φ : Phi) (a b : List Value) : Prop := a.length = b.length ∧ ∀ (i : Nat) u v, a[i]? = some u → b[i]? = some v → VRel φ u v

theorem VRels.nil (φ : Phi) : VRels φ [] [] := ⟨rfl, fun i u v h => by simp at h⟩
theorem VRels.cons {φ : Phi} {u v : Value} {a b : List Value} (h : VRel φ u v) (k : VRels φ a b) : VRels φ (u :: a) (v :: b) := by
  refine ⟨by simp [k.1], fun i x y hx hy => ?_⟩
  cases i with
  | zero => simp at hx hy; subst hx; subst hy; exact h
  | succ i => simp at hx hy; exact k.2 i x y hx hy
theorem VRels.append {φ : Phi} {a b c d : List Value} (h : VRels φ a b) (k : VRels φ c d) : VRels φ (a ++ c) (b ++ d) := by
  refine ⟨by simp [h.1, k.1], fun i x y hx hy => ?_⟩
  rw [List.getElem?_append] at hx hy
  rw [h.1] at hx
  split at hx
  · rename_i hi; rw [if_pos hi] at hy; exact h.2 i x y hx hy
  · rename_i hi; rw [if_neg hi] at hy; exact k.2 _ x y hx hy
theorem VRels.get {φ : Phi} {a b : List Value} (h : VRels φ a b) {i : Nat} {u : Value} (hu : a[i]? = some u) : ∃ v, b[i]? = some v ∧ VRel φ u v := by
  have hi : i < b.length := by rw [← h.1]; exact (List.getElem?_eq_some_iff.1 hu).1
  exact ⟨b[i], List.getElem?_eq_getElem hi, h.2 i u _ hu (List.getElem?_eq_getElem hi)⟩
theorem VRels.take {φ : Phi} {a b : List Value} (h : VRels φ a b) (n : Nat) : VRels φ (a.take n) (b.take n) := by
  refine ⟨by simp [h.1], fun i x y hx hy => ?_⟩
  rw [List.getElem?_take] at hx hy
  split at hx
  · rename_i hi; rw [if_pos hi] at hy; exact h.2 i x y hx hy
  · cases hx
theorem VRels.drop {φ : Phi} {a b : List Value} (h : VRels φ a b) (n : Nat) : VRels φ (a.drop n) (b.drop n) := by
  refine ⟨by simp [h.1], fun i x y hx hy => ?_⟩
  rw [List.getElem?_drop] at hx hy
  exact h.2 _ x y hx hy
theorem VRels.set {φ : Phi} {a b : List Value} (h : VRels φ a b) (n : Nat) {u v : Value} (hv : VRel φ u v) : VRels φ (a.set n u) (b.set n v) := by
  refine ⟨by simp [h.1], fun i x y hx hy => ?_⟩
  rw [List.getElem?_set] at hx hy
  split at hx
  · rename_i hi
    subst hi
    rw [if_pos rfl] at hy
    split at hx
    · rename_i h1; rw [if_pos (by rw [← h.1]; exact h1)] at hy; cases hx; cases hy; exact hv
    · cases hx
  · rename_i hi; rw [if_neg hi] at hy; exact h.2 i x y hx hy
theorem VRels.replicate {φ : Phi} {u v : Value} (h : VRel φ u v) (n : Nat) : VRels φ (List.replicate n u) (List.replicate n v) := by
  refine ⟨by simp, fun i x y hx hy => ?_⟩
  rw [List.getElem?_replicate] at hx hy
  split at hx
  · rename_i hi; rw [if_pos hi] at hy; cases hx; cases hy; exact h
  · cases hx

theorem agg_of {φ : Phi} {a b : List Value} (h : VRels φ a b) : VRel φ (.agg a.toArray) (.agg b.toArray) :=
  .agg (by simp [h.1]) fun i u v hu hv => h.2 i u v (by simpa using hu) (by simpa using hv)
theorem tuple_of {φ : Phi} {a b : List Value} (h : VRels φ a b) : VRel φ (.tuple a.toArray) (.tuple b.toArray) :=
  .tuple (by simp [h.1]) fun i u v hu hv => h.2 i u v (by simpa using hu) (by simpa using hv)

/-! What a value's form says of the other one. -/
section
variable {φ : Phi}
theorem VRel.bool {x : Bool} {v : Value} (h : VRel φ (.bool x) v) : v = .bool x := by cases h; rfl
theorem VRel.int {k : IntKind} {n : Int} {v : Value} (h : VRel φ (.int k n) v) : v = .int k n := by cases h; rfl
theorem VRel.string {s : ByteArray} {v : Value} (h : VRel φ (.string s) v) : v = .string s := by cases h; rfl
theorem VRel.ptrNil {v : Value} (h : VRel φ (.pointer none) v) : v = .pointer none := by cases h; rfl
theorem VRel.sliceNil {v : Value} (h : VRel φ (.slice none 0 0) v) : v = .slice none 0 0 := by cases h; rfl
theorem VRel.nilIface {v : Value} (h : VRel φ .nilIface v) : v = .nilIface := by cases h; rfl
theorem VRel.nilFunc {v : Value} (h : VRel φ .nilFunc v) : v = .nilFunc := by cases h; rfl
theorem VRel.ptrInv {b o : Nat} {s : Option Nat} {v : Value} (h : VRel φ (.pointer (some ⟨b, o, s⟩)) v) : s = none ∧ ∃ p, φ b = some (some p) ∧ v = .pointer (some ⟨p.blk, p.off + o, none⟩) := by
  cases h with
  | plain h => simp [plainCell] at h
  | ptr h => exact ⟨rfl, _, h, rfl⟩
theorem VRel.mapInv {b : Nat} {v : Value} (h : VRel φ (.map (some b)) v) : ∃ p, φ b = some (some p) ∧ v = .map (some p.blk) := by
  cases h with
  | plain h => simp [plainCell] at h
  | map h => exact ⟨_, h, rfl⟩
theorem VRel.sliceInv {b o n m : Nat} {s : Option Nat} {v : Value} (h : VRel φ (.slice (some ⟨b, o, s⟩) n m) v) :
    s = none ∧ m = n ∧ ((∃ p c, φ b = some (some p) ∧ n ≤ c ∧ c ≤ maxLen ∧ (p.esz = 0 ∨ 0 < o ∨ p.off + c * p.esz = p.lim) ∧ v = .slice (some ⟨p.blk, p.off + o, none⟩) n c) ∨ (n = 0 ∧ (φ b).isSome = true ∧ ∃ A, (A = none ∨ 0 < o) ∧ v = .slice A 0 0)) := by
  cases h with
  | plain h => simp [plainCell] at h
  | slice h hn hm hl => exact ⟨rfl, rfl, .inl ⟨_, _, h, hn, hm, hl, rfl⟩⟩
  | empty h hA => exact ⟨rfl, rfl, .inr ⟨rfl, by simp [h], _, hA, rfl⟩⟩
theorem VRel.ifaceInv {t : TypeId} {u v : Value} (h : VRel φ (.iface t u) v) : ∃ x, v = .iface t x ∧ VRel φ u x := by
  cases h with
  | plain h => simp [plainCell] at h
  | iface h => exact ⟨_, rfl, h⟩
theorem VRel.aggInv {a : Array Value} {v : Value} (h : VRel φ (.agg a) v) : ∃ b, v = .agg b ∧ VRels φ a.toList b.toList := by
  cases h with
  | plain h => simp [plainCell] at h
  | agg h hi => exact ⟨_, rfl, by simpa using h, fun i u v hu hv => hi i u v (by simpa using hu) (by simpa using hv)⟩
theorem VRel.tupleInv {a : Array Value} {v : Value} (h : VRel φ (.tuple a) v) : ∃ b, v = .tuple b ∧ VRels φ a.toList b.toList := by
  cases h with
  | plain h => simp [plainCell] at h
  | tuple h hi => exact ⟨_, rfl, by simpa using h, fun i u v hu hv => hi i u v (by simpa using hu) (by simpa using hv)⟩
theorem VRel.funcInv {f : FuncId} {a c : Array Value} {v : Value} (h : VRel φ (.func (.func f) a c) v) : ∃ b d, v = .func (.func f) b d ∧ VRels φ a.toList b.toList ∧ VRels φ c.toList d.toList := by
  cases h with
  | plain h => simp [plainCell] at h
  | func h1 h2 h3 h4 => exact ⟨_, _, rfl, ⟨by simpa using h1, fun i u v hu hv => h3 i u v (by simpa using hu) (by simpa using hv)⟩, ⟨by simpa using h2, fun i u v hu hv => h4 i u v (by simpa using hu) (by simpa using hv)⟩⟩
theorem VRel.undef (φ : Phi) : VRel φ undef undef := .tuple rfl fun i u v h => by simp at h
theorem VRel.okCell {u v : Value} (h : VRel φ u v) (hu : Abs.okCell u = true) : v.oneCell' = true := by
  cases h <;> first | rfl | (simp [Abs.okCell, poison] at hu; done) | skip
  rename_i h
  cases u <;> first | rfl | (simp [Abs.okCell] at hu; done)
end

/-- A map that says as much, and perhaps more. -/
def Phi.le (φ ψ : Phi) : Prop := ∀ b p, φ b = some p → ψ b = some p
theorem Phi.le.refl (φ : Phi) : φ.le φ := fun _ _ h => h
theorem Phi.le.trans {φ ψ χ : Phi} (h : φ.le ψ) (k : ψ.le χ) : φ.le χ := fun b p hb => k b p (h b p hb)
theorem VRel.mono {φ ψ : Phi} (hle : φ.le ψ) {u v : Value} (h : VRel φ u v) : VRel ψ u v := by
  induction h with
  | plain h => exact .plain h
  | top => exact .top
  | ptr h => exact .ptr (hle _ _ h)
  | slice h hn hm hl => exact .slice (hle _ _ h) hn hm hl
  | empty h hA => exact .empty (hle _ _ h) hA
  | map h => exact .map (hle _ _ h)
  | func h1 h2 _ _ h3 h4 => exact .func h1 h2 h3 h4
  | iface _ h => exact .iface h
  | agg h _ hi => exact .agg h hi
  | tuple h _ hi => exact .tuple h hi
theorem VRels.mono {φ ψ : Phi} (hle : φ.le ψ) {a b : List Value} (h : VRels φ a b) : VRels ψ a b := ⟨h.1, fun i u v hu hv => (h.2 i u v hu hv).mono hle⟩

/-- Which blocks a value names. -/
inductive VIn (K : Nat → Prop) : Value → Prop
  | plain {v : Value} (h : plainCell v = true) : VIn K v
  | poison : VIn K poison
  | ptr {b o : Nat} (h : K b) : VIn K (.pointer (some ⟨b, o, none⟩))
  | slice {b o n m : Nat} (h : K b) : VIn K (.slice (some ⟨b, o, none⟩) n m)
  | map {b : Nat} (h : K b) : VIn K (.map (some b))
  | func {f : FuncId} {a c : Array Value} (h3 : ∀ (i : Nat) u, a[i]? = some u → VIn K u) (h4 : ∀ (i : Nat) u, c[i]? = some u → VIn K u) : VIn K (.func (.func f) a c)
  | iface {t : TypeId} {u : Value} (h : VIn K u) : VIn K (.iface t u)
  | agg {a : Array Value} (hi : ∀ (i : Nat) u, a[i]? = some u → VIn K u) : VIn K (.agg a)
  | tuple {a : Array Value} (hi : ∀ (i : Nat) u, a[i]? = some u → VIn K u) : VIn K (.tuple a)

theorem VIn.mono {K L : Nat → Prop} (hKL : ∀ b, K b → L b) {v : Value} (h : VIn K v) : VIn L v := by
  induction h with
  | plain h => exact .plain h
  | poison => exact .poison
  | ptr h => exact .ptr (hKL _ h)
  | slice h => exact .slice (hKL _ h)
  | map h => exact .map (hKL _ h)
  | func _ _ h3 h4 => exact .func h3 h4
  | iface _ h => exact .iface h
  | agg _ hi => exact .agg hi
  | tuple _ hi => exact .tuple hi

theorem VRel.vin {φ : Phi} {u v : Value} (h : VRel φ u v) : VIn (fun b => (φ b).isSome = true) u := by
  induction h with
  | plain h => exact .plain h
  | top => exact .poison
  | ptr h => exact .ptr (by simp [h])
  | slice h => exact .slice (by simp [h])
  | empty h => exact .slice (by simp [h])
  | map h => exact .map (by simp [h])
  | @func f a b c d h1 h2 _ _ h3 h4 =>
    refine .func (fun i u hu => ?_) (fun i u hu => ?_)
    · have hi : i < b.size := by rw [← h1]; exact (Array.getElem?_eq_some_iff.1 hu).1
      exact h3 i u _ hu (Array.getElem?_eq_getElem hi)
    · have hi : i < d.size := by rw [← h2]; exact (Array.getElem?_eq_some_iff.1 hu).1
      exact h4 i u _ hu (Array.getElem?_eq_getElem hi)
  | iface _ h => exact .iface h
  | @agg a b h _ hi =>
    refine .agg fun i u hu => ?_
    have hl : i < b.size := by rw [← h]; exact (Array.getElem?_eq_some_iff.1 hu).1
    exact hi i u _ hu (Array.getElem?_eq_getElem hl)
  | @tuple a b h _ hi =>
    refine .tuple fun i u hu => ?_
    have hl : i < b.size := by rw [← h]; exact (Array.getElem?_eq_some_iff.1 hu).1
    exact hi i u _ hu (Array.getElem?_eq_getElem hl)

/-- A map cut down to what is kept. -/
theorem VRel.cut {φ ψ : Phi} {K : Nat → Prop} (hK : ∀ b, K b → ψ b = φ b) {u v : Value} (h : VRel φ u v) : VIn K u → VRel ψ u v := by
  induction h with
  | plain h => exact fun _ => .plain h
  | top => exact fun _ => .top
  | ptr h =>
    intro hi
    cases hi with
    | plain h => simp [plainCell] at h
    | ptr hk => exact .ptr ((hK _ hk).trans h)
  | slice h hn hm hl =>
    intro hi
    cases hi with
    | plain h => simp [plainCell] at h
    | slice hk => exact .slice ((hK _ hk).trans h) hn hm hl
  | empty h hA =>
    intro hi
    cases hi with
    | plain h => simp [plainCell] at h
    | slice hk => exact .empty ((hK _ hk).trans h) hA
  | map h =>
    intro hi
    cases hi with
    | plain h => simp [plainCell] at h
    | map hk => exact .map ((hK _ hk).trans h)
  | func h1 h2 _ _ h3 h4 =>
    intro hi
    cases hi with
    | plain h => simp [plainCell] at h
    | func k3 k4 => exact .func h1 h2 (fun i u v hu hv => h3 i u v hu hv (k3 i u hu)) (fun i u v hu hv => h4 i u v hu hv (k4 i u hu))
  | iface _ h =>
    intro hi
    cases hi with
    | plain h => simp [plainCell] at h
    | iface hk => exact .iface (h hk)
  | agg h _ hh =>
    intro hi
    cases hi with
    | plain h => simp [plainCell] at h
    | agg hk => exact .agg h fun i u v hu hv => hh i u v hu hv (hk i u hu)
  | tuple h _ hh =>
    intro hi
    cases hi with
    | plain h => simp [plainCell] at h
    | tuple hk => exact .tuple h fun i u v hu hv => hh i u v hu hv (hk i u hu)
end Go.Abs
