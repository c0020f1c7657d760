/- Working with the texts: what simp needs, slices that are read, rows that are grown, loops. -/
import Derived.Test.YtliakckflcoffaaDoorAbsU
set_option linter.unusedVariables false
set_option linter.unusedSimpArgs false
namespace Go.Abs
open Go
universe u v

/-! What simp looks at, and what not. -/
theorem nr {α : Sort u} {a b : α} (h : a = b) : a = b := h
@[congr] theorem bnd_congr {α : Type} {x y : Option α} {K : α → Prop} {zz : Prop} (h : x = y) (_hq : (∃ n : Nat, n = 0) = zz) : bnd x K = bnd y K := by rw [h]
@[congr] theorem aCond_congr {v w : Value} {p q : Prop} {zz : Prop} (h : v = w) (_hq : (∃ n : Nat, n = 0) = zz) : aCond v p q = aCond w p q := by rw [h]
@[congr] theorem aGuardK_congr {g g' : Value} {w : Bool} {F : (Value → AHeap → Prop) → AHeap → Prop} {K : Value → AHeap → Prop} {H : AHeap} {zz : Prop} (h : g = g') (_hq : (∃ n : Nat, n = 0) = zz) : aGuardK g w F K H = aGuardK g' w F K H := by rw [h]
@[congr] theorem aJoin_congr {J : List Value → AHeap → Prop} {F : (List Value → AHeap → Prop) → Prop} {zz : Prop} (_hq : (∃ n : Nat, n = 0) = zz) : aJoin J F = aJoin J F := rfl
@[congr] theorem aLoop_congr {vs vs' : List Value} {H : AHeap} {body : List Value → AHeap → (List Value → AHeap → Prop) → Prop} {zz : Prop} (h : vs = vs') (_hq : (∃ n : Nat, n = 0) = zz) : aLoop vs H body = aLoop vs' H body := by rw [h]
@[congr] theorem ACalls_congr {P : Program} {f : FuncId} {args args' : List Value} {H : AHeap} {K : Value → AHeap → Prop} {zz : Prop} (h : args = args') (_hq : (∃ n : Nat, n = 0) = zz) : ACalls P f args H K = ACalls P f args' H K := by rw [h]
@[congr] theorem aCallV_congr {P : Program} {x x' : Value} {args args' : List Value} {H : AHeap} {K : Value → AHeap → Prop} {zz : Prop} (h : x = x') (h' : args = args') (_hq : (∃ n : Nat, n = 0) = zz) : aCallV P x args H K = aCallV P x' args' H K := by rw [h, h']
@[congr] theorem aAppend_congr {n bytes : Nat} {e : TypeId} {v v' x x' : Value} {H : AHeap} {K : Value → AHeap → Prop} {zz : Prop} (h : v = v') (h' : x = x') (_hq : (∃ n : Nat, n = 0) = zz) : aAppend n bytes e v x H K = aAppend n bytes e v' x' H K := by rw [h, h']
@[congr] theorem aZeros_congr {bytes : Nat} {e : TypeId} {zs : List Value} {v v' x x' : Value} {H : AHeap} {K : Value → AHeap → Prop} {zz : Prop} (h : v = v') (h' : x = x') (_hq : (∃ n : Nat, n = 0) = zz) : aZeros bytes e zs v x H K = aZeros bytes e zs v' x' H K := by rw [h, h']
@[congr] theorem aMakeSlice_congr {bytes : Nat} {e : TypeId} {zs : List Value} {v v' x x' : Value} {H : AHeap} {K : Value → AHeap → Prop} {zz : Prop} (h : v = v') (h' : x = x') (_hq : (∃ n : Nat, n = 0) = zz) : aMakeSlice bytes e zs v x H K = aMakeSlice bytes e zs v' x' H K := by rw [h, h']

@[simp ↓] theorem bnd_some' {α : Type} (v : α) (K : α → Prop) : bnd (some v) K = K v := nr rfl
@[simp ↓] theorem bnd_none {α : Type} (K : α → Prop) : bnd none K = False := nr rfl
@[simp] theorem bnd_some_post {α : Type} (v : α) (K : α → Prop) : bnd (some v) K = K v := nr rfl
@[simp] theorem bnd_none_post {α : Type} (K : α → Prop) : bnd none K = False := nr rfl
@[simp] theorem aCond_true (p q : Prop) : aCond (.bool true) p q = p := nr rfl
@[simp] theorem aCond_false (p q : Prop) : aCond (.bool false) p q = q := nr rfl
theorem aCond_of {b : Bool} {p q : Prop} (h1 : b = true → p) (h2 : b = false → q) : aCond (.bool b) p q := by
  cases b
  · exact h2 rfl
  · exact h1 rfl
theorem aJoin_eq (J : List Value → AHeap → Prop) (F : (List Value → AHeap → Prop) → Prop) : aJoin J F = F J := nr rfl
@[simp] theorem aGuardK_tt (F : (Value → AHeap → Prop) → AHeap → Prop) (K : Value → AHeap → Prop) (H : AHeap) : aGuardK (.bool true) true F K H = F K H := nr rfl
@[simp] theorem aGuardK_ff (F : (Value → AHeap → Prop) → AHeap → Prop) (K : Value → AHeap → Prop) (H : AHeap) : aGuardK (.bool false) false F K H = F K H := nr rfl
@[simp] theorem aGuardK_tf (F : (Value → AHeap → Prop) → AHeap → Prop) (K : Value → AHeap → Prop) (H : AHeap) : aGuardK (.bool true) false F K H = K undef H := nr rfl
@[simp] theorem aGuardK_ft (F : (Value → AHeap → Prop) → AHeap → Prop) (K : Value → AHeap → Prop) (H : AHeap) : aGuardK (.bool false) true F K H = K undef H := nr rfl
@[simp] theorem aGuardK_undef (w : Bool) (F : (Value → AHeap → Prop) → AHeap → Prop) (K : Value → AHeap → Prop) (H : AHeap) : aGuardK undef w F K H = K undef H := nr rfl
@[simp ↓] theorem aAlloc_eq (cs : List Value) (t : TypeId) (H : AHeap) (K : Value → AHeap → Prop) : aAlloc cs t H K = K (.pointer (some ⟨H.next, 0, none⟩)) (H.alloc (.cells cs .var t)) := nr rfl
@[simp ↓] theorem aBox_eq (t : TypeId) (y : Value) (H : AHeap) (K : Value → AHeap → Prop) : aBox t y H K = ((vcells y).all okCell = true ∧ K (.pointer (some ⟨H.next, 0, none⟩)) (H.alloc (.cells (vcells y) .var t))) := nr rfl
@[simp ↓] theorem aBuildSlice_eq (n len : Nat) (e : TypeId) (zs : List Value) (rs : List (Nat × Nat × Value)) (H : AHeap) (K : Value → AHeap → Prop) :
    aBuildSlice n len e zs rs H K = bnd (aFill (List.replicate len zs).flatten rs) fun cs => (cs.all okCell = true ∧ cs.length = len * n) ∧ K (.slice (some ⟨H.next, 0, none⟩) len len) (H.alloc (.cells cs (.row n) e)) := nr rfl

@[simp] theorem nth_zero (v : Value) (vs : List Value) : nth (v :: vs) 0 = v := nr rfl
@[simp] theorem nth_succ (v : Value) (vs : List Value) (k : Nat) : nth (v :: vs) (k + 1) = nth vs k := nr rfl
@[simp] theorem nth_1 (u v : Value) (vs : List Value) : nth (u :: v :: vs) 1 = v := nr rfl
@[simp] theorem nth_2 (u v x : Value) (vs : List Value) : nth (u :: v :: x :: vs) 2 = x := nr rfl
@[simp] theorem nth_3 (u v x y : Value) (vs : List Value) : nth (u :: v :: x :: y :: vs) 3 = y := nr rfl
@[simp] theorem nth_4 (u v x y z : Value) (vs : List Value) : nth (u :: v :: x :: y :: z :: vs) 4 = z := nr rfl
@[simp] theorem nth_5 (u v x y z r : Value) (vs : List Value) : nth (u :: v :: x :: y :: z :: r :: vs) 5 = r := nr rfl

@[simp] theorem vcells_bool (b : Bool) : vcells (.bool b) = [.bool b] := nr rfl
@[simp] theorem vcells_int (k : IntKind) (n : Int) : vcells (.int k n) = [.int k n] := nr rfl
@[simp] theorem vcells_string (s : ByteArray) : vcells (.string s) = [.string s] := nr rfl
@[simp] theorem vcells_pointer (a : Option Addr) : vcells (.pointer a) = [.pointer a] := nr rfl
@[simp] theorem vcells_slice (a : Option Addr) (n c : Nat) : vcells (.slice a n c) = [.slice a n c] := nr rfl
@[simp] theorem vcells_map (a : Option Nat) : vcells (.map a) = [.map a] := nr rfl
@[simp] theorem vcells_agg (cs : Array Value) : vcells (.agg cs) = cs.toList := nr rfl
@[simp] theorem vcells_func (f : Fn) (a c : Array Value) : vcells (.func f a c) = [.func f a c] := nr rfl
@[simp] theorem vcells_nilFunc : vcells .nilFunc = [.nilFunc] := nr rfl
@[simp] theorem vcells_iface (t : TypeId) (v : Value) : vcells (.iface t v) = [.iface t v] := nr rfl
@[simp] theorem vcells_nilIface : vcells .nilIface = [.nilIface] := nr rfl
@[simp] theorem okCell_bool (b : Bool) : okCell (.bool b) = true := nr rfl
@[simp] theorem okCell_int (k : IntKind) (n : Int) : okCell (.int k n) = true := nr rfl
@[simp] theorem okCell_string (s : ByteArray) : okCell (.string s) = true := nr rfl
@[simp] theorem okCell_pointer (a : Option Addr) : okCell (.pointer a) = true := nr rfl
@[simp] theorem okCell_slice (a : Option Addr) (n c : Nat) : okCell (.slice a n c) = true := nr rfl
@[simp] theorem okCell_map (a : Option Nat) : okCell (.map a) = true := nr rfl
@[simp] theorem okCell_func (f : Fn) (a c : Array Value) : okCell (.func f a c) = true := nr rfl
@[simp] theorem okCell_nilFunc : okCell .nilFunc = true := nr rfl
@[simp] theorem okCell_iface (t : TypeId) (v : Value) : okCell (.iface t v) = true := nr rfl
@[simp] theorem okCell_nilIface : okCell .nilIface = true := nr rfl

@[simp] theorem aPick_tt (x y : Value) : aPick (.bool true) x y = some x := nr rfl
@[simp] theorem aPick_ff (x y : Value) : aPick (.bool false) x y = some y := nr rfl
@[simp] theorem aPick_same (b : Bool) (x : Value) : aPick (.bool b) x x = some x := by cases b <;> rfl
@[simp] theorem aPick_and (b c : Bool) : aPick (.bool b) (.bool c) (.bool false) = some (.bool (b && c)) := by cases b <;> rfl
@[simp] theorem aPick_or (b c : Bool) : aPick (.bool b) (.bool true) (.bool c) = some (.bool (b || c)) := by cases b <;> rfl
@[simp] theorem aUn_not (b : Bool) : aUn .not (.bool b) = some (.bool (!b)) := nr rfl
@[simp] theorem aUn_neg (k : IntKind) (n : Int) : aUn .neg (.int k n) = some (.int k (k.wrap (0 - n))) := nr rfl
@[simp] theorem aConvInt_int (k k' : IntKind) (n : Int) : aConvInt k (.int k' n) = some (.int k (k.wrap n)) := nr rfl
@[simp] theorem aExtract_tuple (vs : Array Value) (i : Nat) : aExtract (.tuple vs) i = vs[i]? := nr rfl
@[simp] theorem aAdd_ptr (off b o : Nat) : aAdd off (.pointer (some ⟨b, o, none⟩)) = some (.pointer (some ⟨b, o + off, none⟩)) := nr rfl
@[simp] theorem aNilCheck_ptr (a : Addr) : aNilCheck (.pointer (some a)) = some (.pointer (some a)) := nr rfl
@[simp] theorem aNilCheck_slice (a : Option Addr) (n c : Nat) : aNilCheck (.slice a n c) = some (.slice a n c) := nr rfl
@[simp] theorem aNilCheck_func (f : FuncId) (a c : Array Value) : aNilCheck (.func (.func f) a c) = some (.func (.func f) a c) := nr rfl
@[simp] theorem aLenSl_slice (a : Option Addr) (n c : Nat) : aLenSl (.slice a n c) = some (.int .i64 n) := nr rfl
@[simp] theorem aLenStr_string (s : ByteArray) : aLenStr (.string s) = some (.int .i64 s.size) := nr rfl
@[simp] theorem aCap_nil (n c : Nat) : aCap (.slice none n c) = some (.int .i64 0) := nr rfl

section
variable (k : IntKind) (e : EK) (x y : Int)
@[simp] theorem aBin_add : aBin .add e (.int k x) (.int k y) = some (.int k (k.wrap (x + y))) := by simp [aBin, aInt]
@[simp] theorem aBin_sub : aBin .sub e (.int k x) (.int k y) = some (.int k (k.wrap (x - y))) := by simp [aBin, aInt]
@[simp] theorem aBin_mul : aBin .mul e (.int k x) (.int k y) = some (.int k (k.wrap (x * y))) := by simp [aBin, aInt]
@[simp] theorem aBin_eql : aBin .eql e (.int k x) (.int k y) = some (.bool (decide (x = y))) := by simp [aBin, aInt]
@[simp] theorem aBin_neq : aBin .neq e (.int k x) (.int k y) = some (.bool (!decide (x = y))) := by simp [aBin, aInt]
@[simp] theorem aBin_lss : aBin .lss e (.int k x) (.int k y) = some (.bool (decide (x < y))) := by simp [aBin, aInt]
@[simp] theorem aBin_leq : aBin .leq e (.int k x) (.int k y) = some (.bool (decide (x ≤ y))) := by simp [aBin, aInt]
@[simp] theorem aBin_gtr : aBin .gtr e (.int k x) (.int k y) = some (.bool (decide (y < x))) := by simp [aBin, aInt]
@[simp] theorem aBin_geq : aBin .geq e (.int k x) (.int k y) = some (.bool (decide (y ≤ x))) := by simp [aBin, aInt]
theorem aBin_quo (h : y ≠ 0) : aBin .quo e (.int k x) (.int k y) = some (.int k (k.wrap (x.tdiv y))) := by simp [aBin, aInt, h]
theorem aBin_rem (h : y ≠ 0) : aBin .rem e (.int k x) (.int k y) = some (.int k (x.tmod y)) := by simp [aBin, aInt, h]
@[simp] theorem aBin_beql (a b : Bool) : aBin .eql .bool (.bool a) (.bool b) = some (.bool (a == b)) := nr rfl
@[simp] theorem aBin_bneq (a b : Bool) : aBin .neq .bool (.bool a) (.bool b) = some (.bool (!(a == b))) := nr rfl
@[simp] theorem aBin_seql (a b : ByteArray) : aBin .eql e (.string a) (.string b) = some (.bool (a == b)) := nr rfl
@[simp] theorem aBin_sneq (a b : ByteArray) : aBin .neq e (.string a) (.string b) = some (.bool (!(a == b))) := nr rfl
end

theorem wrap64 {x : Int} (h : -9223372036854775808 ≤ x) (h' : x ≤ 9223372036854775807) : IntKind.i64.wrap x = x := by rw [IntKind.wrap_i64]; omega

/-! Memory. -/
def blkCell (x : Blk) (o : Nat) : Option Value := match x with | .cells cs _ _ => cs[o]? | _ => none
def blkAgg (n : Nat) (x : Blk) (o : Nat) : Option Value := match x with | .cells cs _ _ => if o + n ≤ cs.length then some (.agg ((cs.drop o).take n).toArray) else none | _ => none
def blkSt (n : Nat) (x : Blk) (o : Nat) (ys : List Value) : Option Blk := match x with
  | .cells cs k t => if k.own = true ∧ ys.length = n ∧ o + n ≤ cs.length ∧ ys.all okCell = true then some (.cells (setCells cs o ys) k t) else none
  | _ => none
@[simp] theorem blkCell_cells (cs : List Value) (k : Use) (t : TypeId) (o : Nat) : blkCell (.cells cs k t) o = cs[o]? := nr rfl
@[simp] theorem blkAgg_cells (n : Nat) (cs : List Value) (k : Use) (t : TypeId) (o : Nat) : blkAgg n (.cells cs k t) o = if o + n ≤ cs.length then some (.agg ((cs.drop o).take n).toArray) else none := nr rfl
@[simp] theorem blkSt_cells (n : Nat) (cs : List Value) (k : Use) (t : TypeId) (o : Nat) (ys : List Value) : blkSt n (.cells cs k t) o ys = if k.own = true ∧ ys.length = n ∧ o + n ≤ cs.length ∧ ys.all okCell = true then some (.cells (setCells cs o ys) k t) else none := nr rfl
@[simp] theorem own_var : Use.own .var = true := nr rfl
@[simp] theorem own_row (n : Nat) : Use.own (.row n) = true := nr rfl
@[simp] theorem aLdCell_ptr (b o : Nat) (H : AHeap) : aLdCell (.pointer (some ⟨b, o, none⟩)) H = blkCell (H.at_ b) o := nr rfl
@[simp] theorem aLdAgg_ptr (n b o : Nat) (H : AHeap) : aLdAgg n (.pointer (some ⟨b, o, none⟩)) H = blkAgg n (H.at_ b) o := nr rfl
@[simp] theorem aSt_ptr (n b o : Nat) (y : Value) (H : AHeap) : aSt n (.pointer (some ⟨b, o, none⟩)) y H = (blkSt n (H.at_ b) o (vcells y)).map (H.upd b) := by
  unfold aSt blkSt
  cases h : H.at_ b with
  | cells cs k t =>
    simp only [h]
    split <;> rfl
  | map es => simp only [h]; rfl
  | dead => simp only [h]; rfl
theorem at_alloc (H : AHeap) (x : Blk) (b : Nat) : (H.alloc x).at_ b = if b = H.next then x else H.at_ b := rfl
theorem at_upd (H : AHeap) (c : Nat) (x : Blk) (b : Nat) : (H.upd c x).at_ b = if b = c then x else H.at_ b := rfl

/-- Below a number, nothing is changed. -/
structure Keep (lo : Nat) (H H' : AHeap) : Prop where
  next : H.next ≤ H'.next
  at_ : ∀ b, b < lo → H'.at_ b = H.at_ b
@[simp] theorem Keep.self (lo : Nat) (H : AHeap) : Keep lo H H := ⟨Nat.le_refl _, fun _ _ => rfl⟩
theorem Keep.refl (lo : Nat) (H : AHeap) : Keep lo H H := ⟨Nat.le_refl _, fun _ _ => rfl⟩
theorem Keep.trans {lo : Nat} {H H' H'' : AHeap} (h : Keep lo H H') (k : Keep lo H' H'') : Keep lo H H'' := ⟨Nat.le_trans h.next k.next, fun b hb => (k.at_ b hb).trans (h.at_ b hb)⟩
theorem Keep.lower {lo lo' : Nat} {H H' : AHeap} (h : Keep lo H H') (hl : lo' ≤ lo) : Keep lo' H H' := ⟨h.next, fun b hb => h.at_ b (Nat.lt_of_lt_of_le hb hl)⟩
theorem Keep.alloc {lo : Nat} {H H' : AHeap} (h : Keep lo H H') (hl : lo ≤ H'.next) (x : Blk) : Keep lo H (H'.alloc x) := ⟨by simp; have := h.next; omega, fun b hb => by rw [AHeap.at_alloc_ne _ _ (by omega)]; exact h.at_ b hb⟩
theorem Keep.upd {lo : Nat} {H H' : AHeap} (h : Keep lo H H') {c : Nat} (hl : lo ≤ c) (x : Blk) : Keep lo H (H'.upd c x) := ⟨h.next, fun b hb => by rw [AHeap.at_upd_ne _ _ (by omega)]; exact h.at_ b hb⟩

/-! Slices that are read. -/
def slot (n : Nat) (A : Option Addr) (j : Nat) : Value := match A with
  | some ⟨b, o, s⟩ => .pointer (some ⟨b, o + j * n, s⟩)
  | none => .pointer none
/-- Behind A lie xs: each n cells, in blocks below lo. -/
def Rd {α : Type} (n : Nat) (enc : α → List Value) (lo : Nat) (H : AHeap) (A : Option Addr) (xs : List α) : Prop :=
  (∀ x ∈ xs, (enc x).length = n) ∧ ((A = none ∧ xs = []) ∨ ∃ b o cs k t, A = some ⟨b, o, none⟩ ∧ b < lo ∧ (H.at_ b = .cells cs k t ∧ k ≠ .var) ∧ o + xs.length * n ≤ cs.length ∧ (cs.drop o).take (xs.length * n) = xs.flatMap enc)

section
variable {α : Type} {n : Nat} {enc : α → List Value} {lo : Nat} {H : AHeap} {A : Option Addr} {xs : List α}
theorem Rd.nil (n : Nat) (enc : α → List Value) (lo : Nat) (H : AHeap) : Rd n enc lo H none [] := ⟨by simp, .inl ⟨rfl, rfl⟩⟩
theorem Rd.keep {H' : AHeap} (h : Rd n enc lo H A xs) (hk : ∀ b, b < lo → H'.at_ b = H.at_ b) : Rd n enc lo H' A xs := by
  refine ⟨h.1, h.2.imp id ?_⟩
  rintro ⟨b, o, cs, k, t, h1, h2, h3, h4, h5⟩
  exact ⟨b, o, cs, k, t, h1, h2, ⟨(hk b h2).trans h3.1, h3.2⟩, h4, h5⟩
theorem Rd.kept {H' : AHeap} (h : Rd n enc lo H A xs) (hk : Keep lo H H') : Rd n enc lo H' A xs := h.keep hk.at_
theorem Rd.up {lo' : Nat} (h : Rd n enc lo H A xs) (hl : lo ≤ lo') : Rd n enc lo' H A xs := by
  refine ⟨h.1, h.2.imp id ?_⟩
  rintro ⟨b, o, cs, k, t, h1, h2, h3⟩
  exact ⟨b, o, cs, k, t, h1, by omega, h3⟩
theorem Rd.alloc (h : Rd n enc lo H A xs) (hl : lo ≤ H.next) (x : Blk) : Rd n enc lo (H.alloc x) A xs := h.keep fun b hb => AHeap.at_alloc_ne _ _ (by omega)
theorem Rd.upd (h : Rd n enc lo H A xs) {c : Nat} (hl : lo ≤ c) (x : Blk) : Rd n enc lo (H.upd c x) A xs := h.keep fun b hb => AHeap.at_upd_ne _ _ (by omega)
theorem Rd.updVar (h : Rd n enc lo H A xs) {p : Nat} {cs' : List Value} {t' : TypeId} (hp : H.at_ p = .cells cs' .var t') (x : Blk) : Rd n enc lo (H.upd p x) A xs := by
  refine ⟨h.1, h.2.imp id ?_⟩
  rintro ⟨b, o, cs, k, t, h1, h2, h3, h4⟩
  refine ⟨b, o, cs, k, t, h1, h2, ⟨?_, h3.2⟩, h4⟩
  rw [AHeap.at_upd_ne]
  · exact h3.1
  · rintro rfl
    rw [hp] at h3
    have := h3.1
    injection this with _ h5
    exact h3.2 h5.symm
theorem Rd.idx (h : Rd n enc lo H A xs) {k : IntKind} {j : Int} {c : Nat} (h0 : 0 ≤ j) (hj : j < xs.length) : aIdxAddr n (.slice A xs.length c) (.int k j) = some (slot n A j.toNat) := by
  rcases h.2 with ⟨_, rfl⟩ | ⟨b, o, cs, k, t, rfl, _⟩
  · simp at hj; omega
  · simp [aIdxAddr, slot, h0, hj]

theorem Rd.mk' {b : Nat} {k : Use} {t : TypeId} {cs : List Value} (hl : ∀ x ∈ xs, (enc x).length = n) (hb : b < lo) (hat : H.at_ b = .cells cs k t) (hk : k ≠ .var) (hc : cs = xs.flatMap enc) (hcl : cs.length = xs.length * n) : Rd n enc lo H (some ⟨b, 0, none⟩) xs := by
  refine ⟨hl, .inr ⟨b, 0, cs, k, t, rfl, hb, ⟨hat, hk⟩, by omega, ?_⟩⟩
  rw [List.drop_zero, ← hcl, List.take_length, hc]

theorem flatMap_at {β : Type} {f : α → List β} {n : Nat} : ∀ {xs : List α} {j : Nat} {x : α}, (∀ x ∈ xs, (f x).length = n) → xs[j]? = some x → ((xs.flatMap f).drop (j * n)).take n = f x
  | [], j, x, _, h => by simp at h
  | y :: ys, 0, x, hl, h => by
    simp at h; subst h
    rw [Nat.zero_mul, List.drop_zero, List.flatMap_cons, ← hl y (by simp)]
    exact List.take_left
  | y :: ys, j + 1, x, hl, h => by
    rw [List.flatMap_cons, show (j + 1) * n = (f y).length + j * n by rw [hl y (by simp), Nat.add_mul]; omega, List.drop_length_add_append]
    exact flatMap_at (fun z hz => hl z (by simp [hz])) (by simpa using h)
theorem flatMap_length {β : Type} {f : α → List β} {n : Nat} : ∀ {xs : List α}, (∀ x ∈ xs, (f x).length = n) → (xs.flatMap f).length = xs.length * n
  | [], _ => by simp
  | y :: ys, hl => by
    rw [List.flatMap_cons, List.length_append, hl y (by simp), flatMap_length (fun z hz => hl z (by simp [hz])), List.length_cons, Nat.add_mul]; omega

/-- The cells of an element, where it lies. -/
theorem Rd.elem (h : Rd n enc lo H A xs) {j : Nat} (hj : j < xs.length) : ∃ b o cs k t, A = some ⟨b, o, none⟩ ∧ b < lo ∧ H.at_ b = .cells cs k t ∧ o + j * n + n ≤ cs.length ∧ (cs.drop (o + j * n)).take n = enc xs[j] := by
  rcases h.2 with ⟨_, rfl⟩ | ⟨b, o, cs, k, t, rfl, h2, h3, h4, h5⟩
  · simp at hj
  · refine ⟨b, o, cs, k, t, rfl, h2, h3.1, ?_, ?_⟩
    · have : (j + 1) * n ≤ xs.length * n := Nat.mul_le_mul_right _ hj
      rw [Nat.add_mul] at this
      omega
    · have h6 := flatMap_at (f := enc) (j := j) (x := xs[j]) h.1 (List.getElem?_eq_getElem hj)
      rw [← h5, List.drop_take, List.drop_drop, List.take_take] at h6
      rw [← h6]
      congr 1
      have : (j + 1) * n ≤ xs.length * n := Nat.mul_le_mul_right _ hj
      rw [Nat.add_mul] at this
      omega
theorem Rd.agg (h : Rd n enc lo H A xs) {j : Nat} (hj : j < xs.length) : aLdAgg n (slot n A j) H = some (.agg (enc xs[j]).toArray) := by
  obtain ⟨b, o, cs, k, t, rfl, h2, h3, h4, h5⟩ := h.elem hj
  simp [slot, h3, h5, h4]
theorem Rd.part (h : Rd n enc lo H A xs) {j : Nat} (hj : j < xs.length) {f : Nat} (hf : f < n) : bnd (aAdd f (slot n A j)) (fun p => aLdCell p H = (enc xs[j])[f]?) := by
  obtain ⟨b, o, cs, k, t, rfl, h2, h3, h4, h5⟩ := h.elem hj
  simp only [slot, aAdd_ptr, bnd_some', aLdCell_ptr, h3, blkCell_cells]
  rw [← h5, List.getElem?_take, if_pos hf, List.getElem?_drop]
end

/-! Pieces of a slice. -/
def adv (n : Nat) (A : Option Addr) (i : Nat) : Option Addr := match A with
  | some ⟨b, o, s⟩ => some ⟨b, o + i * n, s⟩
  | none => none
section
variable {α : Type} {n : Nat} {enc : α → List Value} {lo : Nat} {H : AHeap} {A : Option Addr} {xs : List α}
theorem Rd.cut (h : Rd n enc lo H A xs) (i j : Nat) (hij : i ≤ j) (hj : j ≤ xs.length) : Rd n enc lo H (adv n A i) ((xs.drop i).take (j - i)) := by
  have hl : ∀ x ∈ (xs.drop i).take (j - i), (enc x).length = n := fun x hx => h.1 x (List.mem_of_mem_drop (List.mem_of_mem_take hx))
  refine ⟨hl, ?_⟩
  rcases h.2 with ⟨rfl, rfl⟩ | ⟨b, o, cs, k, t, rfl, h2, h3, h4, h5⟩
  · exact .inl ⟨rfl, by simp⟩
  · have hm : j * n ≤ xs.length * n := Nat.mul_le_mul_right _ hj
    have hm2 : i * n ≤ j * n := Nat.mul_le_mul_right _ hij
    have hlen : ((xs.drop i).take (j - i)).length = j - i := by rw [List.length_take, List.length_drop]; omega
    refine .inr ⟨b, o + i * n, cs, k, t, rfl, h2, h3, by rw [hlen, Nat.sub_mul]; omega, ?_⟩
    rw [hlen]
    have e1 : xs = xs.take i ++ ((xs.drop i).take (j - i) ++ xs.drop j) := by
      rw [show xs.drop j = (xs.drop i).drop (j - i) by rw [List.drop_drop]; congr 1; omega, List.take_append_drop, List.take_append_drop]
    have e2 : (xs.take i).flatMap enc ++ (((xs.drop i).take (j - i)).flatMap enc ++ (xs.drop j).flatMap enc) = xs.flatMap enc := by
      rw [← List.flatMap_append, ← List.flatMap_append, ← e1]
    have l1 : ((xs.take i).flatMap enc).length = i * n := by
      rw [flatMap_length (fun x hx => h.1 x (List.mem_of_mem_take hx)), List.length_take, Nat.min_eq_left (by omega)]
    have l2 : (((xs.drop i).take (j - i)).flatMap enc).length = (j - i) * n := by rw [flatMap_length hl, hlen]
    rw [← List.drop_drop]
    have e3 : ((cs.drop o).drop (i * n)).take ((j - i) * n) = (((cs.drop o).take (xs.length * n)).drop (i * n)).take ((j - i) * n) := by
      rw [List.drop_take, List.take_take, Nat.min_eq_left (by rw [Nat.sub_mul]; omega)]
    rw [e3, h5, ← e2, ← l1, List.drop_left, ← l2, List.take_left]
theorem Rd.val (h : Rd n enc lo H A xs) {i j : Nat} (hij : i ≤ j) (hj : j ≤ xs.length) : aCut n (.slice A xs.length xs.length) i j = some (.slice (adv n A i) (j - i) (j - i)) := by
  unfold aCut
  rw [if_pos hij]
  rcases h.2 with ⟨rfl, rfl⟩ | ⟨b, o, cs, k, t, rfl, _⟩
  · simp at hj
    subst hj
    simp at hij
    subst hij
    rfl
  · rfl
theorem Rd.sliceHi (h : Rd n enc lo H A xs) {k : IntKind} {j : Int} (h0 : 0 ≤ j) (hj : j ≤ xs.length) : aSliceSl n (.slice A xs.length xs.length) none (some (.int k j)) = some (.slice (adv n A 0) j.toNat j.toNat) := by
  simp only [aSliceSl, aSlice, aLen, loOf, Option.bind_some, Int.toNat_natCast, hiOf, h0, hj, and_self, if_true]
  exact h.val (Nat.zero_le _) (by omega)
theorem Rd.sliceLo (h : Rd n enc lo H A xs) {k : IntKind} {i : Int} (h0 : 0 ≤ i) (hi : i ≤ xs.length) : aSliceSl n (.slice A xs.length xs.length) (some (.int k i)) none = some (.slice (adv n A i.toNat) (xs.length - i.toNat) (xs.length - i.toNat)) := by
  simp only [aSliceSl, aSlice, aLen, loOf, h0, if_true, Option.bind_some, Int.toNat_natCast, hiOf]
  exact h.val (by omega) (Nat.le_refl _)
theorem Rd.sliceLoHi (h : Rd n enc lo H A xs) {k k' : IntKind} {i j : Int} (h0 : 0 ≤ i) (hij : i ≤ j) (hj : j ≤ xs.length) : aSliceSl n (.slice A xs.length xs.length) (some (.int k i)) (some (.int k' j)) = some (.slice (adv n A i.toNat) (j.toNat - i.toNat) (j.toNat - i.toNat)) := by
  have h1 : 0 ≤ j := by omega
  simp only [aSliceSl, aSlice, aLen, loOf, h0, if_true, Option.bind_some, Int.toNat_natCast, hiOf, h1, hj, and_self]
  exact h.val (by omega) (by omega)
theorem Rd.take (h : Rd n enc lo H A xs) {j : Nat} (hj : j ≤ xs.length) : Rd n enc lo H (adv n A 0) (xs.take j) := by simpa using h.cut 0 j (Nat.zero_le _) hj
theorem Rd.drop (h : Rd n enc lo H A xs) {i : Nat} (hi : i ≤ xs.length) : Rd n enc lo H (adv n A i) (xs.drop i) := by
  have := h.cut i xs.length hi (Nat.le_refl _)
  rwa [List.take_of_length_le (by rw [List.length_drop]; exact Nat.le_refl _)] at this
end

/-- Elements of one cell. -/
theorem Rd.ld {α : Type} {enc : α → Value} {lo : Nat} {H : AHeap} {A : Option Addr} {xs : List α} (h : Rd 1 (fun x => [enc x]) lo H A xs) {j : Nat} (hj : j < xs.length) : aLdCell (slot 1 A j) H = some (enc xs[j]) := by
  obtain ⟨b, o, cs, k, t, rfl, h2, h3, h4, h5⟩ := h.elem hj
  simp only [slot, aLdCell_ptr, h3, blkCell_cells]
  have := congrArg (fun l : List Value => l[0]?) h5
  simpa [List.getElem?_take, List.getElem?_drop] using this

abbrev eI (x : Int) : List Value := [Value.int .i64 x]
abbrev Ints (lo : Nat) (H : AHeap) (A : Option Addr) (xs : List Int) : Prop := Rd 1 eI lo H A xs

/-! Loops. -/
theorem aLoop_inv {vs0 : List Value} {H0 : AHeap} {body : List Value → AHeap → (List Value → AHeap → Prop) → Prop} (I : Nat → List Value → AHeap → Prop) (m0 : Nat) (h0 : I m0 vs0 H0)
    (hb : ∀ m vs H (again : List Value → AHeap → Prop), I m vs H → (∀ k vs' H', k < m → I k vs' H' → again vs' H') → body vs H again) : aLoop vs0 H0 body :=
  ⟨I, m0, h0, fun m vs H hi => hb m vs H _ hi fun k vs' H' hk hI => ⟨k, hk, hI⟩⟩
/-- A loop that counts. -/
theorem aLoop_st {vs0 : List Value} {H0 : AHeap} {body : List Value → AHeap → (List Value → AHeap → Prop) → Prop} (n : Nat) (st : Nat → List Value) (good : Nat → AHeap → Prop)
    (h0 : vs0 = st 0) (hg : good 0 H0) (hb : ∀ i H (again : List Value → AHeap → Prop), i ≤ n → good i H → (∀ H', i < n → good (i + 1) H' → again (st (i + 1)) H') → body (st i) H again) : aLoop vs0 H0 body := by
  subst h0
  refine aLoop_inv (fun m vs H => ∃ i, m = n - i ∧ i ≤ n ∧ vs = st i ∧ good i H) n ⟨0, by simp, Nat.zero_le _, rfl, hg⟩ ?_
  rintro m vs H again ⟨i, rfl, hi, rfl, hgi⟩ ha
  exact hb i H again hi hgi fun H' hlt hg' => ha (n - (i + 1)) _ H' (by omega) ⟨i + 1, rfl, hlt, rfl, hg'⟩
/-- A loop that counts; the values it goes on with are told by the step. -/
theorem aLoop_vs {vs0 : List Value} {H0 : AHeap} {body : List Value → AHeap → (List Value → AHeap → Prop) → Prop} (n : Nat) (I : Nat → List Value → AHeap → Prop)
    (hg : I 0 vs0 H0) (hb : ∀ i vs H (again : List Value → AHeap → Prop), i ≤ n → I i vs H → (∀ vs' H', i < n → I (i + 1) vs' H' → again vs' H') → body vs H again) : aLoop vs0 H0 body := by
  refine aLoop_inv (fun m vs H => ∃ i, m = n - i ∧ i ≤ n ∧ I i vs H) n ⟨0, by simp, Nat.zero_le _, hg⟩ ?_
  rintro m vs H again ⟨i, rfl, hi, hgi⟩ ha
  exact hb i vs H again hi hgi fun vs' H' hlt hg' => ha (n - (i + 1)) _ H' (by omega) ⟨i + 1, rfl, hlt, hg'⟩

/-! Calls. -/
section
variable {P : Program}
theorem ACalls.wf {f : FuncId} {args : List Value} {H : AHeap} {K : Value → AHeap → Prop} (h : (∀ b, H.next ≤ b → H.at_ b = .dead) → ACalls P f args H K) : ACalls P f args H K :=
  fun B φ w cargs hr hv => h hr.wf B φ w cargs hr hv
/-- A call that keeps what was there and answers a plain value leaves the heap as it was. -/
theorem ACalls.pure {f : FuncId} {args : List Value} {H : AHeap} {L : Value → Prop} (h : ACalls P f args H fun v H' => L v ∧ Keep H.next H H') (hp : ∀ v, L v → VIn (fun c => c < H.next) v) : ACalls P f args H fun v H' => L v ∧ H' = H := by
  refine ACalls.wf fun hw => h.tidy fun v H' ⟨hv, hk⟩ => ⟨H, Tidy.same hw hk.at_, (hp v hv).mono fun c hc => .inl hc, hv, rfl⟩
theorem ACalls.eq {f : FuncId} {args : List Value} {H : AHeap} {r : Value} (h : ACalls P f args H fun v H' => v = r ∧ Keep H.next H H') (hp : plainCell r = true) : ACalls P f args H fun v H' => v = r ∧ H' = H :=
  ACalls.pure (L := fun v => v = r) h fun v hv => by subst hv; exact .plain hp
/-- In use. -/
theorem ACalls.use {f : FuncId} {args : List Value} {H : AHeap} {r : Value} {K : Value → AHeap → Prop} (h : ACalls P f args H fun v H' => v = r ∧ H' = H) (hk : K r H) : ACalls P f args H K :=
  h.mono fun v H' ⟨h1, h2⟩ => by subst h1; subst h2; exact hk
end

/-! Rows of the call's own, that are grown. -/
def Ow {α : Type} (n : Nat) (enc : α → List Value) (e : TypeId) (lo : Nat) (H : AHeap) (A : Option Addr) (xs : List α) : Prop :=
  (∀ x ∈ xs, (enc x).length = n) ∧ ((A = none ∧ xs = []) ∨ ∃ b cs, A = some ⟨b, 0, none⟩ ∧ lo ≤ b ∧ b < H.next ∧ H.at_ b = .cells cs (.row n) e ∧ xs.length * n ≤ cs.length ∧ cs.take (xs.length * n) = xs.flatMap enc)
section
variable {α : Type} {n : Nat} {enc : α → List Value} {e : TypeId} {lo : Nat} {H : AHeap} {A : Option Addr} {xs : List α}
theorem Ow.rd (h : Ow n enc e lo H A xs) : Rd n enc H.next H A xs := by
  refine ⟨h.1, h.2.imp id ?_⟩
  rintro ⟨b, cs, h1, h2, h3, h4, h5, h6⟩
  exact ⟨b, 0, cs, _, _, h1, h3, ⟨h4, by simp⟩, by omega, by simpa using h6⟩
theorem Ow.nil (n : Nat) (enc : α → List Value) (e : TypeId) (lo : Nat) (H : AHeap) : Ow n enc e lo H none [] := ⟨by simp, .inl ⟨rfl, rfl⟩⟩
theorem Ow.new (H : AHeap) (cs : List Value) (hl : ∀ x ∈ xs, (enc x).length = n) (hc : cs = xs.flatMap enc) : Ow n enc e H.next (H.alloc (.cells cs (.row n) e)) (some ⟨H.next, 0, none⟩) xs := by
  subst hc
  refine ⟨hl, .inr ⟨H.next, _, rfl, Nat.le_refl _, by simp, AHeap.at_alloc_new _ _, ?_, ?_⟩⟩
  · rw [flatMap_length hl]; exact Nat.le_refl _
  · rw [← flatMap_length hl]; exact List.take_length
theorem Ow.lower {lo' : Nat} (h : Ow n enc e lo H A xs) (hl : lo' ≤ lo) : Ow n enc e lo' H A xs := by
  refine ⟨h.1, h.2.imp id ?_⟩
  rintro ⟨b, cs, h1, h2, h3⟩
  exact ⟨b, cs, h1, by omega, h3⟩
theorem Ow.keep {H' : AHeap} (h : Ow n enc e lo H A xs) (hn : H.next ≤ H'.next) (hk : ∀ b, lo ≤ b → b < H.next → H'.at_ b = H.at_ b) : Ow n enc e lo H' A xs := by
  refine ⟨h.1, h.2.imp id ?_⟩
  rintro ⟨b, cs, h1, h2, h3, h4, h5⟩
  exact ⟨b, cs, h1, h2, by omega, (hk b h2 h3).trans h4, h5⟩
theorem Ow.alloc (h : Ow n enc e lo H A xs) (x : Blk) : Ow n enc e lo (H.alloc x) A xs := h.keep (by simp) fun b _ hb => AHeap.at_alloc_ne _ _ (by omega)
theorem Ow.kept (h : Ow n enc e lo H A xs) {H' : AHeap} (hk : Keep H.next H H') : Ow n enc e lo H' A xs := h.keep hk.next fun b _ hb => hk.at_ b hb

theorem Ow.base (h : Ow n enc e lo H A xs) (c : Nat) : aBase n e (.slice A xs.length c) H = some (xs.flatMap enc) := by
  rcases h.2 with ⟨rfl, rfl⟩ | ⟨b, cs, rfl, h2, h3, h4, h5, h6⟩
  · rfl
  · simp [aBase, h4, h5, h6]
theorem Rd.row {lo : Nat} (h : Rd n enc lo H A xs) (c : Nat) : aRow n (.slice A xs.length c) H = some (xs.flatMap enc) := by
  rcases h.2 with ⟨rfl, rfl⟩ | ⟨b, o, cs, k, t, rfl, h2, h3, h4, h5⟩
  · rfl
  · simp [aRow, h3.1, h4, h5]

/-- append: the row is another block's now. -/
theorem Ow.append {lo' : Nat} {B : Option Addr} {ys : List α} {bytes c c' : Nat} {K : Value → AHeap → Prop} (h : Ow n enc e lo H A xs) (h' : Rd n enc lo' H B ys) (hlo : lo ≤ H.next)
    (h1 : xs.length + ys.length ≤ maxLen) (h2 : (xs.length + ys.length) * bytes ≤ 140737488355328)
    (hk : ∀ H', Ow n enc e lo H' (some ⟨H.next, 0, none⟩) (xs ++ ys) → H'.next = H.next + 1 → (∀ b, b < H.next → (∀ o s, A ≠ some ⟨b, o, s⟩) → H'.at_ b = H.at_ b) → Keep lo H H' →
      K (.slice (some ⟨H.next, 0, none⟩) (xs ++ ys).length (xs ++ ys).length) H') :
    aAppend n bytes e (.slice A xs.length c) (.slice B ys.length c') H K := by
  unfold aAppend
  rw [h.base, h'.row]
  simp only [bnd_some', sliceLen]
  refine ⟨⟨h1, h2⟩, ?_⟩
  have hat : ∀ b, b < H.next → (∀ o s, A ≠ some ⟨b, o, s⟩) → ((H.kill (.slice A xs.length c)).alloc (.cells (xs.flatMap enc ++ ys.flatMap enc) (.row n) e)).at_ b = H.at_ b := by
    intro b hb hA
    rw [AHeap.at_alloc_ne _ _ (by rw [AHeap.next_kill]; omega)]
    unfold AHeap.kill
    split
    · rename_i b' o s l c heq
      injection heq with heq
      rw [AHeap.at_upd_ne]
      intro e
      subst e
      exact hA _ _ heq
    · rfl
  have hl : ∀ x ∈ xs ++ ys, (enc x).length = n := by
    intro x hx
    rcases List.mem_append.1 hx with hx | hx
    · exact h.1 x hx
    · exact h'.1 x hx
  have := hk _ ?_ ?_ hat ?_
  · rw [List.length_append] at this
    exact this
  · refine ⟨hl, .inr ⟨H.next, xs.flatMap enc ++ ys.flatMap enc, rfl, hlo, ?_, ?_, ?_, ?_⟩⟩
    · rw [AHeap.next_alloc, AHeap.next_kill]; omega
    · have := AHeap.at_alloc_new (H.kill (.slice A xs.length c)) (.cells (xs.flatMap enc ++ ys.flatMap enc) (.row n) e)
      rwa [AHeap.next_kill] at this
    · rw [← List.flatMap_append, flatMap_length hl]; exact Nat.le_refl _
    · rw [← List.flatMap_append, ← flatMap_length hl]; exact List.take_length
  · rw [AHeap.next_alloc, AHeap.next_kill]
  · refine ⟨by rw [AHeap.next_alloc, AHeap.next_kill]; omega, fun b hb => hat b (by omega) fun o s hA => ?_⟩
    rcases h.2 with ⟨h3, _⟩ | ⟨b', cs, h3, h4, _⟩
    · rw [hA] at h3; cases h3
    · rw [hA] at h3
      injection h3 with h3
      injection h3 with h3
      omega
end
end Go.Abs
