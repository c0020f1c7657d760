/- Contracts of functions that the statement reaches; each theorem carries its own conditions, the last theorem of the claim has none. -/
import Derived.Test.YtngldjajfpbmbaaXA
import Derived.Test.YtngldjajfpbmbaaAbsZ
set_option linter.unusedVariables false
set_option linter.unusedSimpArgs false
namespace Go.Proofs.Ytngldjajfpbmbaa.A
open Go Go.Abs

theorem setCells_app_r (a : List Value) : ∀ (vs b : List Value) (o : Nat), setCells (a ++ b) (a.length + o) vs = a ++ setCells b o vs
  | [], b, o => by simp
  | v :: vs, b, o => by
    simp only [setCells_cons]
    rw [List.set_append_right _ _ (by omega), show a.length + o - a.length = o by omega, show a.length + o + 1 = a.length + (o + 1) by omega]
    exact setCells_app_r a vs _ _
theorem setCells_app_l (b : List Value) : ∀ (vs a : List Value) (o : Nat), o + vs.length ≤ a.length → setCells (a ++ b) o vs = setCells a o vs ++ b
  | [], a, o, _ => by simp
  | v :: vs, a, o, h => by
    simp only [setCells_cons]
    simp at h
    rw [List.set_append_left _ _ (by omega)]
    exact setCells_app_l b vs _ _ (by simp; omega)
theorem setCells_flat {α : Type} {enc : α → List Value} {n k : Nat} {vs : List Value} {y : α} (hkl : k + vs.length ≤ n) : ∀ (xs : List α) (j : Nat) (hj : j < xs.length), (∀ x ∈ xs, (enc x).length = n) → enc y = setCells (enc xs[j]) k vs →
    setCells (xs.flatMap enc) (j * n + k) vs = (xs.set j y).flatMap enc
  | [], j, hj, _, _ => by simp at hj
  | x :: xs, 0, _, hl, hy => by
    simp only [Nat.zero_mul, Nat.zero_add, List.flatMap_cons, List.set_cons_zero]
    rw [setCells_app_l _ _ _ _ (by rw [hl x (by simp)]; exact hkl)]
    simp at hy
    rw [hy]
  | x :: xs, j + 1, hj, hl, hy => by
    simp only [List.flatMap_cons, List.set_cons_succ]
    rw [show (j + 1) * n + k = (enc x).length + (j * n + k) by rw [hl x (by simp), Nat.add_mul]; omega, setCells_app_r]
    rw [setCells_flat hkl xs j (by simpa using hj) (fun z hz => hl z (by simp [hz])) (by simpa using hy)]
theorem setCells_take {cs vs : List Value} {o N : Nat} (h : o + vs.length ≤ N) (hN : N ≤ cs.length) : (setCells cs o vs).take N = setCells (cs.take N) o vs := by
  conv => lhs; rw [← List.take_append_drop N cs]
  rw [setCells_app_l _ _ _ _ (by rw [List.length_take, Nat.min_eq_left hN]; exact h)]
  rw [List.take_append_of_le_length (by rw [setCells_length, List.length_take, Nat.min_eq_left hN]; exact Nat.le_refl _)]
  rw [List.take_of_length_le]
  rw [setCells_length, List.length_take, Nat.min_eq_left hN]
  exact Nat.le_refl _
/-- A part of an element is set. -/
theorem _root_.Go.Abs.Ow.st {α : Type} {n : Nat} {enc : α → List Value} {e : TypeId} {lo : Nat} {H : AHeap} {A : Option Addr} {xs : List α} (h : Ow n enc e lo H A xs) {j k l off : Nat} {v : Value} {y : α} (hj : j < xs.length)
    (ho : off = j * n + k) (hv : (vcells v).length = l) (hok : (vcells v).all okCell = true) (hkl : k + l ≤ n) (hy : enc y = setCells (enc xs[j]) k (vcells v)) :
    ∃ b, A = some ⟨b, 0, none⟩ ∧ lo ≤ b ∧ b < H.next ∧ ∃ x, aSt l (.pointer (some ⟨b, off, none⟩)) v H = some (H.upd b x) ∧ Ow n enc e lo (H.upd b x) A (xs.set j y) ∧ ∃ cs, H.at_ b = .cells cs (.row n) e := by
  rcases h.2 with ⟨_, rfl⟩ | ⟨b, cs, rfl, h2, h3, h4, h5, h6⟩
  · simp at hj
  · have hb : (j + 1) * n ≤ xs.length * n := Nat.mul_le_mul_right _ hj
    rw [Nat.add_mul] at hb
    have hoff : off + l ≤ xs.length * n := by omega
    subst hv
    refine ⟨b, rfl, h2, h3, .cells (setCells cs off (vcells v)) (.row n) e, ?_, ⟨?_, .inr ⟨b, _, rfl, h2, h3, AHeap.at_upd_same _ _ _, ?_, ?_⟩⟩, cs, h4⟩
    · rw [aSt_ptr, h4, blkSt_cells, if_pos ⟨rfl, rfl, by omega, hok⟩]
      rfl
    · intro z hz
      rcases List.mem_or_eq_of_mem_set hz with hz | rfl
      · exact h.1 z hz
      · rw [hy, setCells_length]
        exact h.1 _ (List.getElem_mem hj)
    · rw [List.length_set, setCells_length]; exact h5
    · rw [List.length_set, setCells_take hoff h5, h6, ho]
      exact setCells_flat hkl xs j hj h.1 hy
theorem adv_zero (n : Nat) (A : Option Addr) : adv n A 0 = A := by
  cases A with
  | none => rfl
  | some a => simp [adv]
theorem _root_.Go.Abs.Ow.take {α : Type} {n : Nat} {enc : α → List Value} {e : TypeId} {lo : Nat} {H : AHeap} {A : Option Addr} {xs : List α} (h : Ow n enc e lo H A xs) (j : Nat) (hj : j ≤ xs.length) : Ow n enc e lo H A (xs.take j) := by
  refine ⟨fun x hx => h.1 x (List.mem_of_mem_take hx), ?_⟩
  rcases h.2 with ⟨h1, rfl⟩ | ⟨b, cs, rfl, h2, h3, h4, h5, h6⟩
  · exact .inl ⟨h1, by simp⟩
  · have hb : j * n ≤ xs.length * n := Nat.mul_le_mul_right _ hj
    refine .inr ⟨b, cs, rfl, h2, h3, h4, ?_, ?_⟩
    · rw [List.length_take, Nat.min_eq_left hj]; omega
    · have hl : ∀ x ∈ xs.take j, (enc x).length = n := fun x hx => h.1 x (List.mem_of_mem_take hx)
      have e1 := flatMap_length hl
      rw [List.length_take, Nat.min_eq_left hj] at e1 ⊢
      have : cs.take (j * n) = (cs.take (xs.length * n)).take (j * n) := by rw [List.take_take, Nat.min_eq_left hb]
      rw [this, h6]
      conv => lhs; rw [← List.take_append_drop j xs, List.flatMap_append]
      rw [← e1, List.take_left]

abbrev eB (x : Bool) : List Value := [.bool x]
/-- What can be come to. -/
inductive Reach (m : Sm) (roots : List V) : Nat → Prop
  | root {v : V} (h : v ∈ roots) (h7 : v.1 = 7) : Reach m roots v.2.toNat
  | step {i : Nat} {o : Ob} {v : V} (hi : Reach m roots i) (ho : m.objs[i]? = some o) (h : v ∈ o.slots) (h7 : v.1 = 7) : Reach m roots v.2.toNat
def okIx (m : Sm) (v : V) : Prop := v.1 = 7 → 0 ≤ v.2 ∧ v.2 < m.objs.length
/-- All that is held is there. -/
structure Vd (m : Sm) : Prop where
  ok : ∀ o ∈ m.objs, ∀ v ∈ o.slots, okIx m v
  syn : ∀ o ∈ m.objs, o.kind = 10 → o.slots = []
theorem sound_ix {m : Sm} {v : V} (h : m.sound v = true) : okIx m v := by
  intro h7
  have : m.sound v = okRef m v := by unfold Sm.sound; simp [h7]
  rw [this, okRef_iff] at h
  exact h.2
theorem shaped_le {k : Int} {n : Nat} (h : shaped k n = true) : k ≠ 10 := by
  rintro rfl
  simp [shaped] at h
theorem Vd.make {m : Sm} (h : Vd m) (k : Int) (xs : List V) : Vd (m.make k xs).2 := by
  unfold Sm.make
  split
  · rename_i hs
    split
    · rename_i hx
      split
      · exact h
      · rw [List.all_eq_true] at hx
        refine ⟨fun o ho v hv h7 => ?_, fun o ho h10 => ?_⟩
        · simp only [Sm.put, List.length_append, List.length_singleton] at ho ⊢
          rcases List.mem_append.1 ho with ho | ho
          · have := h.ok o ho v hv h7; omega
          · simp at ho
            subst ho
            have := sound_ix (hx v hv) h7; omega
        · simp only [Sm.put] at ho
          rcases List.mem_append.1 ho with ho | ho
          · exact h.syn o ho h10
          · simp at ho
            subst ho
            exact absurd h10 (shaped_le hs)
    · exact h
  · exact h
theorem Vd.new (n : Int) : Vd (Sm.new n) := ⟨by simp [Sm.new], by simp [Sm.new]⟩
def pend : List Ob → List Bool → Nat
  | o :: os, b :: bs => (if b then 0 else 1 + o.slots.length) + pend os bs
  | _, _ => 0
theorem pend_set : ∀ (os : List Ob) (bs : List Bool) (j : Nat) (o : Ob), os[j]? = some o → bs[j]? = some false → pend os (bs.set j true) + (1 + o.slots.length) = pend os bs
  | [], _, _, _, h, _ => by simp at h
  | _ :: _, [], _, _, _, h => by simp at h
  | o' :: os, b :: bs, 0, o, h, h' => by simp at h h'; subst h; subst h'; simp [pend]; omega
  | o' :: os, b :: bs, j + 1, o, h, h' => by
    have := pend_set os bs j o (by simpa using h) (by simpa using h')
    simp [pend]
    omega
theorem pend_le : ∀ (os : List Ob) (bs : List Bool), (∀ o ∈ os, o.kind = 10 → o.slots = []) → pend os bs ≤ total os
  | [], bs, _ => by simp [pend]
  | o :: os, [], _ => by simp [pend]
  | o :: os, b :: bs, h => by
    have := pend_le os bs fun x hx => h x (by simp [hx])
    have h1 : 1 + o.slots.length ≤ o.cells := by
      unfold Ob.cells
      split
      · rename_i hk; rw [h o (by simp) hk]; simp; omega
      · omega
    simp [pend, total] at *
    split <;> omega
theorem getD_set (s : List Bool) (j i : Nat) (hj : j < s.length) : (s.set j true).getD i false = if i = j then true else s.getD i false := by
  rw [List.getD_eq_getElem?_getD, List.getD_eq_getElem?_getD, List.getElem?_set]
  by_cases h : j = i
  · subst h; simp [hj]
  · have : ¬ i = j := fun e => h e.symm
    simp [h, this]
end Go.Proofs.Ytngldjajfpbmbaa.A

set_option linter.unusedVariables false
set_option linter.unusedSimpArgs false
namespace Go.Proofs.Ytngldjajfpbmbaa.A
open Go Go.Abs

theorem _root_.Go.Abs.Ow.blkOf {α : Type} {n : Nat} {enc : α → List Value} {e : TypeId} {lo : Nat} {H : AHeap} {A : Option Addr} {xs : List α} (h : Ow n enc e lo H A xs) {x : Addr} (hx : A = some x) : x.off = 0 ∧ lo ≤ x.block ∧ x.block < H.next ∧ ∃ cs, H.at_ x.block = .cells cs (.row n) e := by
  rcases h.2 with ⟨h1, _⟩ | ⟨b, cs, h1, h2, h3, h4, _⟩
  · rw [h1] at hx; cases hx
  · rw [h1] at hx; cases hx; exact ⟨rfl, h2, h3, cs, h4⟩

/-- An element, where it lies. -/
theorem _root_.Go.Abs.Ow.cell {α : Type} {n : Nat} {enc : α → List Value} {e : TypeId} {lo : Nat} {H : AHeap} {A : Option Addr} {xs : List α} (h : Ow n enc e lo H A xs) {j : Nat} {x : α} (hj : xs[j]? = some x) :
    ∃ b, A = some ⟨b, 0, none⟩ ∧ slot n A j = .pointer (some ⟨b, j * n, none⟩) ∧ (∀ f, f < n → aLdCell (.pointer (some ⟨b, j * n + f, none⟩)) H = (enc x)[f]?) ∧ lo ≤ b ∧ b < H.next := by
  obtain ⟨hlt, rfl⟩ := List.getElem?_eq_some_iff.1 hj
  rcases h.2 with ⟨_, h2⟩ | ⟨b, cs, rfl, h2, h3, h4, h5, h6⟩
  · rw [h2] at hlt; simp at hlt
  · refine ⟨b, rfl, by simp [slot], fun f hf => ?_, h2, h3⟩
    have := flatMap_at (f := enc) (j := j) (x := xs[j]) h.1 (List.getElem?_eq_getElem hlt)
    rw [← h6] at this
    rw [← this]
    have hb : (j + 1) * n ≤ xs.length * n := Nat.mul_le_mul_right _ hlt
    rw [Nat.add_mul] at hb
    simp only [aLdCell_ptr, h4, blkCell_cells]
    rw [List.getElem?_take, if_pos hf, List.getElem?_drop, List.getElem?_take, if_pos (by omega)]

theorem _root_.Go.Abs.Rd.at {α : Type} {n : Nat} {enc : α → List Value} {lo lo' : Nat} {H H' : AHeap} {A : Option Addr} {xs : List α} (h : Rd n enc lo H A xs) (hl : lo ≤ lo') (hk : ∀ a, A = some a → H'.at_ a.block = H.at_ a.block) : Rd n enc lo' H' A xs := by
  refine ⟨h.1, h.2.imp id ?_⟩
  rintro ⟨b, o, cs, k, t, h1, h2, h3, h4, h5⟩
  exact ⟨b, o, cs, k, t, h1, by omega, ⟨(hk _ h1).trans h3.1, h3.2⟩, h4, h5⟩
theorem mem_le_sum {n : Nat} : ∀ {l : List Nat}, n ∈ l → n ≤ l.sum
  | [], h => by simp at h
  | x :: l, h => by
    rcases List.mem_cons.1 h with rfl | h
    · simp
    · have := mem_le_sum h; simp; omega
theorem slots_le {m : Sm} (hI : Inv m) (hV : Vd m) : ∀ o ∈ m.objs, o.slots.length ≤ 1048576 := by
  intro o ho
  have h1 : o.cells ≤ total m.objs := by
    unfold total
    exact mem_le_sum (List.mem_map_of_mem ho)
  have h2 : o.slots.length ≤ o.cells := by
    unfold Ob.cells
    split
    · rename_i hk; rw [hV.syn o ho hk]; simp
    · omega
  have := hI.sum
  have := hI.le
  have := hI.lim
  omega
theorem flat_set {α : Type} {enc : α → List Value} {y : α} : ∀ (xs : List α) (j : Nat), (∀ x, xs[j]? = some x → enc y = enc x) → (xs.set j y).flatMap enc = xs.flatMap enc
  | [], j, _ => by simp
  | x :: xs, 0, h => by simp [h x (by simp)]
  | x :: xs, j + 1, h => by
    simp only [List.set_cons_succ, List.flatMap_cons]
    rw [flat_set xs j fun z hz => h z (by simpa using hz)]
theorem zip_set {α β : Type} : ∀ (xs : List α) (ys : List β) (j : Nat) (x : α) (y : β), ys[j]? = some y → (xs.set j x).zip ys = (xs.zip ys).set j (x, y)
  | [], ys, j, x, y, _ => by simp
  | _ :: _, [], j, x, y, h => by simp at h
  | a :: xs, b :: ys, 0, x, y, h => by simp at h; subst h; rfl
  | a :: xs, b :: ys, j + 1, x, y, h => by
    have := zip_set xs ys j x y (by simpa using h)
    simp [this]
def setOb (o : Ob) (i : Nat) (x : V) : Ob := ⟨o.kind, o.slots.set i x, o.sk, o.text, o.ex⟩
theorem c19 {H : AHeap} {p : Nat} {m : Sm} {F : Nat → Prop} (h : St H p m F) (v : V) (i : Int) (x : V) :
    ACalls Try.prog 19 [Pt p, vV v, .int .i64 i, vV x] H fun r H' => r = .int .i64 (m.set v i x).1 ∧ St H' p (m.set v i x).2 F ∧ Fr F H F H' := by
  refine S19_calls ?_
  obtain ⟨A, os, NA, mb, h⟩ := h
  unfold S19
  have hk2 : ∀ x y, Keep H.next H ((H.alloc x).alloc y) := fun x y => ((Keep.refl _ _).alloc (Nat.le_refl _) _).alloc (by simp) _
  have hx : ∀ x y, StX ((H.alloc x).alloc y) p m F A os NA mb := fun x y => h.frame (hk2 x y).next fun b hb => (hk2 x y).at_ b (h.lt b hb)
  simp [at_alloc]
  have hk3 := hk2 (.cells [.int .i64 v.1, .int .i64 v.2] .var 28) (.cells [.int .i64 x.1, .int .i64 x.2] .var 28)
  cases hv : okRef m v with
  | false =>
    refine (c47 (hx _ _) v i none (by rw [hv]; intro h; cases h)).use ?_
    simp [slotRes, hv, Sm.set]
    exact ⟨⟨A, os, NA, mb, hx _ _⟩, Fr.keep hk3⟩
  | true =>
    obtain ⟨a, b, cs, ho, ha, hs, hb, hat, hl, hc, hsl⟩ := h.look hv
    refine (c47 (hx _ _) v i a (fun _ => ha)).use ?_
    by_cases h3 : 0 ≤ i ∧ i < (m.ob v).slots.length
    · simp [slotRes, hv, h3, Sm.set]
      unfold S19_17
      simp [at_alloc]
      refine (c30 ⟨A, os, NA, mb, hx _ _⟩ x).use ?_
      cases hsd : m.sound x with
      | false =>
        simp
        exact ⟨⟨A, os, NA, mb, hx _ _⟩, Fr.keep hk3⟩
      | true =>
        have hO := hsl.kept hk3
        obtain ⟨c, hac, _, hcl, y, hst, hO2, ds, hds⟩ := hO.st (j := i.toNat) (k := 0) (l := 2) (off := i.toNat * 2) (v := vV x) (y := x) (by omega) (by omega) (by simp) (by simp) (by omega) (by simp)
        have hst' : aSt 2 (slot 2 a i.toNat) (vV x) ((H.alloc (.cells [.int .i64 v.1, .int .i64 v.2] .var 28)).alloc (.cells [.int .i64 x.1, .int .i64 x.2] .var 28)) = some (((H.alloc (.cells [.int .i64 v.1, .int .i64 v.2] .var 28)).alloc (.cells [.int .i64 x.1, .int .i64 x.2] .var 28)).upd c y) := by rw [hac]; simpa [slot] using hst
        have hnc : aNilCheck (slot 2 a i.toNat) = some (slot 2 a i.toNat) := by rw [hac]; rfl
        have hFc : F c := h.fo _ ⟨c, 0, none⟩ (by rw [ha, hac])
        have hcH := h.lt c hFc
        simp [at_alloc, hnc, hst', -aSt_ptr]
        have h2 := hx (.cells [.int .i64 v.1, .int .i64 v.2] .var 28) (.cells [.int .i64 x.1, .int .i64 x.2] .var 28)
        generalize hG : ((H.alloc (.cells [.int .i64 v.1, .int .i64 v.2] .var 28)).alloc (.cells [.int .i64 x.1, .int .i64 x.2] .var 28)) = G at *
        have un : ∀ d, d ≠ c → (G.upd c y).at_ d = G.at_ d := fun d hd => AHeap.at_upd_ne _ _ hd
        have nc : ∀ (d : Nat) (es : List Value) (u : Use) (t : TypeId), G.at_ d = .cells es u t → t ≠ 28 → d ≠ c := by
          rintro d es u t hd ht rfl
          rw [hds] at hd
          cases hd
          exact ht rfl
        refine ⟨⟨A, os, NA, mb, ?_⟩, ⟨?_, fun b hb hf => ?_, fun b hb => .inl hb⟩⟩
        · refine ⟨by simp [h2.len], ?_, ?_, ?_, h2.dist, ?_, ?_, h2.fp, h2.fA, h2.fo, h2.fN, h2.fm, h2.lt⟩
          · rw [un _ (nc _ _ _ _ h2.hp (by decide)), h2.hp]
            simp
          · have hz := zip_at ho ha
            have e1 : (m.objs.set v.2.toNat (setOb (m.ob v) i.toNat x)).zip os = (m.objs.zip os).set v.2.toNat (setOb (m.ob v) i.toNat x, a) := zip_set _ _ _ _ _ ha
            have hOO := h2.objs.at (H' := G.upd c y) (Nat.le_refl _) fun z hz => un _ (by
              obtain ⟨_, _, _, es, hes⟩ := h2.objs.blkOf hz
              exact nc _ _ _ _ hes (by decide))
            show Ow 10 encO 94 0 (G.upd c y) A ((m.objs.set v.2.toNat (setOb (m.ob v) i.toNat x)).zip os)
            rw [e1]
            have e2 : ((m.objs.zip os).set v.2.toNat (setOb (m.ob v) i.toNat x, a)).flatMap encO = (m.objs.zip os).flatMap encO := flat_set _ _ fun z hz' => by
              rw [hz] at hz'
              cases hz'
              simp [encO, setOb]
            refine ⟨fun _ _ => rfl, ?_⟩
            rcases hOO.2 with ⟨g1, g2⟩ | ⟨b, cs, g1, g2, g3, g4, g5, g6⟩
            · rw [g2]; exact .inl ⟨g1, rfl⟩
            · exact .inr ⟨b, cs, g1, g2, g3, g4, by rw [List.length_set]; exact g5, by rw [List.length_set, e2]; exact g6⟩
          · intro j o' a' h1 h2'
            have h1' : (m.objs.set v.2.toNat (setOb (m.ob v) i.toNat x))[j]? = some o' := h1
            rw [List.getElem?_set] at h1'
            by_cases e : v.2.toNat = j
            · subst e
              rw [if_pos rfl] at h1'
              split at h1'
              · cases h1'
                rw [ha] at h2'
                cases h2'
                exact hO2
              · cases h1'
            · rw [if_neg e] at h1'
              have := h2.slots j o' a' h1' h2'
              refine this.at (Nat.le_refl _) ?_
              rintro z rfl
              refine un _ ?_
              intro ez
              exact e (h2.dist _ _ ⟨c, 0, none⟩ z (by rw [ha, hac]) h2' ez.symm)
          · exact h2.names.at (Nat.le_refl _) fun z hz => un _ (by
              obtain ⟨_, _, _, es, hes⟩ := h2.names.blkOf hz
              exact nc _ _ _ _ hes (by decide))
          · rw [un]
            · exact h2.map
            · rintro rfl
              have := h2.map
              rw [hds] at this
              cases this
        · have := hk3.next; simpa using this
        · rw [un b (by rintro rfl; exact hf hFc)]
          exact hk3.at_ b hb
    · simp [slotRes, hv, h3, Sm.set]
      exact ⟨⟨A, os, NA, mb, hx _ _⟩, Fr.keep hk3⟩
theorem total_set : ∀ (xs : List Ob) (j : Nat) (o o' : Ob), xs[j]? = some o → o'.cells = o.cells → total (xs.set j o') = total xs
  | [], j, o, o', h, _ => by simp at h
  | x :: xs, 0, o, o', h, e => by simp at h; subst h; simp [total, e]
  | x :: xs, j + 1, o, o', h, e => by
    have := total_set xs j o o' (by simpa using h) e
    simp [total] at *
    exact this
theorem ob_at {m : Sm} {v : V} (hv : okRef m v = true) : m.objs[v.2.toNat]? = some (m.ob v) := by
  obtain ⟨h1, h2, h3⟩ := okRef_iff.1 hv
  have hlt : v.2.toNat < m.objs.length := by omega
  simp [Sm.ob, List.getD_eq_getElem?_getD, hlt]
theorem Inv.set {m : Sm} (h : Inv m) (v : V) (i : Int) (x : V) : Inv (m.set v i x).2 := by
  unfold Sm.set
  split
  · rename_i hv
    split
    · split
      · refine ⟨?_, h.le, h.lim⟩
        have hv' : okRef m v = true := hv
        have : total (m.objs.set v.2.toNat (setOb (m.ob v) i.toNat x)) = total m.objs := total_set _ _ _ _ (ob_at hv') (by simp [setOb, Ob.cells])
        simp only [setOb] at this
        simp only [this]
        exact h.sum
      · exact h
    · exact h
  · exact h
theorem eqV (a b : V) : aBin .eql (.cells [.int, .int]) (vV a) (vV b) = some (.bool (decide (a = b))) := by
  obtain ⟨a1, a2⟩ := a
  obtain ⟨b1, b2⟩ := b
  simp [aBin, aEqK, sameCells, sameCell]
theorem neV (a b : V) : aBin .neq (.cells [.int, .int]) (vV a) (vV b) = some (.bool (!decide (a = b))) := by
  obtain ⟨a1, a2⟩ := a
  obtain ⟨b1, b2⟩ := b
  simp [aBin, aEqK, sameCells, sameCell]
end Go.Proofs.Ytngldjajfpbmbaa.A

set_option linter.unusedVariables false
set_option linter.unusedSimpArgs false
namespace Go.Proofs.Ytngldjajfpbmbaa.A
open Go Go.Abs

/-- Symbol. -/
def Sm.sym (m : Sm) (s : ByteArray) : (V × Int) × Sm :=
  if s.size = 0 ∨ 64 < s.size then (((0, 0), 1), m) else match m.names.findIdx? (fun t => decide (s = t)) with
    | some i => (((6, (i : Int)), 0), m)
    | none => (((6, (m.names.length : Int)), 0), ⟨m.lim, m.used, m.objs, m.names ++ [s]⟩)
theorem mapGet_zip (s : ByteArray) : ∀ (ns : List ByteArray) (k : Nat), mapGet ((ns.zipIdx k).map fun x => (Value.string x.1, Value.int .i64 (x.2 : Nat))) s = some ((ns.findIdx? fun t => decide (s = t)).map fun i => Value.int .i64 ((i + k : Nat) : Int))
  | [], k => rfl
  | n :: ns, k => by
    simp only [List.zipIdx_cons, List.map_cons, mapGet, ba_beq, List.findIdx?_cons]
    by_cases h : s = n
    · simp [h]
    · simp only [decide_eq_false h, Bool.false_eq_true, if_false]
      rw [mapGet_zip s ns (k + 1)]
      cases ns.findIdx? fun t => decide (s = t) with
      | none => rfl
      | some i => simp; omega
theorem mapPut_zip (s : ByteArray) : ∀ (ns : List ByteArray) (k : Nat) (x : Value), (ns.findIdx? fun t => decide (s = t)) = none → mapPut ((ns.zipIdx k).map fun x => (Value.string x.1, Value.int .i64 (x.2 : Nat))) s x = some (((ns.zipIdx k).map fun x => (Value.string x.1, Value.int .i64 (x.2 : Nat))) ++ [(.string s, x)])
  | [], k, x, _ => rfl
  | n :: ns, k, x, h => by
    have hne : ¬ s = n := by
      rintro rfl
      simp at h
    have h' : (ns.findIdx? fun t => decide (s = t)) = none := by
      rw [List.findIdx?_eq_none_iff] at h ⊢
      intro t ht
      exact h t (by simp [ht])
    simp only [List.zipIdx_cons, List.map_cons, mapPut, ba_beq, decide_eq_false hne, Bool.false_eq_true, if_false]
    rw [mapPut_zip s ns (k + 1) x h']
    rfl
theorem entries_get (s : ByteArray) (ns : List ByteArray) : mapGet (entries ns) s = some ((ns.findIdx? fun t => decide (s = t)).map fun (i : Nat) => Value.int .i64 (i : Int)) := mapGet_zip s ns 0
theorem entries_put (s : ByteArray) (ns : List ByteArray) (h : (ns.findIdx? fun t => decide (s = t)) = none) : mapPut (entries ns) s (.int .i64 ns.length) = some (entries (ns ++ [s])) := by
  have := mapPut_zip s ns 0 (.int .i64 ns.length) h
  have e : entries (ns ++ [s]) = entries ns ++ [(.string s, .int .i64 ns.length)] := by simp [entries, List.zipIdx_append]
  rw [e]
  exact this

theorem c23 {H : AHeap} {p : Nat} {m : Sm} {F : Nat → Prop} (h : St H p m F) (hn : m.names.length ≤ 1048576) (s : ByteArray) (hs : s.size ≤ maxLen) :
    ACalls Try.prog 23 [Pt p, .string s] H fun r H' => r = .tuple #[vV (m.sym s).1.1, .int .i64 (m.sym s).1.2] ∧ ∃ F', St H' p (m.sym s).2 F' ∧ Fr F H F' H' := by
  refine S23_calls ?_
  unfold S23
  have hpl := h.lt p h.fp
  have hk1 : ∀ x, Keep H.next H (H.alloc x) := fun x => (Keep.refl _ _).alloc (Nat.le_refl _) _
  have hk2 : ∀ x y, Keep H.next H ((H.alloc x).upd H.next y) := fun x y => (hk1 x).upd (Nat.le_refl _) _
  have hz : (s = ⟨#[]⟩) ↔ s.size = 0 := by
    constructor
    · rintro rfl; rfl
    · intro h0; cases s; simp [ByteArray.size] at h0; simp [h0]
  by_cases h0 : s.size = 0
  · have hb : (s == ⟨#[]⟩) = true := by rw [ba_beq, decide_eq_true (hz.2 h0)]
    have e : m.sym s = (((0, 0), 1), m) := by unfold Sm.sym; rw [if_pos (.inl h0)]
    rw [e]
    simp [hb, at_alloc, at_upd]
    exact ⟨F, h.kept (hk2 _ _), Fr.keep (hk2 _ _)⟩
  have hb : (s == ⟨#[]⟩) = false := by rw [ba_beq, decide_eq_false (fun e => h0 (hz.1 e))]
  by_cases h64 : 64 < s.size
  · have h64' : (64 : Int) < s.size := by omega
    have e : m.sym s = (((0, 0), 1), m) := by unfold Sm.sym; rw [if_pos (.inr h64)]
    rw [e]
    simp [hb, h64, h64', at_alloc, at_upd]
    exact ⟨F, h.kept (hk2 _ _), Fr.keep (hk2 _ _)⟩
  have h64' : ¬ (64 : Int) < s.size := by omega
  have e : m.sym s = (match m.names.findIdx? (fun t => decide (s = t)) with
    | some i => (((6, (i : Int)), 0), m)
    | none => (((6, (m.names.length : Int)), 0), ⟨m.lim, m.used, m.objs, m.names ++ [s]⟩)) := by unfold Sm.sym; rw [if_neg (by omega)]
  obtain ⟨A, os, NA, mb, hX⟩ := id h
  have hml := hX.lt mb hX.fm
  have hne : p ≠ H.next := by omega
  have hnem : mb ≠ H.next := by omega
  cases hf : m.names.findIdx? (fun t => decide (s = t)) with
  | some i =>
    rw [hf] at e
    simp only at e
    rw [e]
    simp [hb, h64, h64']
    unfold S23_64
    simp [at_alloc, hne, hX.hp, aLookup, hnem, hX.map, entries_get, hf, found]
    rw [aJoin_eq]
    simp
    unfold S23_63
    simp [at_alloc, at_upd]
    exact ⟨F, h.kept (hk2 _ _), Fr.keep (hk2 _ _)⟩
  | none =>
    rw [hf] at e
    simp only at e
    rw [e]
    simp [hb, h64, h64']
    unfold S23_64
    simp [at_alloc, hne, hX.hp, aLookup, hnem, hX.map, entries_get, hf, found]
    rw [aJoin_eq]
    simp
    unfold S23_62
    have w1 := wrap64 (x := (m.names.length : Int)) (by omega) (by omega)
    have hpm : p ≠ mb := by
      rintro rfl
      have := hX.map
      rw [hX.hp] at this
      cases this
    have hml2 : H.next ≠ mb ∧ H.next ≠ p := by omega
    simp [at_alloc, at_upd, hne, hX.hp, aMapUpd, hnem, hX.map, entries_put s _ hf, hpm]
    obtain ⟨G, hG⟩ : ∃ X, X = (H.alloc (.cells [.int .i64 0, .int .i64 0] .var 28)).upd mb (.map (entries (m.names ++ [s]))) := ⟨_, rfl⟩
    simp only [← hG]
    have hnG : G.next = H.next + 1 := by rw [hG]; simp
    have gat : ∀ b, b < H.next → b ≠ mb → G.at_ b = H.at_ b := by
      intro b hb hbm
      rw [hG, AHeap.at_upd_ne _ _ hbm, AHeap.at_alloc_ne _ _ (by omega)]
    have gm : G.at_ mb = .map (entries (m.names ++ [s])) := by rw [hG]; simp
    have g4 : G.at_ H.next = .cells [.int .i64 0, .int .i64 0] .var 28 := by rw [hG, AHeap.at_upd_ne _ _ hml2.1]; simp
    clear hG
    have rowm : ∀ (c : Nat) (ds : List Value) (u : Use) (t : TypeId), H.at_ c = .cells ds u t → c ≠ mb := by
      rintro c ds u t hc rfl
      rw [hX.map] at hc
      cases hc
    have hO : Ow 1 eS 9 0 G NA m.names := hX.names.at (by omega) fun x hx => by
      obtain ⟨_, _, hx2, ds, hds⟩ := hX.names.blkOf hx
      exact gat _ hx2 (rowm _ _ _ _ hds)
    have hR : Rd 1 eS (G.next + 1) (G.alloc (.cells [.string s] (.row 1) 9)) (some ⟨G.next, 0, none⟩) [s] := Rd.mk' (by simp) (by omega) (AHeap.at_alloc_new _ _) (by simp) (by simp) (by simp)
    have := (hO.alloc (.cells [.string s] (.row 1) 9)).append (bytes := 16) (c := m.names.length) (c' := 1) (K := fun t49_57 H_58 =>
      bnd (Option.map (H_58.upd p) (blkSt 1 (H_58.at_ p) 3 (vcells t49_57))) fun H_61 => S23_63 (fun r H' => r = Value.tuple #[vV (6, ↑m.names.length), Value.int IntKind.i64 0] ∧ ∃ F', St H' p { lim := m.lim, used := m.used, objs := m.objs, names := m.names ++ [s] } F' ∧ Fr F H F' H') (Pt H.next) [Value.int IntKind.i64 ↑m.names.length] H_61) hR (Nat.zero_le _) (by simp only [maxLen, List.length_singleton]; omega) (by simp only [List.length_singleton]; omega) fun H' h1 h2 h3 _ => by
      simp at h1 h2 h3
      have hat : ∀ b, b < H.next → b ≠ mb → (∀ x, NA = some x → x.block ≠ b) → H'.at_ b = H.at_ b := by
        intro b hb hbm hN
        rw [h3 b (by omega) (fun o s hh => hN _ hh rfl), AHeap.at_alloc_ne _ _ (by omega)]
        exact gat b hb hbm
      have notN : ∀ (c : Nat) (ds : List Value) (u : Use) (t : TypeId), H.at_ c = .cells ds u t → t ≠ 9 → ∀ x, NA = some x → x.block ≠ c := by
        rintro c ds u t hc ht x hx rfl
        obtain ⟨_, _, _, es, hes⟩ := hX.names.blkOf hx
        rw [hc] at hes
        cases hes
        exact ht rfl
      have e1 : H'.at_ p = .cells [.int .i64 m.lim, .int .i64 m.used, .slice A m.objs.length m.objs.length, .slice NA m.names.length m.names.length, .map (some mb)] .var 88 := by
        rw [hat p hpl hpm (notN _ _ _ _ hX.hp (by decide))]; exact hX.hp
      have nN : ∀ x, NA = some x → x.block < H.next := fun x hx => (hX.names.blkOf hx).2.2.1
      have e4 : H'.at_ H.next = .cells [.int .i64 0, .int .i64 0] .var 28 := by
        rw [h3 _ (by omega) (fun o s hh => by have := nN _ hh; dsimp only at this; omega), AHeap.at_alloc_ne _ _ (by omega)]; exact g4
      have em : H'.at_ mb = .map (entries (m.names ++ [s])) := by
        rw [h3 _ (by omega) (fun o s hh => by
          have := hX.names.blkOf hh
          obtain ⟨_, _, _, ds, hds⟩ := this
          have := rowm _ _ _ _ hds
          exact absurd rfl this), AHeap.at_alloc_ne _ _ (by omega)]; exact gm
      unfold S23_63
      simp [e1, e4, at_upd, hml2, hne]
      have un : ∀ x y c, c ≠ p → c ≠ H.next → ((H'.upd p x).upd H.next y).at_ c = H'.at_ c := fun x y c hc hc2 => by rw [AHeap.at_upd_ne _ _ hc2, AHeap.at_upd_ne _ _ hc]
      have rowp : ∀ (c : Nat) (ds : List Value) (n : Nat) (t : TypeId), H.at_ c = .cells ds (.row n) t → c ≠ p := by
        rintro c ds n t hc rfl
        rw [hX.hp] at hc
        cases hc
      refine ⟨fun b => F b ∨ b = G.next + 1, ⟨A, os, some ⟨G.next + 1, 0, none⟩, mb, ?_⟩, ⟨by simp; omega, fun b hb hf => ?_, fun b hb => ?_⟩⟩
      · refine ⟨hX.len, ?_, ?_, ?_, hX.dist, ?_, ?_, .inl hX.fp, fun a ha => .inl (hX.fA a ha), fun i a ha => .inl (hX.fo i a ha), fun a ha => by cases ha; exact .inr rfl, .inl hX.fm, ?_⟩
        · simp [at_upd, hne]
        · refine hX.objs.at (by simp; omega) fun x hx => ?_
          obtain ⟨_, _, hx2, ds, hds⟩ := hX.objs.blkOf hx
          rw [un _ _ _ (rowp _ _ _ _ hds) (by omega)]
          exact hat _ hx2 (rowm _ _ _ _ hds) (notN _ _ _ _ hds (by decide))
        · intro i o a ho ha
          refine (hX.slots i o a ho ha).at (by simp; omega) fun x hx => ?_
          obtain ⟨_, _, hx2, ds, hds⟩ := (hX.slots i o a ho ha).blkOf hx
          rw [un _ _ _ (rowp _ _ _ _ hds) (by omega)]
          exact hat _ hx2 (rowm _ _ _ _ hds) (notN _ _ _ _ hds (by decide))
        · have h1' : Ow 1 eS 9 0 H' (some ⟨G.next + 1, 0, none⟩) (m.names ++ [s]) := h1
          refine h1'.at (Nat.le_refl _) fun x hx => ?_
          cases hx
          exact un _ _ _ (by show G.next + 1 ≠ p; omega) (by show G.next + 1 ≠ H.next; omega)
        · rw [un _ _ _ (Ne.symm hpm) (by omega)]; exact em
        · rintro b (hb | rfl)
          · have := hX.lt b hb; simp; omega
          · simp; omega
      · rw [un _ _ b (by rintro rfl; exact hf hX.fp) (by omega)]
        exact hat b hb (by rintro rfl; exact hf hX.fm) fun x hx => by rintro rfl; exact hf (hX.fN x hx)
      · rcases hb with hb | rfl
        · exact .inl hb
        · exact .inr (by omega)
    rw [hnG, List.length_singleton] at this
    exact this

/-- Name. -/
def Sm.nameOf (m : Sm) (v : V) : ByteArray × Int := if v.1 = 6 ∧ m.sound v = true then (m.names.getD v.2.toNat ⟨#[]⟩, 0) else (⟨#[]⟩, 10)
theorem c24 {H : AHeap} {p : Nat} {m : Sm} {F : Nat → Prop} (h : St H p m F) (v : V) : ACalls Try.prog 24 [Pt p, vV v] H fun r H' => r = .tuple #[.string (m.nameOf v).1, .int .i64 (m.nameOf v).2] ∧ H' = H := by
  refine ACalls.eq' (S24_calls ?_) (vin_two (.plain rfl) (.plain rfl))
  obtain ⟨A, os, NA, mb, hX⟩ := id h
  unfold S24
  have hk : ∀ x, Keep H.next H (H.alloc x) := fun x => (Keep.refl _ _).alloc (Nat.le_refl _) _
  have hne : p ≠ H.next := hX.ne
  simp
  unfold S24_35
  obtain ⟨t, n⟩ := v
  by_cases h6 : t = 6
  · subst h6
    simp
    refine (c30 (h.kept (hk _)) (6, n)).use ?_
    cases hs : m.sound (6, n) with
    | false => simp [Sm.nameOf, hs, hk]
    | true =>
      have hs' : 0 ≤ n ∧ n < m.names.length := by simpa [Sm.sound] using hs
      simp
      unfold S24_34
      have hN : Ow 1 eS 9 0 (H.alloc (.cells [.int .i64 6, .int .i64 n] .var 28)) NA m.names := hX.names.kept (hk _)
      have i1 := hN.rd.idx (k := .i64) (j := n) (c := m.names.length) hs'.1 hs'.2
      have hlt : n.toNat < m.names.length := by omega
      have l1 := hN.rd.ld (enc := Value.string) hlt
      have l2 : aLdCell (.pointer (some ⟨p, 3, none⟩)) (H.alloc (.cells [.int .i64 6, .int .i64 n] .var 28)) = some (.slice NA m.names.length m.names.length) := by simp [at_alloc, hne, hX.hp]
      have l3 : aLdCell (.pointer (some ⟨H.next, 1, none⟩)) (H.alloc (.cells [.int .i64 6, .int .i64 n] .var 28)) = some (.int .i64 n) := by simp
      simp [l2, l3, i1, l1, -aLdCell_ptr, Sm.nameOf, hs, hk, hlt]
  · simp [h6, Sm.nameOf, hk]
end Go.Proofs.Ytngldjajfpbmbaa.A
