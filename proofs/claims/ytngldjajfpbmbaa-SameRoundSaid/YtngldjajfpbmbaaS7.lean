/- Contracts of functions that the statement reaches; each theorem carries its own conditions, the last theorem of the claim has none. -/
import Derived.Test.YtngldjajfpbmbaaS6
set_option linter.unusedVariables false
set_option linter.unusedSimpArgs false
namespace Go.Proofs.Ytngldjajfpbmbaa.A
open Go Go.Abs

theorem setCells_app_r (a : List Value) : ∀ (vs b : List Value) (o : Nat), setCells (a ++ b) (a.length + o) vs = a ++ setCells b o vs
  | [], b, o => by simp
  | v :: vs, b, o => by
    simp only [setCells_cons]
    rw [List.set_append_right _ _ (by omega), show a.length + o - a.length = o by omega, show a.length + o + 1 = a.length + (o + 1) by omega]
    exact setCells_app_r a vs _ _
theorem setCells_app_l (b : List Value) : ∀ (vs a : List Value) (o : Nat), o + vs.length ≤ a.length → setCells (a ++ b) o vs = setCells a o vs ++ b
  | [], a, o, _ => by simp
  | v :: vs, a, o, h => by
    simp only [setCells_cons]
    simp at h
    rw [List.set_append_left _ _ (by omega)]
    exact setCells_app_l b vs _ _ (by simp; omega)
theorem setCells_flat {α : Type} {enc : α → List Value} {n k : Nat} {vs : List Value} {y : α} (hkl : k + vs.length ≤ n) : ∀ (xs : List α) (j : Nat) (hj : j < xs.length), (∀ x ∈ xs, (enc x).length = n) → enc y = setCells (enc xs[j]) k vs →
    setCells (xs.flatMap enc) (j * n + k) vs = (xs.set j y).flatMap enc
  | [], j, hj, _, _ => by simp at hj
  | x :: xs, 0, _, hl, hy => by
    simp only [Nat.zero_mul, Nat.zero_add, List.flatMap_cons, List.set_cons_zero]
    rw [setCells_app_l _ _ _ _ (by rw [hl x (by simp)]; exact hkl)]
    simp at hy
    rw [hy]
  | x :: xs, j + 1, hj, hl, hy => by
    simp only [List.flatMap_cons, List.set_cons_succ]
    rw [show (j + 1) * n + k = (enc x).length + (j * n + k) by rw [hl x (by simp), Nat.add_mul]; omega, setCells_app_r]
    rw [setCells_flat hkl xs j (by simpa using hj) (fun z hz => hl z (by simp [hz])) (by simpa using hy)]
theorem setCells_take {cs vs : List Value} {o N : Nat} (h : o + vs.length ≤ N) (hN : N ≤ cs.length) : (setCells cs o vs).take N = setCells (cs.take N) o vs := by
  conv => lhs; rw [← List.take_append_drop N cs]
  rw [setCells_app_l _ _ _ _ (by rw [List.length_take, Nat.min_eq_left hN]; exact h)]
  rw [List.take_append_of_le_length (by rw [setCells_length, List.length_take, Nat.min_eq_left hN]; exact Nat.le_refl _)]
  rw [List.take_of_length_le]
  rw [setCells_length, List.length_take, Nat.min_eq_left hN]
  exact Nat.le_refl _
/-- A part of an element is set. -/
theorem _root_.Go.Abs.Ow.st {α : Type} {n : Nat} {enc : α → List Value} {e : TypeId} {lo : Nat} {H : AHeap} {A : Option Addr} {xs : List α} (h : Ow n enc e lo H A xs) {j k l off : Nat} {v : Value} {y : α} (hj : j < xs.length)
    (ho : off = j * n + k) (hv : (vcells v).length = l) (hok : (vcells v).all okCell = true) (hkl : k + l ≤ n) (hy : enc y = setCells (enc xs[j]) k (vcells v)) :
    ∃ b, A = some ⟨b, 0, none⟩ ∧ lo ≤ b ∧ b < H.next ∧ ∃ x, aSt l (.pointer (some ⟨b, off, none⟩)) v H = some (H.upd b x) ∧ Ow n enc e lo (H.upd b x) A (xs.set j y) ∧ ∃ cs, H.at_ b = .cells cs (.row n) e := by
  rcases h.2 with ⟨_, rfl⟩ | ⟨b, cs, rfl, h2, h3, h4, h5, h6⟩
  · simp at hj
  · have hb : (j + 1) * n ≤ xs.length * n := Nat.mul_le_mul_right _ hj
    rw [Nat.add_mul] at hb
    have hoff : off + l ≤ xs.length * n := by omega
    subst hv
    refine ⟨b, rfl, h2, h3, .cells (setCells cs off (vcells v)) (.row n) e, ?_, ⟨?_, .inr ⟨b, _, rfl, h2, h3, AHeap.at_upd_same _ _ _, ?_, ?_⟩⟩, cs, h4⟩
    · rw [aSt_ptr, h4, blkSt_cells, if_pos ⟨rfl, rfl, by omega, hok⟩]
      rfl
    · intro z hz
      rcases List.mem_or_eq_of_mem_set hz with hz | rfl
      · exact h.1 z hz
      · rw [hy, setCells_length]
        exact h.1 _ (List.getElem_mem hj)
    · rw [List.length_set, setCells_length]; exact h5
    · rw [List.length_set, setCells_take hoff h5, h6, ho]
      exact setCells_flat hkl xs j hj h.1 hy
theorem adv_zero (n : Nat) (A : Option Addr) : adv n A 0 = A := by
  cases A with
  | none => rfl
  | some a => simp [adv]
theorem _root_.Go.Abs.Ow.take {α : Type} {n : Nat} {enc : α → List Value} {e : TypeId} {lo : Nat} {H : AHeap} {A : Option Addr} {xs : List α} (h : Ow n enc e lo H A xs) (j : Nat) (hj : j ≤ xs.length) : Ow n enc e lo H A (xs.take j) := by
  refine ⟨fun x hx => h.1 x (List.mem_of_mem_take hx), ?_⟩
  rcases h.2 with ⟨h1, rfl⟩ | ⟨b, cs, rfl, h2, h3, h4, h5, h6⟩
  · exact .inl ⟨h1, by simp⟩
  · have hb : j * n ≤ xs.length * n := Nat.mul_le_mul_right _ hj
    refine .inr ⟨b, cs, rfl, h2, h3, h4, ?_, ?_⟩
    · rw [List.length_take, Nat.min_eq_left hj]; omega
    · have hl : ∀ x ∈ xs.take j, (enc x).length = n := fun x hx => h.1 x (List.mem_of_mem_take hx)
      have e1 := flatMap_length hl
      rw [List.length_take, Nat.min_eq_left hj] at e1 ⊢
      have : cs.take (j * n) = (cs.take (xs.length * n)).take (j * n) := by rw [List.take_take, Nat.min_eq_left hb]
      rw [this, h6]
      conv => lhs; rw [← List.take_append_drop j xs, List.flatMap_append]
      rw [← e1, List.take_left]

abbrev eB (x : Bool) : List Value := [.bool x]
/-- What can be come to. -/
inductive Reach (m : Sm) (roots : List V) : Nat → Prop
  | root {v : V} (h : v ∈ roots) (h7 : v.1 = 7) : Reach m roots v.2.toNat
  | step {i : Nat} {o : Ob} {v : V} (hi : Reach m roots i) (ho : m.objs[i]? = some o) (h : v ∈ o.slots) (h7 : v.1 = 7) : Reach m roots v.2.toNat
def okIx (m : Sm) (v : V) : Prop := v.1 = 7 → 0 ≤ v.2 ∧ v.2 < m.objs.length
/-- All that is held is there. -/
structure Vd (m : Sm) : Prop where
  ok : ∀ o ∈ m.objs, ∀ v ∈ o.slots, okIx m v
  syn : ∀ o ∈ m.objs, o.kind = 10 → o.slots = []
theorem sound_ix {m : Sm} {v : V} (h : m.sound v = true) : okIx m v := by
  intro h7
  have : m.sound v = okRef m v := by unfold Sm.sound; simp [h7]
  rw [this, okRef_iff] at h
  exact h.2
theorem shaped_le {k : Int} {n : Nat} (h : shaped k n = true) : k ≠ 10 := by
  rintro rfl
  simp [shaped] at h
theorem Vd.make {m : Sm} (h : Vd m) (k : Int) (xs : List V) : Vd (m.make k xs).2 := by
  unfold Sm.make
  split
  · rename_i hs
    split
    · rename_i hx
      split
      · exact h
      · rw [List.all_eq_true] at hx
        refine ⟨fun o ho v hv h7 => ?_, fun o ho h10 => ?_⟩
        · simp only [Sm.put, List.length_append, List.length_singleton] at ho ⊢
          rcases List.mem_append.1 ho with ho | ho
          · have := h.ok o ho v hv h7; omega
          · simp at ho
            subst ho
            have := sound_ix (hx v hv) h7; omega
        · simp only [Sm.put] at ho
          rcases List.mem_append.1 ho with ho | ho
          · exact h.syn o ho h10
          · simp at ho
            subst ho
            exact absurd h10 (shaped_le hs)
    · exact h
  · exact h
theorem Vd.new (n : Int) : Vd (Sm.new n) := ⟨by simp [Sm.new], by simp [Sm.new]⟩
def pend : List Ob → List Bool → Nat
  | o :: os, b :: bs => (if b then 0 else 1 + o.slots.length) + pend os bs
  | _, _ => 0
theorem pend_set : ∀ (os : List Ob) (bs : List Bool) (j : Nat) (o : Ob), os[j]? = some o → bs[j]? = some false → pend os (bs.set j true) + (1 + o.slots.length) = pend os bs
  | [], _, _, _, h, _ => by simp at h
  | _ :: _, [], _, _, _, h => by simp at h
  | o' :: os, b :: bs, 0, o, h, h' => by simp at h h'; subst h; subst h'; simp [pend]; omega
  | o' :: os, b :: bs, j + 1, o, h, h' => by
    have := pend_set os bs j o (by simpa using h) (by simpa using h')
    simp [pend]
    omega
theorem pend_le : ∀ (os : List Ob) (bs : List Bool), (∀ o ∈ os, o.kind = 10 → o.slots = []) → pend os bs ≤ total os
  | [], bs, _ => by simp [pend]
  | o :: os, [], _ => by simp [pend]
  | o :: os, b :: bs, h => by
    have := pend_le os bs fun x hx => h x (by simp [hx])
    have h1 : 1 + o.slots.length ≤ o.cells := by
      unfold Ob.cells
      split
      · rename_i hk; rw [h o (by simp) hk]; simp
      · omega
    simp [pend, total] at *
    split <;> omega
theorem getD_set (s : List Bool) (j i : Nat) (hj : j < s.length) : (s.set j true).getD i false = if i = j then true else s.getD i false := by
  rw [List.getD_eq_getElem?_getD, List.getD_eq_getElem?_getD, List.getElem?_set]
  by_cases h : j = i
  · subst h; simp [hj]
  · have : ¬ i = j := fun e => h e.symm
    simp [h, this]
end Go.Proofs.Ytngldjajfpbmbaa.A
