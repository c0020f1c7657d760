/- Contracts of functions that the statement reaches; each theorem carries its own conditions, the last theorem of the claim has none. -/
import Derived.Test.YtngldjajfpbmbaaS4
set_option linter.unusedVariables false
set_option linter.unusedSimpArgs false
namespace Go.Proofs.Ytngldjajfpbmbaa.A
open Go Go.Abs

def total (os : List Ob) : Nat := (os.map Ob.cells).sum
structure Inv (m : Sm) : Prop where
  sum : m.used = (total m.objs : Nat)
  le : m.used ≤ m.lim
  lim : m.lim ≤ 1048576
theorem total_append (xs ys : List Ob) : total (xs ++ ys) = total xs + total ys := by simp [total]
theorem cells_pos (o : Ob) : 1 ≤ o.cells := by unfold Ob.cells; split <;> omega
theorem length_le_total : ∀ os : List Ob, os.length ≤ total os
  | [] => by simp [total]
  | o :: os => by have := length_le_total os; have := cells_pos o; simp [total] at *; omega
theorem Inv.len {m : Sm} (h : Inv m) : m.objs.length ≤ 1048576 := by
  have := length_le_total m.objs
  have := h.sum
  have := h.le
  have := h.lim
  omega
def Sm.put (m : Sm) (o : Ob) : Sm := ⟨m.lim, m.used + o.cells, m.objs ++ [o], m.names⟩

theorem StX.put {H H' : AHeap} {p : Nat} {m : Sm} {F : Nat → Prop} {A : Option Addr} {os : List (Option Addr)} {NA : Option Addr} {mb : Nat} (h : StX H p m F A os NA mb) {o : Ob} {a : Option Addr}
    (ho : Ow 2 eV 28 0 H a o.slots) (hf : ∀ x, a = some x → ¬ F x.block) (hn : H.next ≤ H'.next) (hat : ∀ b, b < H.next → b ≠ p → (∀ x, A = some x → x.block ≠ b) → H'.at_ b = H.at_ b) {N : Nat} (hN : H.next ≤ N) (hN' : N < H'.next)
    (hp : H'.at_ p = .cells [.int .i64 m.lim, .int .i64 (m.used + o.cells), .slice (some ⟨N, 0, none⟩) (m.objs.length + 1) (m.objs.length + 1), .slice NA m.names.length m.names.length, .map (some mb)] .var 88)
    (hO : Ow 10 encO 94 0 H' (some ⟨N, 0, none⟩) (m.objs.zip os ++ [(o, a)])) : St H' p (m.put o) (fun b => F b ∨ (∃ x, a = some x ∧ x.block = b) ∨ b = N) := by
  have hrow : ∀ (cs : List Value) (n : Nat) (t : TypeId) (b : Nat), H.at_ b = .cells cs (.row n) t → n ≠ 10 → b ≠ p ∧ ∀ x, A = some x → x.block ≠ b := by
    intro cs n t b hb hn10
    refine ⟨?_, ?_⟩
    · rintro rfl
      rw [h.hp] at hb
      cases hb
    · rintro x rfl e
      rcases h.objs.2 with ⟨h1, _⟩ | ⟨c, ds, h1, _, _, h2, _⟩
      · cases h1
      · cases h1
        rw [← e, h2] at hb
        cases hb
        exact hn10 rfl
  have hlen := h.len
  have hlta : ∀ x, a = some x → x.block < H.next := by
    rintro x rfl
    rcases ho.2 with ⟨h1, _⟩ | ⟨c, ds, h1, _, h3, _⟩
    · cases h1
    · cases h1; exact h3
  have hrow2 : ∀ {b : Option Addr} {xs : List V}, Ow 2 eV 28 0 H b xs → Ow 2 eV 28 0 H' b xs := by
    intro b xs hb
    refine hb.at hn ?_
    rintro x rfl
    rcases hb.2 with ⟨h1, _⟩ | ⟨c, ds, h1, _, h3, h4, _⟩
    · cases h1
    · cases h1
      have := hrow _ _ _ _ h4 (by omega)
      exact hat _ h3 this.1 this.2
  refine ⟨some ⟨N, 0, none⟩, os ++ [a], NA, mb, ?_⟩
  refine ⟨by simp [Sm.put, hlen], ?_, ?_, ?_, ?_, ?_, ?_, .inl h.fp, ?_, ?_, ?_, .inl h.fm, ?_⟩
  · simpa [Sm.put] using hp
  · have e : (m.put o).objs.zip (os ++ [a]) = m.objs.zip os ++ [(o, a)] := by simp only [Sm.put]; rw [List.zip_append hlen.symm]; rfl
    rw [e]; exact hO
  · intro i o' a' h1 h2
    simp only [Sm.put] at h1
    rw [List.getElem?_append] at h1 h2
    rw [hlen] at h2
    split at h1
    · rename_i hi
      rw [if_pos hi] at h2
      exact hrow2 (h.slots i o' a' h1 h2)
    · rename_i hi
      rw [if_neg hi] at h2
      cases hi' : i - m.objs.length with
      | zero => rw [hi'] at h1 h2; simp at h1 h2; subst h1; subst h2; exact hrow2 ho
      | succ k => rw [hi'] at h1; simp at h1
  · have key : ∀ (i : Nat) (x : Addr), (os ++ [a])[i]? = some (some x) → (i < os.length ∧ os[i]? = some (some x)) ∨ (i = os.length ∧ a = some x) := by
      intro i x hx
      rw [List.getElem?_append] at hx
      split at hx
      · rename_i hi; exact .inl ⟨hi, hx⟩
      · rename_i hi
        cases hi' : i - os.length with
        | zero => rw [hi'] at hx; simp at hx; exact .inr ⟨by omega, hx⟩
        | succ k => rw [hi'] at hx; simp at hx
    intro i j x y hx hy hxy
    rcases key i x hx with ⟨h1, h2⟩ | ⟨h1, h2⟩ <;> rcases key j y hy with ⟨h3, h4⟩ | ⟨h3, h4⟩
    · exact h.dist i j x y h2 h4 hxy
    · exact absurd (hxy ▸ h.fo i x h2) (hf y h4)
    · exact absurd (hxy.symm ▸ h.fo j y h4) (hf x h2)
    · omega
  · refine h.names.at hn ?_
    rintro x rfl
    rcases h.names.2 with ⟨h1, _⟩ | ⟨c, ds, h1, _, h3, h4, _⟩
    · cases h1
    · cases h1
      have := hrow _ _ _ _ h4 (by omega)
      exact hat _ h3 this.1 this.2
  · rw [hat mb (h.lt _ h.fm) ?_ ?_]
    · exact h.map
    · rintro rfl
      have := h.map
      rw [h.hp] at this
      cases this
    · rintro x rfl e
      rcases h.objs.2 with ⟨h1, _⟩ | ⟨c, ds, h1, _, _, h2, _⟩
      · cases h1
      · cases h1
        have := h.map
        rw [← e, h2] at this
        cases this
  · intro x hx
    cases hx
    exact .inr (.inr rfl)
  · intro i x hx
    rw [List.getElem?_append] at hx
    split at hx
    · exact .inl (h.fo i x hx)
    · rename_i hi
      cases hi' : i - os.length with
      | zero => rw [hi'] at hx; simp at hx; exact .inr (.inl ⟨x, hx, rfl⟩)
      | succ k => rw [hi'] at hx; simp at hx
  · intro x hx; exact .inl (h.fN x hx)
  · rintro b (hb | ⟨x, hx, rfl⟩ | rfl)
    · exact Nat.lt_of_lt_of_le (h.lt b hb) hn
    · exact Nat.lt_of_lt_of_le (hlta x hx) hn
    · exact hN'

theorem c41 {H : AHeap} {p : Nat} {m : Sm} {F : Nat → Prop} (h : St H p m F) (hI : Inv m) {o : Ob} {a : Option Addr} (ho : Ow 2 eV 28 0 H a o.slots) (hf : ∀ x, a = some x → ¬ F x.block) (hn : o.slots.length ≤ 1048576) :
    ACalls Try.prog 41 [Pt p, .agg (encO (o, a)).toArray] H fun r H' => if m.lim - m.used < o.cells then r = .tuple #[vV (0, 0), .int .i64 16] ∧ Keep H.next H H' else
      r = .tuple #[vV (7, m.objs.length), .int .i64 0] ∧ H.next ≤ H'.next ∧ (∀ b, b < H.next → ¬ F b → H'.at_ b = H.at_ b) ∧ ∃ F', St H' p (m.put o) F' ∧ ∀ b, F' b → F b ∨ (∃ x, a = some x ∧ x.block = b) ∨ H.next ≤ b := by
  obtain ⟨A, os, NA, mb, h⟩ := h
  refine S41_calls ?_
  unfold S41
  have hsum := hI.sum
  have hle := hI.le
  have hlim := hI.lim
  have hlen := hI.len
  have hc : (o.cells : Int) ≤ 1048577 := by unfold Ob.cells; split <;> omega
  have hc1 := cells_pos o
  have hne := h.ne
  have hne1 : p ≠ H.next + 1 := by have := h.lt p h.fp; omega
  have hne2 : p ≠ H.next + 2 := by have := h.lt p h.fp; omega
  have w1 := wrap64 (x := m.lim - m.used) (by omega) (by omega)
  have w2 := wrap64 (x := m.used + o.cells) (by omega) (by omega)
  have w3 := wrap64 (x := (m.objs.length : Int)) (by omega) (by omega)
  simp [encO, at_alloc, hne, hne1, h.hp, w1]
  refine (c45 (q := H.next) (o := 0) (x := (o, a)) (k := .var) (t := 94) (cs := encO (o, a)) ?_ (fun j _ => by rw [Nat.zero_add]) hn).use ?_
  · simp [at_alloc, encO]
  unfold S41_49
  simp [at_alloc, hne, hne1, h.hp]
  by_cases hfull : m.lim - m.used < o.cells
  · simp [hfull, at_alloc, at_upd]
    exact (((Keep.refl _ _).alloc (Nat.le_refl _) _).alloc (by simp) _).upd (by omega) _
  · simp [hfull, at_alloc, hne, hne1, h.hp]
    refine (c45 (q := H.next) (o := 0) (x := (o, a)) (k := .var) (t := 94) (cs := encO (o, a)) ?_ (fun j _ => by rw [Nat.zero_add]) hn).use ?_
    · simp [at_alloc, encO]
    unfold S41_46
    have hne3 := hne.symm
    simp [at_alloc, at_upd, hne, hne1, hne2, hne3, h.hp, w2, encO]
    simp only [aNilCheck_ptr, aAdd_ptr, aLdCell_ptr, bnd_some', vcells_agg, AHeap.next_alloc]
    have hAp : ∀ x, A = some x → x.block ≠ p := by
      rintro x rfl e
      rcases h.objs.2 with ⟨h1, _⟩ | ⟨c, ds, h1, _, _, h2, _⟩
      · cases h1
      · cases h1
        have := h.hp
        rw [← e, h2] at this
        cases this
    have key : ∀ (G : AHeap) (K : Value → AHeap → Prop), G.next = H.next + 3 → (∀ b, b < H.next → b ≠ p → G.at_ b = H.at_ b) → G.at_ (H.next + 1 + 1) = .cells (encO (o, a)) (.row 10) 94 →
        (∀ G', G'.next = H.next + 4 → Ow 10 encO 94 0 G' (some ⟨H.next + 3, 0, none⟩) (m.objs.zip os ++ [(o, a)]) → (∀ b, b < H.next + 3 → (∀ x, A = some x → x.block ≠ b) → G'.at_ b = G.at_ b) → K (.slice (some ⟨H.next + 3, 0, none⟩) (m.objs.length + 1) (m.objs.length + 1)) G') →
        aAppend 10 168 94 (.slice A m.objs.length m.objs.length) (.slice (some ⟨H.next + 1 + 1, 0, none⟩) 1 1) G K := by
      intro G K hGn hG hG2 hk
      have hO : Ow 10 encO 94 0 G A (m.objs.zip os) := h.objs.at (by omega) fun x hx => hG _ (h.lt _ (h.fA x hx)) (hAp x hx)
      have hR : Rd 10 encO G.next G (some ⟨H.next + 1 + 1, 0, none⟩) [(o, a)] := Rd.mk' (by simp [encO]) (by omega) hG2 (by simp) (by simp) (by simp [encO])
      have hz := h.zlen
      have := hO.append (c := m.objs.length) (c' := 1) (bytes := 168) (K := K) hR (Nat.zero_le _) (by rw [hz]; simp only [maxLen, List.length_singleton]; omega) (by rw [hz]; simp only [List.length_singleton]; omega) fun G' h1 h2 h3 _ => by
        rw [hGn] at h1 h2 h3
        rw [hGn, List.length_append, hz, List.length_singleton]
        refine hk G' h2 h1 fun b hb hA => h3 b hb fun o s hh => hA _ hh rfl
      rwa [hz, List.length_singleton] at this
    refine key _ _ (by simp) (fun b hb hbp => ?_) ?_ fun G' hn' hO' hat' => ?_
    · have : b ≠ H.next ∧ b ≠ H.next + 1 ∧ b ≠ H.next + 2 := by omega
      simp [at_alloc, at_upd, this, hbp]
    · simp [at_alloc, encO]
    · have hpl := h.lt p h.fp
      have e1 : G'.at_ p = .cells [.int .i64 m.lim, .int .i64 (m.used + o.cells), .slice A m.objs.length m.objs.length, .slice NA m.names.length m.names.length, .map (some mb)] .var 88 := by
        rw [hat' p (by omega) hAp]
        simp [at_alloc, at_upd, hne, hne1, hne2]
      have e2 : G'.at_ (H.next + 1) = .cells [.int .i64 0, .int .i64 0] .var 28 := by
        rw [hat' _ (by omega) (fun x hx => by have := h.lt _ (h.fA x hx); omega)]
        simp [at_alloc, at_upd, hne1.symm]
      have e3 : ∀ b, b < H.next → b ≠ p → (∀ x, A = some x → x.block ≠ b) → G'.at_ b = H.at_ b := by
        intro b hb hbp hbA
        rw [hat' b (by omega) hbA]
        have : b ≠ H.next ∧ b ≠ H.next + 1 ∧ b ≠ H.next + 2 := by omega
        simp [at_alloc, at_upd, this, hbp]
      clear hat'
      simp [e1, e2, at_upd, hne1.symm, w3]
      refine ⟨by omega, by omega, fun b hb hF => ?_, ?_⟩
      · have g1 : b ≠ H.next + 1 := by omega
        have g2 : b ≠ p := by rintro rfl; exact hF h.fp
        simp [g1, g2]
        exact e3 b hb g2 fun x hx e => hF (e ▸ h.fA x hx)
      · refine ⟨_, h.put (o := o) (a := a) (N := H.next + 3) ho hf ?_ ?_ (by omega) ?_ ?_ ?_, ?_⟩
        · simp; omega
        · intro b hb hbp hbA
          have g1 : b ≠ H.next + 1 := by omega
          simp [at_upd, g1, hbp]
          exact e3 b hb hbp hbA
        · simp; omega
        · simp [at_upd, hne1]
        · refine hO'.at (by simp) ?_
          rintro x hx
          cases hx
          have g1 : H.next + 3 ≠ p := by omega
          simp [at_upd, g1]
        · rintro b (hb | hb | rfl)
          · exact .inl hb
          · exact .inr (.inl hb)
          · exact .inr (.inr (by omega))
end Go.Proofs.Ytngldjajfpbmbaa.A
