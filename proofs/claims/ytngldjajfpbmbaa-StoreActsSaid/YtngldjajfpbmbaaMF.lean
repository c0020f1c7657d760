/- Contracts of functions that the statement reaches; each theorem carries its own conditions, the last theorem of the claim has none. -/
import Derived.Test.YtngldjajfpbmbaaME
import Derived.Test.YtngldjajfpbmbaaSR
set_option linter.unusedVariables false
set_option linter.unusedSimpArgs false
namespace Go.Proofs.Ytngldjajfpbmbaa.A
open Go Go.Abs

/-! The reference store in memory. -/
structure RX (H : AHeap) (p : Nat) (m : Sm) (F : Nat → Prop) (A : Option Addr) (os : List (Option Addr)) (NA : Option Addr) : Prop where
  len : os.length = m.objs.length
  hp : H.at_ p = .cells [.int .i64 m.lim, .int .i64 m.used, .slice A m.objs.length m.objs.length, .slice NA m.names.length m.names.length] .var 64
  objs : Ow 10 encO 121 0 H A (m.objs.zip os)
  slots : ∀ (i : Nat) (o : Ob) (a : Option Addr), m.objs[i]? = some o → os[i]? = some a → Ow 2 eV 28 0 H a o.slots
  dist : ∀ (i j : Nat) (a b : Addr), os[i]? = some (some a) → os[j]? = some (some b) → a.block = b.block → i = j
  names : Ow 1 eS 9 0 H NA m.names
  fp : F p
  fA : ∀ a, A = some a → F a.block
  fo : ∀ (i : Nat) (a : Addr), os[i]? = some (some a) → F a.block
  fN : ∀ a, NA = some a → F a.block
  lt : ∀ b, F b → b < H.next
def RS (H : AHeap) (p : Nat) (m : Sm) (F : Nat → Prop) : Prop := ∃ A os NA, RX H p m F A os NA

theorem RX.frame {H H' : AHeap} {p : Nat} {m : Sm} {F : Nat → Prop} {A : Option Addr} {os : List (Option Addr)} {NA : Option Addr} (h : RX H p m F A os NA)
    (hn : H.next ≤ H'.next) (hk : ∀ b, F b → H'.at_ b = H.at_ b) : RX H' p m F A os NA where
  len := h.len
  hp := (hk _ h.fp).trans h.hp
  objs := h.objs.at hn fun a ha => hk _ (h.fA a ha)
  slots i o a ho ha := (h.slots i o a ho ha).at hn fun b hb => hk _ (h.fo i b (by rw [ha, hb]))
  dist := h.dist
  names := h.names.at hn fun a ha => hk _ (h.fN a ha)
  fp := h.fp
  fA := h.fA
  fo := h.fo
  fN := h.fN
  lt b hb := Nat.lt_of_lt_of_le (h.lt b hb) hn
theorem RS.frame {H H' : AHeap} {p : Nat} {m : Sm} {F : Nat → Prop} (h : RS H p m F) (hn : H.next ≤ H'.next) (hk : ∀ b, F b → H'.at_ b = H.at_ b) : RS H' p m F := by
  obtain ⟨A, os, NA, h⟩ := h
  exact ⟨A, os, NA, h.frame hn hk⟩
theorem RS.kept {H H' : AHeap} {p : Nat} {m : Sm} {F : Nat → Prop} (h : RS H p m F) (hk : Keep H.next H H') : RS H' p m F := by
  obtain ⟨A, os, NA, hx⟩ := h
  exact ⟨A, os, NA, hx.frame hk.next fun b hb => hk.at_ b (hx.lt b hb)⟩
theorem RS.alloc {H : AHeap} {p : Nat} {m : Sm} {F : Nat → Prop} (h : RS H p m F) (x : Blk) : RS (H.alloc x) p m F := h.kept ((Keep.refl _ _).alloc (Nat.le_refl _) x)
theorem RS.lt {H : AHeap} {p : Nat} {m : Sm} {F : Nat → Prop} (h : RS H p m F) : ∀ b, F b → b < H.next := by
  obtain ⟨A, os, NA, hx⟩ := h
  exact hx.lt
theorem RS.fp {H : AHeap} {p : Nat} {m : Sm} {F : Nat → Prop} (h : RS H p m F) : F p := by
  obtain ⟨A, os, NA, hx⟩ := h
  exact hx.fp
section
variable {H : AHeap} {p : Nat} {m : Sm} {F : Nat → Prop} {A : Option Addr} {os : List (Option Addr)} {NA : Option Addr}
theorem RX.ne (h : RX H p m F A os NA) : p ≠ H.next := Nat.ne_of_lt (h.lt _ h.fp)
theorem RX.zlen (h : RX H p m F A os NA) : (m.objs.zip os).length = m.objs.length := by rw [List.length_zip, h.len, Nat.min_self]
theorem RX.vinA (h : RX H p m F A os NA) (i : Nat) : VIn (fun c => c < H.next) (slot 10 A i) := by
  rcases h.objs.2 with ⟨rfl, _⟩ | ⟨b, cs, rfl, _, hb, _⟩
  · exact .plain rfl
  · exact .ptr hb
theorem RX.idx (h : RX H p m F A os NA) {k : IntKind} {j : Int} {c : Nat} (h0 : 0 ≤ j) (hj : j < m.objs.length) : aIdxAddr 10 (.slice A m.objs.length c) (.int k j) = some (slot 10 A j.toNat) := by
  have := h.objs.rd.idx (k := k) (c := c) h0 (by rw [h.zlen]; exact hj)
  rwa [h.zlen] at this
/-- A part of an object. -/
theorem RX.part (h : RX H p m F A os NA) {i : Nat} {o : Ob} {a : Option Addr} (ho : m.objs[i]? = some o) (ha : os[i]? = some a) : ∃ b, A = some ⟨b, 0, none⟩ ∧ b < H.next ∧ ∃ cs, H.at_ b = .cells cs (.row 10) 121 ∧ i * 10 + 10 ≤ cs.length ∧ (cs.drop (i * 10)).take 10 = encO (o, a) := by
  have hz := zip_at ho ha
  have hlt : i < (m.objs.zip os).length := (List.getElem?_eq_some_iff.1 hz).1
  rcases h.objs.2 with ⟨_, h2⟩ | ⟨b, cs, h1, h2, h3, h4, h5, h6⟩
  · rw [h2] at hlt; simp at hlt
  · refine ⟨b, h1, h3, cs, h4, ?_, ?_⟩
    · have : (i + 1) * 10 ≤ (m.objs.zip os).length * 10 := Nat.mul_le_mul_right _ hlt
      omega
    · have h7 := flatMap_at (f := encO) (n := 10) (fun x _ => rfl) hz
      rw [← h6, List.drop_take, List.take_take] at h7
      rw [← h7]
      congr 1
      have : (i + 1) * 10 ≤ (m.objs.zip os).length * 10 := Nat.mul_le_mul_right _ hlt
      omega
end

section
variable {H : AHeap} {p : Nat} {m : Sm} {F : Nat → Prop} {A : Option Addr} {os : List (Option Addr)} {NA : Option Addr}
/-- The object of a value, where it lies. -/
theorem RX.look (h : RX H p m F A os NA) {v : V} (hv : okRef m v = true) : ∃ a b cs, m.objs[v.2.toNat]? = some (m.ob v) ∧ os[v.2.toNat]? = some a ∧ slot 10 A v.2.toNat = .pointer (some ⟨b, v.2.toNat * 10, none⟩) ∧ b < H.next ∧
    H.at_ b = .cells cs (.row 10) 121 ∧ v.2.toNat * 10 + 10 ≤ cs.length ∧ (∀ k, k < 10 → cs[v.2.toNat * 10 + k]? = (encO (m.ob v, a))[k]?) ∧ Ow 2 eV 28 0 H a (m.ob v).slots := by
  obtain ⟨h1, h2, h3⟩ := okRef_iff.1 hv
  have hlt : v.2.toNat < m.objs.length := by omega
  have ho : m.objs[v.2.toNat]? = some (m.ob v) := by simp [Sm.ob, List.getD_eq_getElem?_getD, hlt]
  have hlt' : v.2.toNat < os.length := by rw [h.len]; exact hlt
  have ha := List.getElem?_eq_getElem hlt'
  obtain ⟨b, hA, hb, cs, hat, hl, hc⟩ := h.part ho ha
  refine ⟨_, b, cs, ho, ha, by rw [hA]; simp [slot], hb, hat, hl, fun k hk => ?_, h.slots _ _ _ ho ha⟩
  rw [← hc, List.getElem?_take, if_pos hk, List.getElem?_drop]
end

theorem c63 {H : AHeap} (n : Int) : ACalls Try.prog 63 [.int .i64 n] H fun r H' => r = .bool (scalar n) ∧ H' = H := by
  refine ACalls.eq (S63_calls ?_) rfl
  unfold S63 scalar
  by_cases h1 : 0 ≤ n
  · by_cases h2 : n ≤ 1114111
    · by_cases h3 : 55296 ≤ n
      · by_cases h4 : n ≤ 57343
        · have h5 : ¬ n < 55296 := by omega
          have h6 : ¬ 57343 < n := by omega
          simp [h1, h2, h3, h4, h5, h6]
        · have h5 : ¬ n < 55296 := by omega
          have h6 : 57343 < n := by omega
          simp [h1, h2, h3, h4, h5, h6]
      · have h5 : n < 55296 := by omega
        simp [h1, h2, h3, h5]
    · have h3 : ¬ n < 55296 := by omega
      simp [h1, h2, h3]
  · have h3 : ¬ 57343 < n := by omega
    simp [h1, h3]
theorem c31 {H : AHeap} {p : Nat} {m : Sm} {F : Nat → Prop} (h : RS H p m F) (v : V) : ACalls Try.prog 31 [Pt p, vV v] H fun r H' => r = .bool (m.sound v) ∧ H' = H := by
  refine ACalls.eq (S31_calls ?_) rfl
  obtain ⟨A, os, NA, h⟩ := h
  have hk : ∀ x, Keep H.next H (H.alloc x) := fun x => (Keep.refl _ _).alloc (Nat.le_refl _) _
  have hp : ∀ x, (H.alloc x).at_ p = H.at_ p := fun x => AHeap.at_alloc_ne _ _ h.ne
  unfold S31
  simp
  rw [aJoin_eq]
  unfold Sm.sound
  have fin : ∀ x, v.1 = 0 ∨ v.1 = 1 ∨ v.1 = 2 ∨ v.1 = 3 ∨ v.1 = 9 → x = Value.bool true → S31_135 (Pt p) (fun r H' => r = .bool (decide (v.2 = 0)) ∧ Keep H.next H H') (.pointer (some ⟨H.next, 0, none⟩)) (.int .i64 v.1) [x] (H.alloc (.cells (eV v) .var 28)) := by
    intro x h5 hx5
    subst hx5
    unfold S31_135
    simp [hk]
  obtain ⟨t, n⟩ := v
  dsimp only at fin ⊢
  by_cases h0 : t = 0
  · subst h0
    simpa using fin _ (by simp) rfl
  by_cases h1 : t = 1
  · subst h1
    simpa using fin _ (by simp) rfl
  by_cases h2 : t = 2
  · subst h2
    unfold S31_134
    simpa using fin _ (by simp) rfl
  by_cases h3 : t = 3
  · subst h3
    unfold S31_134
    simpa using fin _ (by simp) rfl
  by_cases h9 : t = 9
  · subst h9
    unfold S31_134
    simpa using fin _ (by simp) rfl
  simp [h0, h1]
  unfold S31_134
  simp [h2, h3, h9]
  unfold S31_135
  simp
  unfold S31_128
  by_cases h4 : t = 4
  · simp [h4, hk]
  by_cases h5 : t = 5
  · subst h5
    simp
    refine (c63 n).use ?_
    simp [hk]
  simp [h4, h5]
  unfold S31_127
  by_cases h8 : t = 8
  · subst h8
    simp
    unfold S31_126
    have e : (n ≤ 255) ↔ (n < 256) := by omega
    by_cases g1 : 0 ≤ n
    · simp [g1, hk, e]
    · simp [g1, hk]
  by_cases h6 : t = 6
  · subst h6
    simp
    unfold S31_60
    by_cases g1 : 0 ≤ n
    · simp [g1, hk, hp, h.hp]
    · simp [g1, hk]
  by_cases h7 : t = 7
  · subst h7
    simp
    unfold S31_105
    by_cases g1 : 0 ≤ n
    · simp [g1, hk, hp, h.hp, okRef]
    · simp [g1, hk, okRef]
  · simp [h6, h7, h8, hk, okRef]

theorem sound7 {m : Sm} {v : V} (h : v.1 = 7) : m.sound v = okRef m v := by unfold Sm.sound; simp [h]
theorem c52 {H : AHeap} {p : Nat} {m : Sm} {F : Nat → Prop} (h : RS H p m F) (v : V) : ACalls Try.prog 52 [Pt p, vV v] H fun r H' => r = .int .i64 (m.kindOf v) ∧ H' = H := by
  refine ACalls.eq (S52_calls ?_) rfl
  obtain ⟨A, os, NA, hX⟩ := id h
  unfold S52 Sm.kindOf
  have hk : ∀ x, Keep H.next H (H.alloc x) := fun x => (Keep.refl _ _).alloc (Nat.le_refl _) _
  have hp : ∀ x, (H.alloc x).at_ p = H.at_ p := fun x => AHeap.at_alloc_ne _ _ hX.ne
  by_cases h7 : v.1 = 7
  · simp [h7]
    refine (c31 (h.kept (hk _)) (7, v.2)).use ?_
    have e : m.sound (7, v.2) = okRef m v := by rw [sound7 rfl]; simp [okRef, h7]
    cases hv : okRef m v with
    | false => simp [e, hv, hk]
    | true =>
      obtain ⟨a, b, cs, ho, ha, hs, hb, hat, hl, hc, hsl⟩ := hX.look hv
      obtain ⟨_, v0, v1⟩ := okRef_iff.1 hv
      have hne : b ≠ H.next := by omega
      have h0 := hc 0 (by omega)
      simp [encO] at h0
      have i1 := hX.idx (k := .i64) (c := m.objs.length) v0 v1
      simp [e, hv]
      unfold S52_34
      simp [hp, hX.hp, i1, hs, at_alloc, hne, hat, h0, hk]
  · have hv : okRef m v = false := by simp [okRef, h7]
    simp [h7, hv, hk]
/-- The slots, where they lie. -/
theorem c53 {H : AHeap} {p : Nat} {m : Sm} {F : Nat → Prop} (h : RS H p m F) (v : V) : ACalls Try.prog 53 [Pt p, vV v] H fun r H' => (∃ a, r = .slice a (m.slotsOf v).length (m.slotsOf v).length ∧ Ow 2 eV 28 0 H a (m.slotsOf v) ∧ (∀ x, a = some x → F x.block)) ∧ H' = H := by
  obtain ⟨A, os, NA, hX⟩ := id h
  have hk : ∀ x, Keep H.next H (H.alloc x) := fun x => (Keep.refl _ _).alloc (Nat.le_refl _) _
  have hp : ∀ x, (H.alloc x).at_ p = H.at_ p := fun x => AHeap.at_alloc_ne _ _ hX.ne
  refine ACalls.pure (L := fun r => ∃ a, r = .slice a (m.slotsOf v).length (m.slotsOf v).length ∧ Ow 2 eV 28 0 H a (m.slotsOf v) ∧ (∀ x, a = some x → F x.block)) (S53_calls ?_) ?_
  · unfold S53 Sm.slotsOf
    by_cases h7 : v.1 = 7
    · simp [h7]
      refine (c31 (h.kept (hk _)) (7, v.2)).use ?_
      have e : m.sound (7, v.2) = okRef m v := by rw [sound7 rfl]; simp [okRef, h7]
      cases hv : okRef m v with
      | false =>
        simp [e, hv, hk]
        exact Ow.nil _ _ _ _ _
      | true =>
        obtain ⟨a, b, cs, ho, ha, hs, hb, hat, hl, hc, hsl⟩ := hX.look hv
        obtain ⟨_, v0, v1⟩ := okRef_iff.1 hv
        have hne : b ≠ H.next := by omega
        have h0 := hc 1 (by omega)
        simp [encO] at h0
        have i1 := hX.idx (k := .i64) (c := m.objs.length) v0 v1
        simp [e, hv]
        unfold S53_34
        simp [hp, hX.hp, i1, hs, at_alloc, hne, hat, h0, hk]
        exact ⟨hsl, fun x hx => hX.fo _ x (by rw [ha, hx])⟩
    · have hv : okRef m v = false := by simp [okRef, h7]
      simp [h7, hv, hk]
      exact Ow.nil _ _ _ _ _
  · rintro r ⟨a, rfl, hO, _⟩
    rcases hO.2 with ⟨rfl, h2⟩ | ⟨b, cs, rfl, _, hb, _⟩
    · rw [h2]; exact .plain rfl
    · exact .slice hb
end Go.Proofs.Ytngldjajfpbmbaa.A

set_option linter.unusedVariables false
set_option linter.unusedSimpArgs false
namespace Go.Proofs.Ytngldjajfpbmbaa.A
open Go Go.Abs

theorem RX.put {H H' : AHeap} {p : Nat} {m : Sm} {F : Nat → Prop} {A : Option Addr} {os : List (Option Addr)} {NA : Option Addr} (h : RX H p m F A os NA) {o : Ob} {a : Option Addr}
    (ho : Ow 2 eV 28 0 H a o.slots) (hf : ∀ x, a = some x → ¬ F x.block) (hn : H.next ≤ H'.next) (hat : ∀ b, b < H.next → b ≠ p → (∀ x, A = some x → x.block ≠ b) → H'.at_ b = H.at_ b) {N : Nat} (hN : H.next ≤ N) (hN' : N < H'.next)
    (hp : H'.at_ p = .cells [.int .i64 m.lim, .int .i64 (m.used + o.cells), .slice (some ⟨N, 0, none⟩) (m.objs.length + 1) (m.objs.length + 1), .slice NA m.names.length m.names.length] .var 64)
    (hO : Ow 10 encO 121 0 H' (some ⟨N, 0, none⟩) (m.objs.zip os ++ [(o, a)])) : RS H' p (m.put o) (fun b => F b ∨ (∃ x, a = some x ∧ x.block = b) ∨ b = N) := by
  have hrow : ∀ (cs : List Value) (n : Nat) (t : TypeId) (b : Nat), H.at_ b = .cells cs (.row n) t → n ≠ 10 → b ≠ p ∧ ∀ x, A = some x → x.block ≠ b := by
    intro cs n t b hb hn10
    refine ⟨?_, ?_⟩
    · rintro rfl
      rw [h.hp] at hb
      cases hb
    · rintro x rfl e
      rcases h.objs.2 with ⟨h1, _⟩ | ⟨c, ds, h1, _, _, h2, _⟩
      · cases h1
      · cases h1
        rw [← e, h2] at hb
        cases hb
        exact hn10 rfl
  have hlen := h.len
  have hlta : ∀ x, a = some x → x.block < H.next := by
    rintro x rfl
    rcases ho.2 with ⟨h1, _⟩ | ⟨c, ds, h1, _, h3, _⟩
    · cases h1
    · cases h1; exact h3
  have hrow2 : ∀ {b : Option Addr} {xs : List V}, Ow 2 eV 28 0 H b xs → Ow 2 eV 28 0 H' b xs := by
    intro b xs hb
    refine hb.at hn ?_
    rintro x rfl
    rcases hb.2 with ⟨h1, _⟩ | ⟨c, ds, h1, _, h3, h4, _⟩
    · cases h1
    · cases h1
      have := hrow _ _ _ _ h4 (by omega)
      exact hat _ h3 this.1 this.2
  refine ⟨some ⟨N, 0, none⟩, os ++ [a], NA, ?_⟩
  refine ⟨by simp [Sm.put, hlen], ?_, ?_, ?_, ?_, ?_, .inl h.fp, ?_, ?_, ?_, ?_⟩
  · simpa [Sm.put] using hp
  · have e : (m.put o).objs.zip (os ++ [a]) = m.objs.zip os ++ [(o, a)] := by simp only [Sm.put]; rw [List.zip_append hlen.symm]; rfl
    rw [e]; exact hO
  · intro i o' a' h1 h2
    simp only [Sm.put] at h1
    rw [List.getElem?_append] at h1 h2
    rw [hlen] at h2
    split at h1
    · rename_i hi
      rw [if_pos hi] at h2
      exact hrow2 (h.slots i o' a' h1 h2)
    · rename_i hi
      rw [if_neg hi] at h2
      cases hi' : i - m.objs.length with
      | zero => rw [hi'] at h1 h2; simp at h1 h2; subst h1; subst h2; exact hrow2 ho
      | succ k => rw [hi'] at h1; simp at h1
  · have key : ∀ (i : Nat) (x : Addr), (os ++ [a])[i]? = some (some x) → (i < os.length ∧ os[i]? = some (some x)) ∨ (i = os.length ∧ a = some x) := by
      intro i x hx
      rw [List.getElem?_append] at hx
      split at hx
      · rename_i hi; exact .inl ⟨hi, hx⟩
      · rename_i hi
        cases hi' : i - os.length with
        | zero => rw [hi'] at hx; simp at hx; exact .inr ⟨by omega, hx⟩
        | succ k => rw [hi'] at hx; simp at hx
    intro i j x y hx hy hxy
    rcases key i x hx with ⟨h1, h2⟩ | ⟨h1, h2⟩ <;> rcases key j y hy with ⟨h3, h4⟩ | ⟨h3, h4⟩
    · exact h.dist i j x y h2 h4 hxy
    · exact absurd (hxy ▸ h.fo i x h2) (hf y h4)
    · exact absurd (hxy.symm ▸ h.fo j y h4) (hf x h2)
    · omega
  · refine h.names.at hn ?_
    rintro x rfl
    rcases h.names.2 with ⟨h1, _⟩ | ⟨c, ds, h1, _, h3, h4, _⟩
    · cases h1
    · cases h1
      have := hrow _ _ _ _ h4 (by omega)
      exact hat _ h3 this.1 this.2
  · intro x hx
    cases hx
    exact .inr (.inr rfl)
  · intro i x hx
    rw [List.getElem?_append] at hx
    split at hx
    · exact .inl (h.fo i x hx)
    · rename_i hi
      cases hi' : i - os.length with
      | zero => rw [hi'] at hx; simp at hx; exact .inr (.inl ⟨x, hx, rfl⟩)
      | succ k => rw [hi'] at hx; simp at hx
  · intro x hx; exact .inl (h.fN x hx)
  · rintro b (hb | ⟨x, hx, rfl⟩ | rfl)
    · exact Nat.lt_of_lt_of_le (h.lt b hb) hn
    · exact Nat.lt_of_lt_of_le (hlta x hx) hn
    · exact hN'

theorem c76 {H : AHeap} (x : Ob × Option Addr) : ACalls Try.prog 76 [.agg ((encO x).drop 2).toArray] H fun r H' => r = .int .i64 1 ∧ H' = H := by
  refine ACalls.eq (S76_calls ?_) rfl
  unfold S76
  have w1 := wrap64 (x := 1) (by omega) (by omega)
  simp [encO, w1]
  refine aLoop_st 0 (fun i => [.int .i64 1, .int .i64 0]) (fun i H' => H' = H.alloc (.cells ((encO x).drop 2) .var 79)) (by simp [w1]) (by simp [encO]) ?_
  rintro i H' again hi rfl ha
  unfold S76_31
  simp [encO]
  exact (Keep.refl _ _).alloc (Nat.le_refl _) _
theorem c75 {H : AHeap} (x : Ob × Option Addr) (hn : x.1.slots.length ≤ 1048576) : ACalls Try.prog 75 [.agg (encO x).toArray] H fun r H' => r = .int .i64 x.1.cells ∧ H' = H := by
  refine ACalls.eq (S75_calls ?_) rfl
  unfold S75
  have w1 := wrap64 (x := 2) (by omega) (by omega)
  have w2 := wrap64 (x := 1 + (x.1.slots.length : Int)) (by omega) (by omega)
  have hk : ∀ x, Keep H.next H (H.alloc x) := fun x => (Keep.refl _ _).alloc (Nat.le_refl _) _
  by_cases hk10 : x.1.kind = 10
  · simp [encO, hk10]
    have := c76 (H := H.alloc (.cells (encO x) .var 121)) x
    simp [encO, hk10] at this
    refine this.use ?_
    simp [w1, Ob.cells, hk10, hk]
  · simp [encO, hk10, w2, Ob.cells, hk]
theorem c69 {H : AHeap} {p : Nat} {m : Sm} {F : Nat → Prop} (h : RS H p m F) (hI : Inv m) {o : Ob} {a : Option Addr} (ho : Ow 2 eV 28 0 H a o.slots) (hf : ∀ x, a = some x → ¬ F x.block) (hn : o.slots.length ≤ 1048576) :
    ACalls Try.prog 69 [Pt p, .agg (encO (o, a)).toArray] H fun r H' => if m.lim - m.used < o.cells then r = .tuple #[vV (0, 0), .int .i64 16] ∧ Keep H.next H H' else
      r = .tuple #[vV (7, m.objs.length), .int .i64 0] ∧ H.next ≤ H'.next ∧ (∀ b, b < H.next → ¬ F b → H'.at_ b = H.at_ b) ∧ ∃ F', RS H' p (m.put o) F' ∧ ∀ b, F' b → F b ∨ (∃ x, a = some x ∧ x.block = b) ∨ H.next ≤ b := by
  obtain ⟨A, os, NA, h⟩ := h
  refine S69_calls ?_
  unfold S69
  have hsum := hI.sum
  have hle := hI.le
  have hlim := hI.lim
  have hlen := hI.len
  have hc : (o.cells : Int) ≤ 1048577 := by unfold Ob.cells; split <;> omega
  have hc1 := cells_pos o
  have hne := h.ne
  have hne1 : p ≠ H.next + 1 := by have := h.lt p h.fp; omega
  have hne2 : p ≠ H.next + 2 := by have := h.lt p h.fp; omega
  have w2 := wrap64 (x := m.used + o.cells) (by omega) (by omega)
  have w3 := wrap64 (x := (m.objs.length : Int)) (by omega) (by omega)
  have l10 : ∀ y, aLdAgg 10 (Pt H.next) ((H.alloc (.cells (encO (o, a)) .var 121)).alloc y) = some (.agg (encO (o, a)).toArray) := by intro y; simp [at_alloc, encO]
  have hv : vcells (.agg (encO (o, a)).toArray) = encO (o, a) := by simp
  have hok : (encO (o, a)).all okCell = true := by simp [encO]
  simp only [aBox_eq, hv, hok, aAlloc_eq, AHeap.next_alloc, l10, bnd_some', true_and]
  refine (c75 (o, a) hn).use ?_
  unfold S69_45
  simp [at_alloc, hne, hne1, h.hp, w2]
  by_cases hfull : m.lim - m.used < o.cells
  · have hfull' : m.lim < m.used + o.cells := by omega
    simp [hfull, hfull', at_alloc, at_upd]
    exact (((Keep.refl _ _).alloc (Nat.le_refl _) _).alloc (by simp) _).upd (by omega) _
  · have hfull' : ¬ m.lim < m.used + o.cells := by omega
    simp [hfull, hfull', at_alloc, hne, hne1, h.hp]
    unfold S69_44
    have hne3 := hne.symm
    simp [at_alloc, at_upd, hne, hne1, hne2, hne3, h.hp, w2, encO]
    simp only [aNilCheck_ptr, aAdd_ptr, aLdCell_ptr, bnd_some', vcells_agg, AHeap.next_alloc]
    have hAp : ∀ x, A = some x → x.block ≠ p := by
      rintro x rfl e
      rcases h.objs.2 with ⟨h1, _⟩ | ⟨c, ds, h1, _, _, h2, _⟩
      · cases h1
      · cases h1
        have := h.hp
        rw [← e, h2] at this
        cases this
    have key : ∀ (G : AHeap) (K : Value → AHeap → Prop), G.next = H.next + 3 → (∀ b, b < H.next → b ≠ p → G.at_ b = H.at_ b) → G.at_ (H.next + 1 + 1) = .cells (encO (o, a)) (.row 10) 121 →
        (∀ G', G'.next = H.next + 4 → Ow 10 encO 121 0 G' (some ⟨H.next + 3, 0, none⟩) (m.objs.zip os ++ [(o, a)]) → (∀ b, b < H.next + 3 → (∀ x, A = some x → x.block ≠ b) → G'.at_ b = G.at_ b) → K (.slice (some ⟨H.next + 3, 0, none⟩) (m.objs.length + 1) (m.objs.length + 1)) G') →
        aAppend 10 168 121 (.slice A m.objs.length m.objs.length) (.slice (some ⟨H.next + 1 + 1, 0, none⟩) 1 1) G K := by
      intro G K hGn hG hG2 hk
      have hO : Ow 10 encO 121 0 G A (m.objs.zip os) := h.objs.at (by omega) fun x hx => hG _ (h.lt _ (h.fA x hx)) (hAp x hx)
      have hR : Rd 10 encO G.next G (some ⟨H.next + 1 + 1, 0, none⟩) [(o, a)] := Rd.mk' (by simp [encO]) (by omega) hG2 (by simp) (by simp) (by simp [encO])
      have hz := h.zlen
      have := hO.append (c := m.objs.length) (c' := 1) (bytes := 168) (K := K) hR (Nat.zero_le _) (by rw [hz]; simp only [maxLen, List.length_singleton]; omega) (by rw [hz]; simp only [List.length_singleton]; omega) fun G' h1 h2 h3 _ => by
        rw [hGn] at h1 h2 h3
        rw [hGn, List.length_append, hz, List.length_singleton]
        refine hk G' h2 h1 fun b hb hA => h3 b hb fun o s hh => hA _ hh rfl
      rwa [hz, List.length_singleton] at this
    refine key _ _ (by simp) (fun b hb hbp => ?_) ?_ fun G' hn' hO' hat' => ?_
    · have : b ≠ H.next ∧ b ≠ H.next + 1 ∧ b ≠ H.next + 2 := by omega
      simp [at_alloc, at_upd, this, hbp]
    · simp [at_alloc, encO]
    · have hpl := h.lt p h.fp
      have e1 : G'.at_ p = .cells [.int .i64 m.lim, .int .i64 (m.used + o.cells), .slice A m.objs.length m.objs.length, .slice NA m.names.length m.names.length] .var 64 := by
        rw [hat' p (by omega) hAp]
        simp [at_alloc, at_upd, hne, hne1, hne2]
      have e2 : G'.at_ (H.next + 1) = .cells [.int .i64 0, .int .i64 0] .var 28 := by
        rw [hat' _ (by omega) (fun x hx => by have := h.lt _ (h.fA x hx); omega)]
        simp [at_alloc, at_upd, hne1.symm]
      have e3 : ∀ b, b < H.next → b ≠ p → (∀ x, A = some x → x.block ≠ b) → G'.at_ b = H.at_ b := by
        intro b hb hbp hbA
        rw [hat' b (by omega) hbA]
        have : b ≠ H.next ∧ b ≠ H.next + 1 ∧ b ≠ H.next + 2 := by omega
        simp [at_alloc, at_upd, this, hbp]
      clear hat'
      simp [e1, e2, at_upd, hne1.symm, w3]
      refine ⟨by omega, fun b hb hF => ?_, ?_⟩
      · have g1 : b ≠ H.next + 1 := by omega
        have g2 : b ≠ p := by rintro rfl; exact hF h.fp
        simp [g1, g2]
        exact e3 b hb g2 fun x hx e => hF (e ▸ h.fA x hx)
      · refine ⟨_, h.put (o := o) (a := a) (N := H.next + 3) ho hf ?_ ?_ (by omega) ?_ ?_ ?_, ?_⟩
        · simp; omega
        · intro b hb hbp hbA
          have g1 : b ≠ H.next + 1 := by omega
          simp [at_upd, g1, hbp]
          exact e3 b hb hbp hbA
        · simp; omega
        · simp [at_upd, hne1]
        · refine hO'.at (by simp) ?_
          rintro x hx
          cases hx
          have g1 : H.next + 3 ≠ p := by omega
          simp [at_upd, g1]
        · rintro b (hb | hb | rfl)
          · exact .inl hb
          · exact .inr (.inl hb)
          · exact .inr (.inr (by omega))
end Go.Proofs.Ytngldjajfpbmbaa.A

set_option linter.unusedVariables false
set_option linter.unusedSimpArgs false
namespace Go.Proofs.Ytngldjajfpbmbaa.A
open Go Go.Abs

/-- append, to a row of nothing. -/
theorem appN {H : AHeap} {lo : Nat} {B : Option Addr} {xs : List V} {K : Value → AHeap → Prop} (hlo : lo ≤ H.next) (hB : Rd 2 eV lo H B xs) (hn : xs.length ≤ 2097152)
    (hk : ∀ H' A, Ow 2 eV 28 H.next H' A xs → Keep H.next H H' → K (.slice A xs.length xs.length) H') : aAppend 2 16 28 (.slice (some ⟨H.next, 0, none⟩) 0 0) (.slice B xs.length xs.length) (H.alloc (.cells [] (.row 2) 28)) K := by
  have hO : Ow 2 eV 28 H.next (H.alloc (.cells [] (.row 2) 28)) (some ⟨H.next, 0, none⟩) [] := Ow.new H [] (by simp) rfl
  have hBa : Rd 2 eV (H.next + 1) (H.alloc (.cells [] (.row 2) 28)) B xs := (hB.alloc (by omega) _).up (by omega)
  have := hO.append (bytes := 16) (c := 0) (c' := xs.length) (K := K) hBa (by simp) (by simp only [maxLen, List.length_nil]; omega) (by simp only [List.length_nil]; omega) fun H2 h1 h2 h3 h4 => by
    simp at h1
    have := hk H2 _ h1 (((Keep.refl _ _).alloc (Nat.le_refl _) _).trans h4)
    simpa using this
  simpa using this
theorem l49 {H G : AHeap} {p : Nat} {m : Sm} {F : Nat → Prop} (hS : RS H p m F) (hI : Inv m) (k : Int) {lo : Nat} {B : Option Addr} {xs : List V} (hs : shaped k xs.length = true) (hlo : lo ≤ H.next) (hB : Rd 2 eV lo H B xs) (hn : xs.length ≤ 1048576) (hk : Keep H.next H G) (hG : G.next = H.next + 1)
    (ht : G.at_ H.next = .cells [.int .i64 0, .int .i64 0] .var 28) :
    aLoop [.int .i64 0] G fun vs_82 H_83 again_84 => S49_109 (Pt p) (.int .i64 k) (.slice B xs.length xs.length) (fun r H' => r = .tuple #[vV (m.make k xs).1.1, .int .i64 (m.make k xs).1.2] ∧ ∃ F', RS H' p (m.make k xs).2 F' ∧ Fr F H F' H') (Pt H.next) vs_82 H_83 again_84 := by
  have hSG := hS.kept hk
  have hBG : Rd 2 eV lo G B xs := hB.keep fun b hb => hk.at_ b (by omega)
  refine aLoop_st xs.length (fun i => [.int .i64 i]) (fun i H' => H' = G ∧ ∀ v ∈ xs.take i, m.sound v = true) rfl ⟨rfl, by simp⟩ ?_
  rintro i H' again hi ⟨rfl, hgd⟩ ha
  unfold S49_109
  have hk2 : ∀ x, Keep H.next H (H'.upd H.next x) := fun x => hk.upd (Nat.le_refl _) _
  by_cases hlt : i < xs.length
  · have w1 := wrap64 (x := (i : Int) + 1) (by omega) (by omega)
    have i1 := hBG.idx (k := .i64) (j := (i : Int)) (c := xs.length) (by omega) (by omega)
    simp only [Int.toNat_natCast] at i1
    have l1 : aLdAgg 2 (slot 2 B i) H' = some (vV xs[i]) := hBG.agg hlt
    simp [hlt]
    unfold S49_96
    simp only [nth_zero, i1, l1, bnd_some']
    refine (c31 hSG xs[i]).use ?_
    cases hsd : m.sound xs[i] with
    | false =>
      have e : m.make k xs = (((0, 0), 2), m) := by
        unfold Sm.make
        rw [if_pos hs, if_neg]
        intro h
        rw [List.all_eq_true] at h
        rw [h _ (List.getElem_mem hlt)] at hsd
        cases hsd
      rw [e]
      simp [ht, at_upd]
      exact ⟨F, hS.kept (hk2 _), Fr.keep (hk2 _)⟩
    | true =>
      simp [w1]
      refine ha _ hlt ⟨rfl, ?_⟩
      rw [List.take_succ_eq_append_getElem hlt]
      intro v hv
      rcases List.mem_append.1 hv with hv | hv
      · exact hgd v hv
      · simp at hv; subst hv; exact hsd
  · have hie : i = xs.length := by omega
    subst hie
    rw [List.take_length] at hgd
    simp
    unfold S49_108
    have hall : xs.all m.sound = true := List.all_eq_true.2 hgd
    simp
    refine appN (by omega) hBG (by omega) fun H2 A hA hk3 => ?_
    have hS2 := hSG.kept hk3
    have hkk : Keep H.next H H2 := hk.trans (hk3.lower (by omega))
    have ht2 : H2.at_ H.next = .cells [.int .i64 0, .int .i64 0] .var 28 := by rw [hk3.at_ _ (by omega)]; exact ht
    have hn3 := hk3.next
    have hAn : ∀ x, A = some x → H'.next ≤ x.block ∧ x.block < H2.next := fun x hx => ⟨(hA.blkOf hx).2.1, (hA.blkOf hx).2.2.1⟩
    have := c69 hS2 hI (o := mkOb k xs) (a := A) (hA.lower (Nat.zero_le _)) (fun x hx hF => by have := hAn x hx; have := hS.lt _ hF; omega) hn
    have hmk : (⟨k, xs, 0, ⟨#[]⟩⟩ : Ob) = mkOb k xs := rfl
    simp
    refine ACalls.mono (by simpa [encO, mkOb] using this) fun r H4 hr => ?_
    clear this
    simp only [hmk] at hr
    have em : m.make k xs = if m.lim - m.used < (mkOb k xs).cells then (((0, 0), 16), m) else (((7, (m.objs.length : Int)), 0), m.put (mkOb k xs)) := by
      unfold Sm.make
      rw [if_pos hs, if_pos hall]
    by_cases hfull : m.lim - m.used < (mkOb k xs).cells
    · rw [if_pos hfull] at hr em
      obtain ⟨rfl, hk4⟩ := hr
      have e5 : H4.at_ H.next = .cells [.int .i64 0, .int .i64 0] .var 28 := by rw [hk4.at_ _ (by omega)]; exact ht2
      have hk5 : ∀ z, Keep H.next H (H4.upd H.next z) := fun z => (hkk.trans (hk4.lower (by omega))).upd (Nat.le_refl _) _
      rw [em]
      simp [e5, at_upd]
      exact ⟨F, hS.kept (hk5 _), Fr.keep (hk5 _)⟩
    · rw [if_neg hfull] at hr em
      obtain ⟨rfl, hn4, hat, F', hS4, hF'⟩ := hr
      have g : ¬ F H.next := fun hF => by have := hS.lt _ hF; omega
      have e5 : H4.at_ H.next = .cells [.int .i64 0, .int .i64 0] .var 28 := by rw [hat _ (by omega) g]; exact ht2
      rw [em]
      simp [e5, at_upd]
      refine ⟨F', hS4.frame (by simp) fun b hb => AHeap.at_upd_ne _ _ ?_, ⟨?_, fun b hb hF => ?_, fun b hb => ?_⟩⟩
      · rintro rfl
        rcases hF' _ hb with h1 | ⟨x, hx, h1⟩ | h1
        · exact g h1
        · have := hAn x hx; omega
        · omega
      · simp; omega
      · rw [AHeap.at_upd_ne _ _ (by omega), hat b (by omega) hF]; exact hkk.at_ b hb
      · rcases hF' _ hb with h1 | ⟨x, hx, h1⟩ | h1
        · exact .inl h1
        · have := hAn x hx; exact .inr (by omega)
        · exact .inr (by omega)

theorem c49 {H : AHeap} {p : Nat} {m : Sm} {F : Nat → Prop} (hS : RS H p m F) (hI : Inv m) (k : Int) {lo : Nat} {B : Option Addr} {xs : List V} (hlo : lo ≤ H.next) (hB : Rd 2 eV lo H B xs) (hn : xs.length ≤ 1048576) :
    ACalls Try.prog 49 [Pt p, .int .i64 k, .slice B xs.length xs.length] H fun r H' => r = .tuple #[vV (m.make k xs).1.1, .int .i64 (m.make k xs).1.2] ∧ ∃ F', RS H' p (m.make k xs).2 F' ∧ Fr F H F' H' := by
  refine S49_calls ?_
  unfold S49
  have hk1 : ∀ x, Keep H.next H (H.alloc x) := fun x => (Keep.refl _ _).alloc (Nat.le_refl _) _
  have hk2 : ∀ x y, Keep H.next H ((H.alloc x).upd H.next y) := fun x y => (hk1 x).upd (Nat.le_refl _) _
  have bad : shaped k xs.length = false → m.make k xs = (((0, 0), 1), m) := fun h => by unfold Sm.make; rw [if_neg (by rw [h]; decide)]
  have ok : shaped k xs.length = true → _ := fun h => l49 hS hI k h hlo hB hn (hk1 (.cells [.int .i64 0, .int .i64 0] .var 28)) (by simp) (by simp)
  by_cases h1 : k < 1
  · rw [bad (by unfold shaped; rw [if_neg (by omega), if_neg (by omega)]; simp; omega)]
    simp [h1, at_upd]
    exact ⟨F, hS.kept (hk2 _ _), Fr.keep (hk2 _ _)⟩
  by_cases h9 : 9 < k
  · rw [bad (by unfold shaped; rw [if_neg (by omega), if_neg (by omega)]; simp; omega)]
    simp [h1, h9, at_upd]
    exact ⟨F, hS.kept (hk2 _ _), Fr.keep (hk2 _ _)⟩
  by_cases e1 : k = 1
  · subst e1
    by_cases e2 : (xs.length : Int) = 2
    · have := ok (by simp [shaped, e2])
      have e2' : xs.length = 2 := by omega
      simp [e2', e2]
      simpa [e2'] using this
    · rw [bad (by simp [shaped, e2])]
      have e2' : ¬ xs.length = 2 := by omega
      simp [e2, e2', at_upd]
      exact ⟨F, hS.kept (hk2 _ _), Fr.keep (hk2 _ _)⟩
  by_cases e3 : k = 3
  · subst e3
    by_cases e2 : (xs.length : Int) = 1
    · have := ok (by simp [shaped, e2])
      have e2' : xs.length = 1 := by omega
      simp [e2', e2]
      simpa [e2'] using this
    · rw [bad (by simp [shaped, e2])]
      have e2' : ¬ xs.length = 1 := by omega
      simp [e2, e2', at_upd]
      exact ⟨F, hS.kept (hk2 _ _), Fr.keep (hk2 _ _)⟩
  · have := ok (by unfold shaped; rw [if_neg e1, if_neg e3]; simp; omega)
    simp [h1, h9, e1, e3]
    exact this
end Go.Proofs.Ytngldjajfpbmbaa.A

set_option linter.unusedVariables false
set_option linter.unusedSimpArgs false
namespace Go.Proofs.Ytngldjajfpbmbaa.A
open Go Go.Abs

/-- Every object has a kind. -/
def Kd (m : Sm) : Prop := ∀ o ∈ m.objs, o.kind ≠ 0
theorem Kd.make {m : Sm} (h : Kd m) (k : Int) (xs : List V) : Kd (m.make k xs).2 := by
  unfold Sm.make
  split
  · rename_i hs
    split
    · split
      · exact h
      · intro o ho
        simp only [Sm.put] at ho
        rcases List.mem_append.1 ho with ho | ho
        · exact h o ho
        · simp at ho
          subst ho
          rintro h0
          have : k = 0 := h0
          subst this
          simp [shaped] at hs
    · exact h
  · exact h
theorem Kd.set {m : Sm} (h : Kd m) (v : V) (i : Int) (x : V) : Kd (m.set v i x).2 := by
  unfold Sm.set
  split
  · rename_i hv
    have hm : m.ob v ∈ m.objs := List.mem_of_getElem? (ob_at hv)
    split
    · split
      · intro o ho
        simp only at ho
        rcases List.mem_or_eq_of_mem_set ho with ho | rfl
        · exact h o ho
        · show (m.ob v).kind ≠ 0
          exact h _ hm
      · exact h
    · exact h
  · exact h
theorem Kd.kindOf {m : Sm} (h : Kd m) {v : V} (hv : okRef m v = true) : m.kindOf v ≠ 0 := by
  unfold Sm.kindOf
  rw [if_pos hv]
  exact h _ (List.mem_of_getElem? (ob_at hv))

theorem c55 {H : AHeap} {p : Nat} {m : Sm} {F : Nat → Prop} (hS : RS H p m F) (hK : Kd m) (v : V) (i : Int) :
    ACalls Try.prog 55 [Pt p, vV v, .int .i64 i] H fun r H' => r = .tuple #[vV (m.get v i).1, .int .i64 (m.get v i).2] ∧ H' = H := by
  refine ACalls.eq' (S55_calls ?_) (vin_two (vin_agg2 (.plain rfl) (.plain rfl)) (.plain rfl))
  unfold S55
  have hk2 : ∀ x y, Keep H.next H ((H.alloc x).alloc y) := fun x y => ((Keep.refl _ _).alloc (Nat.le_refl _) _).alloc (by simp) _
  have hk3 : ∀ x y z, Keep H.next H (((H.alloc x).alloc y).upd (H.next + 1) z) := fun x y z => (hk2 x y).upd (by omega) _
  simp [at_alloc]
  refine (c52 (hS.kept (hk2 _ _)) v).use ?_
  cases hv : okRef m v with
  | false =>
    have e : m.kindOf v = 0 := by unfold Sm.kindOf; rw [hv]; rfl
    simp [e, hv, at_alloc, at_upd, Sm.get, hk3]
  | true =>
    have e := hK.kindOf hv
    have es : m.slotsOf v = (m.ob v).slots := by unfold Sm.slotsOf; rw [if_pos hv]
    simp [e, at_alloc]
    refine (c53 (hS.kept (hk2 _ _)) v).mono fun r H' ⟨⟨a, hr, hO, _⟩, hH⟩ => ?_
    subst hr
    subst hH
    rw [es] at hO ⊢
    unfold S55_41
    by_cases h1 : i < 0
    · have h1' : ¬ 0 ≤ i := by omega
      simp [h1, h1', hv, at_alloc, at_upd, Sm.get, hk3]
    · have h1' : 0 ≤ i := by omega
      by_cases h2 : i < (m.ob v).slots.length
      · have h2' : ¬ ((m.ob v).slots.length : Int) ≤ i := by omega
        have i1 := hO.rd.idx (k := .i64) (c := (m.ob v).slots.length) h1' h2
        have hlt : i.toNat < (m.ob v).slots.length := by omega
        have l1 := hO.rd.agg hlt
        simp [-aLdAgg_ptr] at l1
        have eg : m.get v i = ((m.ob v).slots[i.toNat], 0) := by
          unfold Sm.get
          rw [if_pos hv, if_pos ⟨h1', h2⟩]
          simp [List.getD_eq_getElem?_getD, hlt]
        rw [eg]
        simp [h1, h2, h2', i1, l1, -aLdAgg_ptr]
        simp [at_alloc, at_upd, hk3]
      · have h2' : ((m.ob v).slots.length : Int) ≤ i := by omega
        simp [h1, h2, h2', hv, h1', at_alloc, at_upd, Sm.get, hk3]
theorem get_ok {m : Sm} {v : V} {i : Int} : (m.get v i).2 = 0 ↔ okRef m v = true ∧ 0 ≤ i ∧ i < (m.ob v).slots.length := by
  unfold Sm.get
  split
  · split <;> simp_all
  · simp_all
theorem set_err {m : Sm} {v x : V} {i : Int} (h : (m.get v i).2 ≠ 0) : m.set v i x = ((m.get v i).2, m) := by
  unfold Sm.get at h ⊢
  unfold Sm.set
  split
  · rename_i hv
    split
    · rename_i hi; rw [if_pos hv, if_pos hi] at h; exact absurd rfl h
    · rfl
  · rfl

theorem RX.setSlot {G : AHeap} {p : Nat} {m : Sm} {F : Nat → Prop} {A : Option Addr} {os : List (Option Addr)} {NA : Option Addr} (h2 : RX G p m F A os NA) {v x : V} {i : Int} (hv : okRef m v = true) (h3 : 0 ≤ i ∧ i < (m.ob v).slots.length) {a : Option Addr} (ho : m.objs[v.2.toNat]? = some (m.ob v)) (ha : os[v.2.toNat]? = some a) :
    ∃ c y, aSt 2 (slot 2 a i.toNat) (vV x) G = some (G.upd c y) ∧ F c ∧ RX (G.upd c y) p ⟨m.lim, m.used, m.objs.set v.2.toNat (setOb (m.ob v) i.toNat x), m.names⟩ F A os NA := by
  have hO := h2.slots _ _ _ ho ha
  obtain ⟨c, hac, _, hcl, y, hst, hO2, ds, hds⟩ := hO.st (j := i.toNat) (k := 0) (l := 2) (off := i.toNat * 2) (v := vV x) (y := x) (by omega) (by omega) (by simp) (by simp) (by omega) (by simp)
  have hst' : aSt 2 (slot 2 a i.toNat) (vV x) G = some (G.upd c y) := by rw [hac]; simpa [slot] using hst
  have hFc : F c := h2.fo _ ⟨c, 0, none⟩ (by rw [ha, hac])
  have un : ∀ d, d ≠ c → (G.upd c y).at_ d = G.at_ d := fun d hd => AHeap.at_upd_ne _ _ hd
  have nc : ∀ (d : Nat) (es : List Value) (u : Use) (t : TypeId), G.at_ d = .cells es u t → t ≠ 28 → d ≠ c := by
    rintro d es u t hd ht rfl
    rw [hds] at hd
    cases hd
    exact ht rfl
  refine ⟨c, y, hst', hFc, ?_⟩
  refine ⟨by simp [h2.len], ?_, ?_, ?_, h2.dist, ?_, h2.fp, h2.fA, h2.fo, h2.fN, h2.lt⟩
  · rw [un _ (nc _ _ _ _ h2.hp (by decide)), h2.hp]
    simp
  · have hz := zip_at ho ha
    have e1 : (m.objs.set v.2.toNat (setOb (m.ob v) i.toNat x)).zip os = (m.objs.zip os).set v.2.toNat (setOb (m.ob v) i.toNat x, a) := zip_set _ _ _ _ _ ha
    have hOO := h2.objs.at (H' := G.upd c y) (Nat.le_refl _) fun z hz => un _ (by
      obtain ⟨_, _, _, es, hes⟩ := h2.objs.blkOf hz
      exact nc _ _ _ _ hes (by decide))
    show Ow 10 encO 121 0 (G.upd c y) A ((m.objs.set v.2.toNat (setOb (m.ob v) i.toNat x)).zip os)
    rw [e1]
    have e2 : ((m.objs.zip os).set v.2.toNat (setOb (m.ob v) i.toNat x, a)).flatMap encO = (m.objs.zip os).flatMap encO := flat_set _ _ fun z hz' => by
      rw [hz] at hz'
      cases hz'
      simp [encO, setOb]
    refine ⟨fun _ _ => rfl, ?_⟩
    rcases hOO.2 with ⟨g1, g2⟩ | ⟨b, cs, g1, g2, g3, g4, g5, g6⟩
    · rw [g2]; exact .inl ⟨g1, rfl⟩
    · exact .inr ⟨b, cs, g1, g2, g3, g4, by rw [List.length_set]; exact g5, by rw [List.length_set, e2]; exact g6⟩
  · intro j o' a' h1 h2'
    have h1' : (m.objs.set v.2.toNat (setOb (m.ob v) i.toNat x))[j]? = some o' := h1
    rw [List.getElem?_set] at h1'
    by_cases e : v.2.toNat = j
    · subst e
      rw [if_pos rfl] at h1'
      split at h1'
      · cases h1'
        rw [ha] at h2'
        cases h2'
        exact hO2
      · cases h1'
    · rw [if_neg e] at h1'
      have := h2.slots j o' a' h1' h2'
      refine this.at (Nat.le_refl _) ?_
      rintro z rfl
      refine un _ ?_
      intro ez
      exact e (h2.dist _ _ ⟨c, 0, none⟩ z (by rw [ha, hac]) h2' ez.symm)
  · exact h2.names.at (Nat.le_refl _) fun z hz => un _ (by
      obtain ⟨_, _, _, es, hes⟩ := h2.names.blkOf hz
      exact nc _ _ _ _ hes (by decide))

theorem c50 {H : AHeap} {p : Nat} {m : Sm} {F : Nat → Prop} (hS : RS H p m F) (hK : Kd m) (v : V) (i : Int) (x : V) :
    ACalls Try.prog 50 [Pt p, vV v, .int .i64 i, vV x] H fun r H' => r = .int .i64 (m.set v i x).1 ∧ RS H' p (m.set v i x).2 F ∧ Fr F H F H' := by
  refine S50_calls ?_
  unfold S50
  have hk2 : ∀ x y, Keep H.next H ((H.alloc x).alloc y) := fun x y => ((Keep.refl _ _).alloc (Nat.le_refl _) _).alloc (by simp) _
  simp [at_alloc]
  refine (c55 (hS.kept (hk2 _ _)) hK v i).use ?_
  unfold S50_29
  have hk4 : ∀ x y z w, Keep H.next H ((((H.alloc x).alloc y).alloc z).upd (H.next + 2) w) := fun x y z w => ((hk2 x y).alloc (by simp; omega) _).upd (by omega) _
  by_cases he : (m.get v i).2 = 0
  · obtain ⟨hv, h3⟩ := get_ok.1 he
    have hset : m.set v i x = if m.sound x then (0, ⟨m.lim, m.used, m.objs.set v.2.toNat (setOb (m.ob v) i.toNat x), m.names⟩) else (2, m) := by
      unfold Sm.set
      rw [if_pos hv, if_pos h3]
      rfl
    rw [hset]
    obtain ⟨R, hR⟩ : ∃ R : Value → AHeap → Prop, R = fun r H' => r = .int .i64 (if m.sound x then ((0 : Int), (⟨m.lim, m.used, m.objs.set v.2.toNat (setOb (m.ob v) i.toNat x), m.names⟩ : Sm)) else (2, m)).1 ∧ RS H' p (if m.sound x then ((0 : Int), (⟨m.lim, m.used, m.objs.set v.2.toNat (setOb (m.ob v) i.toNat x), m.names⟩ : Sm)) else (2, m)).2 F ∧ Fr F H F H' := ⟨_, rfl⟩
    have key : ∀ G, Keep H.next H G → G.at_ H.next = .cells (eV v) .var 28 → G.at_ (H.next + 1) = .cells (eV x) .var 28 →
        bnd (aLdAgg 2 (Pt (H.next + 1)) G) fun t22_13 => ACalls Try.prog 31 [Pt p, t22_13] G fun t23_14 H_15 => bnd (aUn .not t23_14) fun t24_16 => aCond t24_16 (R (.int .i64 2) H_15) (S50_28 (Pt p) (.int .i64 i) R (Pt H.next) (Pt (H.next + 1)) H_15) := by
      intro G hkG g5 g7
      have lx : aLdAgg 2 (Pt (H.next + 1)) G = some (vV x) := by simp [g7]
      simp only [lx, bnd_some']
      subst hR
      refine (c31 (hS.kept hkG) x).use ?_
      cases hsd : m.sound x with
      | false =>
        simp
        exact ⟨hS.kept hkG, Fr.keep hkG⟩
      | true =>
        simp
        unfold S50_28
        obtain ⟨A, os, NA, hX⟩ := hS.kept hkG
        obtain ⟨a, b, cs, ho, ha, hs, hb, hat, hl, hc, hsl⟩ := hX.look hv
        obtain ⟨_, v0, v1⟩ := okRef_iff.1 hv
        have i1 := hX.idx (k := .i64) (c := m.objs.length) v0 v1
        have h1 := hc 1 (by omega)
        simp [encO] at h1
        have i2 := hsl.rd.idx (k := .i64) (c := (m.ob v).slots.length) h3.1 h3.2
        obtain ⟨c, y, hst, hFc, hX2⟩ := hX.setSlot (x := x) hv h3 ho ha
        have l5 : aLdCell (.pointer (some ⟨H.next, 1, none⟩)) G = some (.int .i64 v.2) := by simp [g5]
        have lp : aLdCell (.pointer (some ⟨p, 2, none⟩)) G = some (.slice A m.objs.length m.objs.length) := by simp [hX.hp]
        have lb : aLdCell (.pointer (some ⟨b, v.2.toNat * 10 + 1, none⟩)) G = some (.slice a (m.ob v).slots.length (m.ob v).slots.length) := by simp [hat, h1]
        simp [lp, l5, i1, hs, lb, lx, i2, hst, -aLdCell_ptr, -aSt_ptr, -aLdAgg_ptr]
        refine ⟨⟨A, os, NA, hX2⟩, ⟨by have := hkG.next; simpa using this, fun d hd hf => ?_, fun d hd => .inl hd⟩⟩
        rw [AHeap.at_upd_ne _ _ (by rintro rfl; exact hf hFc)]
        exact hkG.at_ d hd
    have h1 : H.next ≠ H.next + 1 + 1 := by omega
    have h2 : H.next ≠ H.next + 1 := by omega
    have h3 : H.next + 1 ≠ H.next + 1 + 1 := by omega
    have e0 : aExtract (.tuple #[vV (m.get v i).1, .int .i64 (m.get v i).2]) 0 = some (vV (m.get v i).1) := rfl
    have e1 : aExtract (.tuple #[vV (m.get v i).1, .int .i64 (m.get v i).2]) 1 = some (.int .i64 (m.get v i).2) := rfl
    obtain ⟨G0, hG0⟩ : ∃ X, X = (H.alloc (.cells (vcells (vV v)) .var 28)).alloc (.cells (vcells (vV x)) .var 28) := ⟨_, rfl⟩
    have hn0 : G0.next = H.next + 1 + 1 := by rw [hG0]; rfl
    have st : aSt 2 (Pt (H.next + 1 + 1)) (vV (m.get v i).1) (G0.alloc (.cells [.int .i64 0, .int .i64 0] .var 28)) = some ((G0.alloc (.cells [.int .i64 0, .int .i64 0] .var 28)).upd (H.next + 1 + 1) (.cells (eV (m.get v i).1) .var 28)) := by simp [at_alloc, hn0]
    have hk0 : Keep H.next H ((G0.alloc (.cells [.int .i64 0, .int .i64 0] .var 28)).upd (H.next + 1 + 1) (.cells (eV (m.get v i).1) .var 28)) := by rw [hG0]; exact hk4 _ _ _ _
    have a5 : ((G0.alloc (.cells [.int .i64 0, .int .i64 0] .var 28)).upd (H.next + 1 + 1) (.cells (eV (m.get v i).1) .var 28)).at_ H.next = .cells (eV v) .var 28 := by rw [hG0]; simp [at_upd, at_alloc, h1, h2]
    have a7 : ((G0.alloc (.cells [.int .i64 0, .int .i64 0] .var 28)).upd (H.next + 1 + 1) (.cells (eV (m.get v i).1) .var 28)).at_ (H.next + 1) = .cells (eV x) .var 28 := by rw [hG0]; simp [at_upd, at_alloc, h3]
    subst hR
    rw [show (H.alloc (Blk.cells (vcells (vV v)) Use.var 28)).next = H.next + 1 from rfl]
    rw [← hG0]
    simp only [e0, e1, bnd_some', aAlloc_eq, hn0, st]
    simp only [aBin_neq, bnd_some', he, decide_true, Bool.not_true, aCond_false]
    exact key _ hk0 a5 a7
  · rw [set_err he]
    simp [he, at_alloc]
    exact ⟨hS.kept (hk4 _ _ _ _), Fr.keep (hk4 _ _ _ _)⟩
end Go.Proofs.Ytngldjajfpbmbaa.A
