/- Contracts of functions that the statement reaches; each theorem carries its own conditions, the last theorem of the claim has none. -/
import Derived.Test.YtngldjajfpbmbaaS2
set_option linter.unusedVariables false
set_option linter.unusedSimpArgs false
namespace Go.Proofs.Ytngldjajfpbmbaa.A
open Go Go.Abs

@[simp] theorem aFill_nil (cs : List Value) : aFill cs [] = some cs := nr rfl
@[simp] theorem aFill_cons (cs : List Value) (off n : Nat) (v : Value) (r : List (Nat × Nat × Value)) : aFill cs ((off, n, v) :: r) = if (vcells v).length = n ∧ off + n ≤ cs.length ∧ (vcells v).all okCell = true then aFill (setCells cs off (vcells v)) r else none := nr rfl
@[simp] theorem setCells_nil (cs : List Value) (o : Nat) : setCells cs o [] = cs := nr (by cases cs <;> rfl)
@[simp] theorem setCells_cons (cs : List Value) (o : Nat) (v : Value) (vs : List Value) : setCells cs o (v :: vs) = setCells (cs.set o v) (o + 1) vs := nr (by cases cs <;> rfl)

def Sm.ob (m : Sm) (v : V) : Ob := m.objs.getD v.2.toNat ⟨0, [], 0, ⟨#[]⟩⟩
theorem okRef_iff {m : Sm} {v : V} : okRef m v = true ↔ v.1 = 7 ∧ 0 ≤ v.2 ∧ v.2 < m.objs.length := by simp [okRef]
section
variable {H : AHeap} {p : Nat} {m : Sm} {F : Nat → Prop} {A : Option Addr} {os : List (Option Addr)} {NA : Option Addr} {mb : Nat}
/-- The object of a value, where it lies. -/
theorem StX.look (h : StX H p m F A os NA mb) {v : V} (hv : okRef m v = true) : ∃ a b cs, m.objs[v.2.toNat]? = some (m.ob v) ∧ os[v.2.toNat]? = some a ∧ slot 10 A v.2.toNat = .pointer (some ⟨b, v.2.toNat * 10, none⟩) ∧ b < H.next ∧
    H.at_ b = .cells cs (.row 10) 94 ∧ v.2.toNat * 10 + 10 ≤ cs.length ∧ (∀ k, k < 10 → cs[v.2.toNat * 10 + k]? = (encO (m.ob v, a))[k]?) ∧ Ow 2 eV 28 0 H a (m.ob v).slots := by
  obtain ⟨h1, h2, h3⟩ := okRef_iff.1 hv
  have hlt : v.2.toNat < m.objs.length := by omega
  have ho : m.objs[v.2.toNat]? = some (m.ob v) := by simp [Sm.ob, List.getD_eq_getElem?_getD, hlt]
  have hlt' : v.2.toNat < os.length := by rw [h.len]; exact hlt
  have ha := List.getElem?_eq_getElem hlt'
  obtain ⟨b, hA, hb, cs, hat, hl, hc⟩ := h.part ho ha
  refine ⟨_, b, cs, ho, ha, by rw [hA]; simp [slot], hb, hat, hl, fun k hk => ?_, h.slots _ _ _ ho ha⟩
  rw [← hc, List.getElem?_take, if_pos hk, List.getElem?_drop]
end

def slotRes (m : Sm) (v : V) (i : Int) (a : Option Addr) : Value :=
  if okRef m v then (if 0 ≤ i ∧ i < (m.ob v).slots.length then .tuple #[slot 2 a i.toNat, .int .i64 0] else .tuple #[.pointer none, .int .i64 12]) else .tuple #[.pointer none, .int .i64 10]
theorem c47 {H : AHeap} {p : Nat} {m : Sm} {F : Nat → Prop} {A : Option Addr} {os : List (Option Addr)} {NA : Option Addr} {mb : Nat} (h : StX H p m F A os NA mb) (v : V) (i : Int) (a : Option Addr)
    (ha : okRef m v = true → os[v.2.toNat]? = some a) :
    ACalls Try.prog 47 [Pt p, vV v, .int .i64 i] H fun r H' => r = slotRes m v i a ∧ H' = H := by
  refine ACalls.eq' (S47_calls ?_) ?_
  · unfold S47 slotRes
    have hk : ∀ x, Keep H.next H (H.alloc x) := fun x => (Keep.refl _ _).alloc (Nat.le_refl _) _
    have hx : ∀ x, StX (H.alloc x) p m F A os NA mb := fun x => h.frame (hk x).next fun b hb => (hk x).at_ b (h.lt b hb)
    simp
    refine (c62 (hx _) v).use ?_
    cases hv : okRef m v with
    | false => simp [hk]
    | true =>
      obtain ⟨a', b, cs, ho, ha', hs, hb, hat, hl, hc, hsl⟩ := h.look hv
      rw [ha hv] at ha'
      cases ha'
      have e : ∀ x, (H.alloc x).at_ b = H.at_ b := fun x => AHeap.at_alloc_ne _ _ (Nat.ne_of_lt hb)
      have h1 := hc 1 (by omega)
      simp [encO] at h1
      simp [hs]
      unfold S47_46
      by_cases h2 : i < 0
      · have h2' : ¬ 0 ≤ i := by omega
        simp [h2, h2', hk]
      · have h2' : 0 ≤ i := by omega
        by_cases h3 : i < (m.ob v).slots.length
        · have h3' : ¬ ((m.ob v).slots.length : Int) ≤ i := by omega
          have hi := hsl.rd.idx (k := .i64) (c := (m.ob v).slots.length) h2' h3
          simp [h2, h2', h3, h3', e, hat, h1, hi, hk]
        · have h3' : ((m.ob v).slots.length : Int) ≤ i := by omega
          simp [h2, h2', h3, h3', e, hat, h1, hk]
  · unfold slotRes
    split
    · rename_i hv
      obtain ⟨a', b, cs, ho, ha', hs, hb, hat, hl, hc, hsl⟩ := h.look hv
      rw [ha hv] at ha'
      cases ha'
      split
      · refine vin_two ?_ (.plain rfl)
        rcases hsl.2 with ⟨rfl, _⟩ | ⟨b, cs, rfl, _, hb, _⟩
        · exact .plain rfl
        · exact .ptr hb
      · exact vin_two (.plain rfl) (.plain rfl)
    · exact vin_two (.plain rfl) (.plain rfl)

/-- Get. -/
def Sm.get (m : Sm) (v : V) (i : Int) : V × Int :=
  if okRef m v then (if 0 ≤ i ∧ i < (m.ob v).slots.length then ((m.ob v).slots.getD i.toNat (0, 0), 0) else ((0, 0), 12)) else ((0, 0), 10)
theorem c18 {H : AHeap} {p : Nat} {m : Sm} {F : Nat → Prop} (h : St H p m F) (v : V) (i : Int) :
    ACalls Try.prog 18 [Pt p, vV v, .int .i64 i] H fun r H' => r = .tuple #[vV (m.get v i).1, .int .i64 (m.get v i).2] ∧ H' = H := by
  refine ACalls.eq' (S18_calls ?_) (vin_two (vin_agg2 (.plain rfl) (.plain rfl)) (.plain rfl))
  obtain ⟨A, os, NA, mb, h⟩ := h
  unfold S18
  have hk2 : ∀ x y, Keep H.next H ((H.alloc x).alloc y) := fun x y => ((Keep.refl _ _).alloc (Nat.le_refl _) _).alloc (by simp) _
  have hk3 : ∀ x y z, Keep H.next H (((H.alloc x).alloc y).upd (H.next + 1) z) := fun x y z => (hk2 x y).upd (by omega) _
  have hx : ∀ x y, StX ((H.alloc x).alloc y) p m F A os NA mb := fun x y => h.frame (hk2 x y).next fun b hb => (hk2 x y).at_ b (h.lt b hb)
  simp [at_alloc]
  cases hv : okRef m v with
  | false =>
    refine (c47 (hx _ _) v i none (by rw [hv]; intro h; cases h)).use ?_
    unfold S18_17
    simp [slotRes, hv, at_alloc, at_upd, Sm.get, hk3, setCells]
  | true =>
    obtain ⟨a, b, cs, ho, ha, hs, hb, hat, hl, hc, hsl⟩ := h.look hv
    refine (c47 (hx _ _) v i a (fun _ => ha)).use ?_
    unfold S18_17
    by_cases h3 : 0 ≤ i ∧ i < (m.ob v).slots.length
    · obtain ⟨c, o, ds, k, t, rfl, hc1, hc2, hc3, hc4⟩ := hsl.rd.elem (j := i.toNat) (by omega)
      have hc5 : c ≠ H.next ∧ c ≠ H.next + 1 := by omega
      have hg : (m.ob v).slots[i.toNat]? = some ((m.ob v).slots[i.toNat]'(by omega)) := List.getElem?_eq_getElem (by omega)
      simp [slotRes, hv, h3, at_alloc, at_upd, Sm.get, hk3, setCells, slot, hc5, hc2, hc3, hc4, List.getD_eq_getElem?_getD, hg]
    · simp [slotRes, hv, h3, at_alloc, at_upd, Sm.get, hk3, setCells]

theorem c17 {H : AHeap} {p : Nat} {m : Sm} {F : Nat → Prop} (h : St H p m F) : ACalls Try.prog 17 [Pt p] H fun r H' => r = .int .i64 m.used ∧ H' = H := by
  refine ACalls.eq (S17_calls ?_) rfl
  obtain ⟨A, os, NA, mb, h⟩ := h
  unfold S17
  simp [h.hp]

theorem c38 {H : AHeap} (k n : Int) : ACalls Try.prog 38 [.int .i64 k, .int .i64 n] H fun r H' => r = .bool (if k = 1 then decide (n = 2) else if k = 3 then decide (n = 1) else decide (1 ≤ k ∧ k ≤ 9)) ∧ H' = H := by
  refine ACalls.eq (S38_calls ?_) rfl
  unfold S38
  by_cases h1 : k = 1
  · simp [h1]
  by_cases h2 : k = 3
  · simp [h1, h2]
  simp [h1, h2]
  unfold S38_15
  by_cases h3 : 1 ≤ k
  · simp [h1, h2, h3]
  · simp [h1, h2, h3]

theorem c71 {H : AHeap} (n : Int) : ACalls Try.prog 71 [.int .i32 n] H fun r H' => r = .bool (decide ((0 ≤ n ∧ n < 55296) ∨ (57343 < n ∧ n ≤ 1114111))) ∧ H' = H := by
  refine ACalls.eq (S71_calls ?_) rfl
  unfold S71
  by_cases h1 : 0 ≤ n
  · by_cases h2 : n < 55296
    · simp [h1, h2]
    · simp [h1, h2]
      unfold S71_22
      by_cases h3 : 57343 < n
      · by_cases h4 : n ≤ 1114111
        · simp [h1, h2, h3, h4]
        · simp [h1, h2, h3, h4]
      · simp [h1, h2, h3]
  · have h3 : ¬ 57343 < n := by omega
    simp [h1]
    unfold S71_22
    simp [h1, h3]
def scalar (n : Int) : Bool := decide ((0 ≤ n ∧ n < 55296) ∨ (57343 < n ∧ n ≤ 1114111))
theorem c61 {H : AHeap} (n : Int) : ACalls Try.prog 61 [.int .i64 n] H fun r H' => r = .bool (scalar n) ∧ H' = H := by
  refine ACalls.eq (S61_calls ?_) rfl
  unfold S61 scalar
  by_cases h1 : 0 ≤ n
  · by_cases h2 : n ≤ 1114111
    · have hw : IntKind.i32.wrap n = n := by rw [IntKind.wrap_i32]; omega
      simp [h1, h2, hw]
      refine (c71 n).use ?_
      simp [h1, h2]
    · have h3 : ¬ n < 55296 := by omega
      simp [h1, h2, h3]
  · have h3 : ¬ 57343 < n := by omega
    simp [h1, h3]

/-- Sound. -/
def Sm.sound (m : Sm) (v : V) : Bool :=
  if v.1 = 0 ∨ v.1 = 1 ∨ v.1 = 2 ∨ v.1 = 3 ∨ v.1 = 9 then decide (v.2 = 0)
  else if v.1 = 4 then true else if v.1 = 5 then scalar v.2 else if v.1 = 8 then decide (0 ≤ v.2 ∧ v.2 < 256)
  else if v.1 = 6 then decide (0 ≤ v.2 ∧ v.2 < m.names.length) else okRef m v
theorem c30 {H : AHeap} {p : Nat} {m : Sm} {F : Nat → Prop} (h : St H p m F) (v : V) : ACalls Try.prog 30 [Pt p, vV v] H fun r H' => r = .bool (m.sound v) ∧ H' = H := by
  refine ACalls.eq (S30_calls ?_) rfl
  obtain ⟨A, os, NA, mb, h⟩ := h
  have hk : ∀ x, Keep H.next H (H.alloc x) := fun x => (Keep.refl _ _).alloc (Nat.le_refl _) _
  have hx : ∀ x, StX (H.alloc x) p m F A os NA mb := fun x => h.frame (hk x).next fun b hb => (hk x).at_ b (h.lt b hb)
  have hp : ∀ x, (H.alloc x).at_ p = H.at_ p := fun x => AHeap.at_alloc_ne _ _ h.ne
  unfold S30
  simp
  rw [aJoin_eq]
  unfold Sm.sound
  have fin : ∀ x, v.1 = 0 ∨ v.1 = 1 ∨ v.1 = 2 ∨ v.1 = 3 ∨ v.1 = 9 → x = Value.bool true → S30_154 (Pt p) (fun r H' => r = .bool (decide (v.2 = 0)) ∧ Keep H.next H H') (.pointer (some ⟨H.next, 0, none⟩)) (.int .i64 v.1) [x] (H.alloc (.cells (eV v) .var 28)) := by
    intro x h5 hx5
    subst hx5
    unfold S30_154
    simp
    unfold S30_24
    simp [h5, hk]
  obtain ⟨t, n⟩ := v
  dsimp only at fin ⊢
  by_cases h0 : t = 0
  · subst h0
    simpa using fin _ (by simp) rfl
  by_cases h1 : t = 1
  · subst h1
    simpa using fin _ (by simp) rfl
  by_cases h2 : t = 2
  · subst h2
    unfold S30_153
    simpa using fin _ (by simp) rfl
  by_cases h3 : t = 3
  · subst h3
    unfold S30_153
    simpa using fin _ (by simp) rfl
  by_cases h9 : t = 9
  · subst h9
    unfold S30_153
    simpa using fin _ (by simp) rfl
  simp [h0, h1]
  unfold S30_153
  simp [h2, h3, h9]
  unfold S30_154
  simp
  by_cases h4 : t = 4
  · simp [h4, hk]
  simp [h4]
  unfold S30_147
  by_cases h5 : t = 5
  · simp [h5]
    unfold S30_46
    simp
    refine (c61 n).use ?_
    simp [hk]
  by_cases h8 : t = 8
  · simp [h5, h8]
    unfold S30_81
    by_cases g1 : 0 ≤ n
    · simp [g1, hk]
    · simp [g1, hk]
  by_cases h6 : t = 6
  · simp [h5, h8, h6]
    unfold S30_140
    by_cases g1 : 0 ≤ n
    · simp [g1, hk, hp, h.hp]
    · simp [g1, hk]
  simp [h5, h8, h6]
  unfold S30_146
  by_cases h7 : t = 7
  · simp [h7]
    subst h7
    refine (c62 (hx _) (7, n)).use ?_
    cases hv : okRef m (7, n) with
    | false => simp [hk]
    | true =>
      obtain ⟨a, b, cs, ho, ha, hs, hb, hat, hl, hc, hsl⟩ := h.look hv
      simp at hs
      simp [hs, hk]
  · simp [h7, hk, okRef]
end Go.Proofs.Ytngldjajfpbmbaa.A
