/- Contracts of functions that the statement reaches; each theorem carries its own conditions, the last theorem of the claim has none. -/
import Derived.Test.YtngldjajfpbmbaaMA
set_option linter.unusedVariables false
set_option linter.unusedSimpArgs false
namespace Go.Proofs.Ytngldjajfpbmbaa.A
open Go Go.Abs

theorem setCells_app_r (a : List Value) : ∀ (vs b : List Value) (o : Nat), setCells (a ++ b) (a.length + o) vs = a ++ setCells b o vs
  | [], b, o => by simp
  | v :: vs, b, o => by
    simp only [setCells_cons]
    rw [List.set_append_right _ _ (by omega), show a.length + o - a.length = o by omega, show a.length + o + 1 = a.length + (o + 1) by omega]
    exact setCells_app_r a vs _ _
theorem setCells_app_l (b : List Value) : ∀ (vs a : List Value) (o : Nat), o + vs.length ≤ a.length → setCells (a ++ b) o vs = setCells a o vs ++ b
  | [], a, o, _ => by simp
  | v :: vs, a, o, h => by
    simp only [setCells_cons]
    simp at h
    rw [List.set_append_left _ _ (by omega)]
    exact setCells_app_l b vs _ _ (by simp; omega)
theorem setCells_flat {α : Type} {enc : α → List Value} {n k : Nat} {vs : List Value} {y : α} (hkl : k + vs.length ≤ n) : ∀ (xs : List α) (j : Nat) (hj : j < xs.length), (∀ x ∈ xs, (enc x).length = n) → enc y = setCells (enc xs[j]) k vs →
    setCells (xs.flatMap enc) (j * n + k) vs = (xs.set j y).flatMap enc
  | [], j, hj, _, _ => by simp at hj
  | x :: xs, 0, _, hl, hy => by
    simp only [Nat.zero_mul, Nat.zero_add, List.flatMap_cons, List.set_cons_zero]
    rw [setCells_app_l _ _ _ _ (by rw [hl x (by simp)]; exact hkl)]
    simp at hy
    rw [hy]
  | x :: xs, j + 1, hj, hl, hy => by
    simp only [List.flatMap_cons, List.set_cons_succ]
    rw [show (j + 1) * n + k = (enc x).length + (j * n + k) by rw [hl x (by simp), Nat.add_mul]; omega, setCells_app_r]
    rw [setCells_flat hkl xs j (by simpa using hj) (fun z hz => hl z (by simp [hz])) (by simpa using hy)]
theorem setCells_take {cs vs : List Value} {o N : Nat} (h : o + vs.length ≤ N) (hN : N ≤ cs.length) : (setCells cs o vs).take N = setCells (cs.take N) o vs := by
  conv => lhs; rw [← List.take_append_drop N cs]
  rw [setCells_app_l _ _ _ _ (by rw [List.length_take, Nat.min_eq_left hN]; exact h)]
  rw [List.take_append_of_le_length (by rw [setCells_length, List.length_take, Nat.min_eq_left hN]; exact Nat.le_refl _)]
  rw [List.take_of_length_le]
  rw [setCells_length, List.length_take, Nat.min_eq_left hN]
  exact Nat.le_refl _
/-- A part of an element is set. -/
theorem _root_.Go.Abs.Ow.st {α : Type} {n : Nat} {enc : α → List Value} {e : TypeId} {lo : Nat} {H : AHeap} {A : Option Addr} {xs : List α} (h : Ow n enc e lo H A xs) {j k l off : Nat} {v : Value} {y : α} (hj : j < xs.length)
    (ho : off = j * n + k) (hv : (vcells v).length = l) (hok : (vcells v).all okCell = true) (hkl : k + l ≤ n) (hy : enc y = setCells (enc xs[j]) k (vcells v)) :
    ∃ b, A = some ⟨b, 0, none⟩ ∧ lo ≤ b ∧ b < H.next ∧ ∃ x, aSt l (.pointer (some ⟨b, off, none⟩)) v H = some (H.upd b x) ∧ Ow n enc e lo (H.upd b x) A (xs.set j y) ∧ ∃ cs, H.at_ b = .cells cs (.row n) e := by
  rcases h.2 with ⟨_, rfl⟩ | ⟨b, cs, rfl, h2, h3, h4, h5, h6⟩
  · simp at hj
  · have hb : (j + 1) * n ≤ xs.length * n := Nat.mul_le_mul_right _ hj
    rw [Nat.add_mul] at hb
    have hoff : off + l ≤ xs.length * n := by omega
    subst hv
    refine ⟨b, rfl, h2, h3, .cells (setCells cs off (vcells v)) (.row n) e, ?_, ⟨?_, .inr ⟨b, _, rfl, h2, h3, AHeap.at_upd_same _ _ _, ?_, ?_⟩⟩, cs, h4⟩
    · rw [aSt_ptr, h4, blkSt_cells, if_pos ⟨rfl, rfl, by omega, hok⟩]
      rfl
    · intro z hz
      rcases List.mem_or_eq_of_mem_set hz with hz | rfl
      · exact h.1 z hz
      · rw [hy, setCells_length]
        exact h.1 _ (List.getElem_mem hj)
    · rw [List.length_set, setCells_length]; exact h5
    · rw [List.length_set, setCells_take hoff h5, h6, ho]
      exact setCells_flat hkl xs j hj h.1 hy
theorem adv_zero (n : Nat) (A : Option Addr) : adv n A 0 = A := by
  cases A with
  | none => rfl
  | some a => simp [adv]
theorem _root_.Go.Abs.Ow.take {α : Type} {n : Nat} {enc : α → List Value} {e : TypeId} {lo : Nat} {H : AHeap} {A : Option Addr} {xs : List α} (h : Ow n enc e lo H A xs) (j : Nat) (hj : j ≤ xs.length) : Ow n enc e lo H A (xs.take j) := by
  refine ⟨fun x hx => h.1 x (List.mem_of_mem_take hx), ?_⟩
  rcases h.2 with ⟨h1, rfl⟩ | ⟨b, cs, rfl, h2, h3, h4, h5, h6⟩
  · exact .inl ⟨h1, by simp⟩
  · have hb : j * n ≤ xs.length * n := Nat.mul_le_mul_right _ hj
    refine .inr ⟨b, cs, rfl, h2, h3, h4, ?_, ?_⟩
    · rw [List.length_take, Nat.min_eq_left hj]; omega
    · have hl : ∀ x ∈ xs.take j, (enc x).length = n := fun x hx => h.1 x (List.mem_of_mem_take hx)
      have e1 := flatMap_length hl
      rw [List.length_take, Nat.min_eq_left hj] at e1 ⊢
      have : cs.take (j * n) = (cs.take (xs.length * n)).take (j * n) := by rw [List.take_take, Nat.min_eq_left hb]
      rw [this, h6]
      conv => lhs; rw [← List.take_append_drop j xs, List.flatMap_append]
      rw [← e1, List.take_left]

abbrev eB (x : Bool) : List Value := [.bool x]
/-- What can be come to. -/
inductive Reach (m : Sm) (roots : List V) : Nat → Prop
  | root {v : V} (h : v ∈ roots) (h7 : v.1 = 7) : Reach m roots v.2.toNat
  | step {i : Nat} {o : Ob} {v : V} (hi : Reach m roots i) (ho : m.objs[i]? = some o) (h : v ∈ o.slots) (h7 : v.1 = 7) : Reach m roots v.2.toNat
def okIx (m : Sm) (v : V) : Prop := v.1 = 7 → 0 ≤ v.2 ∧ v.2 < m.objs.length
/-- All that is held is there. -/
structure Vd (m : Sm) : Prop where
  ok : ∀ o ∈ m.objs, ∀ v ∈ o.slots, okIx m v
  syn : ∀ o ∈ m.objs, o.kind = 10 → o.slots = []
theorem sound_ix {m : Sm} {v : V} (h : m.sound v = true) : okIx m v := by
  intro h7
  have : m.sound v = okRef m v := by unfold Sm.sound; simp [h7]
  rw [this, okRef_iff] at h
  exact h.2
theorem shaped_le {k : Int} {n : Nat} (h : shaped k n = true) : k ≠ 10 := by
  rintro rfl
  simp [shaped] at h
theorem Vd.make {m : Sm} (h : Vd m) (k : Int) (xs : List V) : Vd (m.make k xs).2 := by
  unfold Sm.make
  split
  · rename_i hs
    split
    · rename_i hx
      split
      · exact h
      · rw [List.all_eq_true] at hx
        refine ⟨fun o ho v hv h7 => ?_, fun o ho h10 => ?_⟩
        · simp only [Sm.put, List.length_append, List.length_singleton] at ho ⊢
          rcases List.mem_append.1 ho with ho | ho
          · have := h.ok o ho v hv h7; omega
          · simp at ho
            subst ho
            have := sound_ix (hx v hv) h7; omega
        · simp only [Sm.put] at ho
          rcases List.mem_append.1 ho with ho | ho
          · exact h.syn o ho h10
          · simp at ho
            subst ho
            exact absurd h10 (shaped_le hs)
    · exact h
  · exact h
theorem Vd.new (n : Int) : Vd (Sm.new n) := ⟨by simp [Sm.new], by simp [Sm.new]⟩
def pend : List Ob → List Bool → Nat
  | o :: os, b :: bs => (if b then 0 else 1 + o.slots.length) + pend os bs
  | _, _ => 0
theorem pend_set : ∀ (os : List Ob) (bs : List Bool) (j : Nat) (o : Ob), os[j]? = some o → bs[j]? = some false → pend os (bs.set j true) + (1 + o.slots.length) = pend os bs
  | [], _, _, _, h, _ => by simp at h
  | _ :: _, [], _, _, _, h => by simp at h
  | o' :: os, b :: bs, 0, o, h, h' => by simp at h h'; subst h; subst h'; simp [pend]; omega
  | o' :: os, b :: bs, j + 1, o, h, h' => by
    have := pend_set os bs j o (by simpa using h) (by simpa using h')
    simp [pend]
    omega
theorem pend_le : ∀ (os : List Ob) (bs : List Bool), (∀ o ∈ os, o.kind = 10 → o.slots = []) → pend os bs ≤ total os
  | [], bs, _ => by simp [pend]
  | o :: os, [], _ => by simp [pend]
  | o :: os, b :: bs, h => by
    have := pend_le os bs fun x hx => h x (by simp [hx])
    have h1 : 1 + o.slots.length ≤ o.cells := by
      unfold Ob.cells
      split
      · rename_i hk; rw [h o (by simp) hk]; simp
      · omega
    simp [pend, total] at *
    split <;> omega
theorem getD_set (s : List Bool) (j i : Nat) (hj : j < s.length) : (s.set j true).getD i false = if i = j then true else s.getD i false := by
  rw [List.getD_eq_getElem?_getD, List.getD_eq_getElem?_getD, List.getElem?_set]
  by_cases h : j = i
  · subst h; simp [hj]
  · have : ¬ i = j := fun e => h e.symm
    simp [h, this]
end Go.Proofs.Ytngldjajfpbmbaa.A

set_option linter.unusedVariables false
set_option linter.unusedSimpArgs false
namespace Go.Proofs.Ytngldjajfpbmbaa.A
open Go Go.Abs

/-- The state of the search. -/
structure Dfs (m : Sm) (roots todo : List V) (s : List Bool) : Prop where
  len : s.length = m.objs.length
  ix : ∀ v ∈ todo, okIx m v
  rt : ∀ v ∈ todo, v.1 = 7 → Reach m roots v.2.toNat
  rs : ∀ i, s.getD i false = true → Reach m roots i
  c1 : ∀ v ∈ roots, v.1 = 7 → s.getD v.2.toNat false = true ∨ v ∈ todo
  c2 : ∀ (i : Nat) (o : Ob), s.getD i false = true → m.objs[i]? = some o → ∀ v ∈ o.slots, v.1 = 7 → s.getD v.2.toNat false = true ∨ v ∈ todo
theorem Dfs.skip {m : Sm} {roots todo : List V} {v : V} {s : List Bool} (h : Dfs m roots (todo ++ [v]) s) (hv : v.1 = 7 → s.getD v.2.toNat false = true) : Dfs m roots todo s where
  len := h.len
  ix w hw := h.ix w (by simp [hw])
  rt w hw := h.rt w (by simp [hw])
  rs := h.rs
  c1 w hw h7 := by
    rcases h.c1 w hw h7 with h1 | h1
    · exact .inl h1
    · rcases List.mem_append.1 h1 with h1 | h1
      · exact .inr h1
      · simp at h1; subst h1; exact .inl (hv h7)
  c2 i o hi ho w hw h7 := by
    rcases h.c2 i o hi ho w hw h7 with h1 | h1
    · exact .inl h1
    · rcases List.mem_append.1 h1 with h1 | h1
      · exact .inr h1
      · simp at h1; subst h1; exact .inl (hv h7)
theorem Dfs.mark {m : Sm} {roots todo : List V} {v : V} {s : List Bool} (h : Dfs m roots (todo ++ [v]) s) (hV : Vd m) (h7 : v.1 = 7) {o : Ob} (ho : m.objs[v.2.toNat]? = some o) : Dfs m roots (todo ++ o.slots) (s.set v.2.toNat true) := by
  have hlt : v.2.toNat < s.length := by rw [h.len]; exact (List.getElem?_eq_some_iff.1 ho).1
  have hr := h.rt v (by simp) h7
  have mono : ∀ i, s.getD i false = true → (s.set v.2.toNat true).getD i false = true := fun i hi => by rw [getD_set _ _ _ hlt]; split <;> first | rfl | exact hi
  have me : (s.set v.2.toNat true).getD v.2.toNat false = true := by rw [getD_set _ _ _ hlt, if_pos rfl]
  have go : ∀ w, s.getD w.2.toNat false = true ∨ w ∈ todo ++ [v] → (s.set v.2.toNat true).getD w.2.toNat false = true ∨ w ∈ todo ++ o.slots := by
    rintro w (h1 | h1)
    · exact .inl (mono _ h1)
    · rcases List.mem_append.1 h1 with h1 | h1
      · exact .inr (by simp [h1])
      · simp at h1; subst h1; exact .inl me
  refine ⟨by simp [h.len], fun w hw => ?_, fun w hw hw7 => ?_, fun i hi => ?_, fun w hw hw7 => go w (h.c1 w hw hw7), fun i o' hi ho' w hw hw7 => ?_⟩
  · rcases List.mem_append.1 hw with h1 | h1
    · exact h.ix w (by simp [h1])
    · exact hV.ok o (List.mem_of_getElem? ho) w h1
  · rcases List.mem_append.1 hw with h1 | h1
    · exact h.rt w (by simp [h1]) hw7
    · exact .step hr ho h1 hw7
  · rw [getD_set _ _ _ hlt] at hi
    split at hi
    · rename_i e; subst e; exact hr
    · exact h.rs i hi
  · rw [getD_set _ _ _ hlt] at hi
    split at hi
    · rename_i e; subst e
      rw [ho] at ho'
      cases ho'
      exact .inr (by simp [hw])
    · exact go w (h.c2 i o' hi ho' w hw hw7)
theorem Dfs.done {m : Sm} {roots : List V} {s : List Bool} (h : Dfs m roots [] s) (i : Nat) : s.getD i false = true ↔ Reach m roots i := by
  refine ⟨h.rs i, fun hr => ?_⟩
  induction hr with
  | @root v hv h7 => exact (h.c1 v hv h7).resolve_right (by simp)
  | @step i o v _ ho hv h7 ih => exact (h.c2 i o ih ho v hv h7).resolve_right (by simp)
theorem Dfs.start {m : Sm} {roots : List V} (hx : ∀ v ∈ roots, okIx m v) : Dfs m roots roots (List.replicate m.objs.length false) := by
  have e : ∀ i, (List.replicate m.objs.length false).getD i false = false := fun i => by
    rw [List.getD_eq_getElem?_getD, List.getElem?_replicate]; split <;> rfl
  refine ⟨by simp, hx, fun v hv h7 => .root hv h7, fun i hi => (by rw [e] at hi; cases hi), fun v hv _ => .inr hv, fun i o hi => (by rw [e] at hi; cases hi)⟩

theorem flat_rep (n : Nat) : List.replicate n (Value.bool false) = (List.replicate n false).flatMap eB := by
  induction n with
  | zero => rfl
  | succ n ih => simp [List.replicate_succ, ih]

theorem c44 {H : AHeap} {p : Nat} {m : Sm} {F : Nat → Prop} (h : St H p m F) (hI : Inv m) (hV : Vd m) {lo : Nat} {B : Option Addr} {xs : List V} (hlo : lo ≤ H.next) (hB : Rd 2 eV lo H B xs) (hn : xs.length ≤ 2097152) (he : xs = [] → B = none ∨ True) (hx : ∀ v ∈ xs, okIx m v) :
    ACalls Try.prog 44 [Pt p, .slice B xs.length xs.length] H fun r H' => ∃ C s, r = .slice C s.length s.length ∧ s.length = m.objs.length ∧ Ow 1 eB 4 H.next H' C s ∧ Keep H.next H H' ∧ ∀ i, s.getD i false = true ↔ Reach m xs i := by
  refine S44_calls ?_
  unfold S44
  have hlen := hI.len
  obtain ⟨A, os, NA, mb, hX⟩ := id h
  simp [hX.hp, aMakeSlice]
  refine ⟨by omega, ?_⟩
  simp only [Int.toNat_natCast, List.getD_cons_zero]
  obtain ⟨H1, hH1⟩ : ∃ X, X = H.alloc (.cells (List.replicate m.objs.length (.bool false)) (.row 1) 4) := ⟨_, rfl⟩
  rw [← hH1]
  have hk1 : Keep H.next H H1 := hH1 ▸ (Keep.refl _ _).alloc (Nat.le_refl _) _
  have hn1 : H1.next = H.next + 1 := by rw [hH1]; simp
  have hS1 : Ow 1 eB 4 H.next H1 (some ⟨H.next, 0, none⟩) (List.replicate m.objs.length false) := by
    rw [hH1]; exact Ow.new H _ (by simp) (flat_rep _)
  clear hH1
  have hB1 : Rd 2 eV lo H1 B xs := hB.keep fun b hb => hk1.at_ b (by omega)
  refine (c42 (by omega) hB1 hn he).mono fun r H2 ⟨T, hr, hT, hk2⟩ => ?_
  subst hr
  have htot : total m.objs ≤ 1048576 := by have := hI.sum; have := hI.le; have := hI.lim; omega
  refine aLoop_inv (fun μ vs H' => ∃ T todo s, vs = [.slice T todo.length todo.length] ∧ Ow 2 eV 28 H.next H' T todo ∧ Ow 1 eB 4 H.next H' (some ⟨H.next, 0, none⟩) s ∧ Keep H.next H H' ∧ μ = pend m.objs s + todo.length ∧ μ ≤ 4194304 ∧ Dfs m xs todo s)
    (pend m.objs (List.replicate m.objs.length false) + xs.length) ⟨T, xs, _, rfl, hT.lower (by omega), hS1.kept hk2, hk1.trans (hk2.lower (by omega)), rfl, ?_, Dfs.start hx⟩ ?_
  · have := pend_le m.objs (List.replicate m.objs.length false) hV.syn
    omega
  rintro μ vs H' again ⟨T, todo, s, rfl, hT, hS, hk, hμ, hμ2, hD⟩ ha
  have hsl := hD.len
  unfold S44_72
  by_cases hz : todo.length = 0
  · have : todo = [] := List.eq_nil_of_length_eq_zero hz
    subst this
    simp
    refine ⟨_, s, ⟨rfl, ?_⟩, hsl, hS, hk, fun i => hD.done i⟩
    omega
  · have hpos : 0 < todo.length := by omega
    simp [hpos]
    obtain ⟨todo', v, rfl⟩ : ∃ t v, todo = t ++ [v] := ⟨todo.dropLast, todo.getLast (by intro e; simp [e] at hz), (List.dropLast_concat_getLast _).symm⟩
    have hlen2 : (todo' ++ [v]).length = todo'.length + 1 := by simp
    have hlt : todo'.length < (todo' ++ [v]).length := by omega
    have w1 := wrap64 (x := (todo'.length : Int)) (by omega) (by omega)
    have i1 := hT.rd.idx (k := .i64) (j := (todo'.length : Int)) (c := (todo' ++ [v]).length) (by omega) (by omega)
    rw [Int.toNat_natCast] at i1
    have l1 := hT.rd.agg hlt
    have ev : (todo' ++ [v])[todo'.length] = v := by simp
    rw [ev] at l1
    have c1 := hT.rd.sliceHi (k := .i64) (j := (todo'.length : Int)) (by omega) (by omega)
    rw [adv_zero, Int.toNat_natCast] at c1
    have hT' : Ow 2 eV 28 H.next H' T todo' := by
      have := hT.take todo'.length (by omega)
      rwa [List.take_left] at this
    rw [hlen2] at i1 c1 hμ
    unfold S44_71
    simp [hlen2, w1, i1, l1, at_alloc, -aLdAgg_ptr, c1]
    obtain ⟨G, hG⟩ : ∃ X, X = ((H'.alloc (.cells [.int .i64 0, .int .i64 0] .var 28)).upd H'.next (.cells [.int .i64 v.1, .int .i64 v.2] .var 28)) := ⟨_, rfl⟩
    simp only [← hG]
    have hkG : Keep H'.next H' G := hG ▸ ((Keep.refl _ _).alloc (Nat.le_refl _) _).upd (Nat.le_refl _) _
    have hnG : G.next = H'.next + 1 := by rw [hG]; simp
    have eG : G.at_ H'.next = .cells [.int .i64 v.1, .int .i64 v.2] .var 28 := by rw [hG]; simp [at_upd]
    clear hG
    have hnk := hk.next
    have hTG := hT'.kept hkG
    have hSG := hS.kept hkG
    by_cases h7 : v.1 = 7
    · obtain ⟨v0, v1⟩ := hD.ix v (by simp) h7
      have hlt2 : v.2.toNat < s.length := by omega
      have i2 := hSG.rd.idx (k := .i64) (j := v.2) (c := s.length) (by omega) (by omega)
      rw [hsl] at i2
      have l2 := hSG.rd.ld (enc := Value.bool) hlt2
      have l3 : aLdCell (.pointer (some ⟨H'.next, 1, none⟩)) G = some (.int .i64 v.2) := by simp [eG]
      have l4 : aLdCell (.pointer (some ⟨H'.next, 0, none⟩)) G = some (.int .i64 v.1) := by simp [eG]
      simp [h7, l3, i2, l2, -aLdCell_ptr]
      cases hs : s[v.2.toNat] with
      | true =>
        simp
        have hD' := hD.skip fun _ => by rw [List.getD_eq_getElem?_getD, List.getElem?_eq_getElem hlt2, hs]; rfl
        refine ha (pend m.objs s + todo'.length) _ _ (by omega) ⟨T, todo', s, rfl, hTG, hSG, hk.trans (hkG.lower (by omega)), rfl, by omega, hD'⟩
      | false =>
        simp
        unfold S44_70
        obtain ⟨b, hb, _, _, x, hst, hS2, cs, hcs⟩ := hSG.st (j := v.2.toNat) (k := 0) (l := 1) (off := v.2.toNat) (v := .bool true) (y := true) hlt2 (by omega) (by simp) (by simp) (by omega) (by simp)
        cases hb
        have hok : okRef m v = true := okRef_iff.2 ⟨h7, v0, v1⟩
        have hkk : Keep H.next H (G.upd H.next x) := (hk.trans (hkG.lower (by omega))).upd (Nat.le_refl _) _
        have hX2 : StX (G.upd H.next x) p m F A os NA mb := hX.frame hkk.next fun b hb => hkk.at_ b (hX.lt b hb)
        obtain ⟨a, b, cs2, ho, ha2, hs2, hb, hat, hl, hc, hsl2⟩ := hX2.look hok
        have l5 : aLdCell (.pointer (some ⟨b, v.2.toNat * 10 + 1, none⟩)) (G.upd H.next x) = some (.slice a (m.ob v).slots.length (m.ob v).slots.length) := by
          simp [hat, hc 1 (by omega), encO]
        have l6 : aLdCell (.pointer (some ⟨H'.next, 1, none⟩)) (G.upd H.next x) = some (.int .i64 v.2) := by
          have : H'.next ≠ H.next := by
            rcases hS.2 with ⟨h1, _⟩ | ⟨c, ds, h1, _, h2, _⟩
            · cases h1
            · cases h1; omega
          simp [at_upd, this, eG]
        have l7 : aLdCell (.pointer (some ⟨p, 2, none⟩)) (G.upd H.next x) = some (.slice A m.objs.length m.objs.length) := by
          simp [hX2.hp]
        have i3 := hX2.idx (k := .i64) (c := m.objs.length) v0 v1
        have hst' : aSt 1 (slot 1 (some ⟨H.next, 0, none⟩) v.2.toNat) (.bool true) G = some (G.upd H.next x) := by simpa [slot] using hst
        simp [l3, i2, hst', l7, l6, i3, hs2, l5, -aLdCell_ptr, -aSt_ptr]
        have hT2 : Ow 2 eV 28 H.next (G.upd H.next x) T todo' := by
          refine hTG.at (Nat.le_refl _) ?_
          rintro y rfl
          rw [AHeap.at_upd_ne]
          rintro e
          rcases hTG.2 with ⟨h1, _⟩ | ⟨c, ds, h1, _, _, h2, _⟩
          · cases h1
          · cases h1
            dsimp only at e
            rw [e, hcs] at h2
            cases h2
        have hpe := pend_set m.objs s v.2.toNat (m.ob v) ho (by rw [List.getElem?_eq_getElem hlt2, hs])
        refine hT2.append (lo' := (G.upd H.next x).next) (hsl2.rd) (by simp; omega) (by simp only [maxLen]; omega) (by omega) fun H3 hO3 hn3 hat3 hk3 => ?_
        have hS3 : Ow 1 eB 4 H.next H3 (some ⟨H.next, 0, none⟩) (s.set v.2.toNat true) := by
          refine hS2.at (by omega) ?_
          rintro y hy
          cases hy
          refine hat3 _ (by simp; omega) ?_
          rintro o' s' rfl
          rcases hTG.2 with ⟨h1, _⟩ | ⟨c, ds, h1, _, _, h2, _⟩
          · cases h1
          · cases h1
            rw [hcs] at h2
            cases h2
        refine ha (pend m.objs (s.set v.2.toNat true) + (todo' ++ (m.ob v).slots).length) _ _ (by rw [List.length_append]; omega) ⟨_, todo' ++ (m.ob v).slots, _, rfl, hO3, hS3, hkk.trans (hk3.lower (Nat.le_refl _)), rfl, by rw [List.length_append]; omega, hD.mark hV h7 ho⟩
    · have l4 : aLdCell (.pointer (some ⟨H'.next, 0, none⟩)) G = some (.int .i64 v.1) := by simp [eG]
      simp [h7]
      have hD' := hD.skip fun h => absurd h h7
      refine ha (pend m.objs s + todo'.length) _ _ (by omega) ⟨T, todo', s, rfl, hTG, hSG, hk.trans (hkG.lower (by omega)), rfl, by omega, hD'⟩
end Go.Proofs.Ytngldjajfpbmbaa.A

set_option linter.unusedVariables false
set_option linter.unusedSimpArgs false
namespace Go.Proofs.Ytngldjajfpbmbaa.A
open Go Go.Abs

/-- Where a value is behind a giving up. -/
def mv (pl : List Int) (v : V) : V := if v.1 = 7 then (7, pl.getD v.2.toNat 0) else v
theorem _root_.Go.Abs.Ow.blkOf {α : Type} {n : Nat} {enc : α → List Value} {e : TypeId} {lo : Nat} {H : AHeap} {A : Option Addr} {xs : List α} (h : Ow n enc e lo H A xs) {x : Addr} (hx : A = some x) : x.off = 0 ∧ lo ≤ x.block ∧ x.block < H.next ∧ ∃ cs, H.at_ x.block = .cells cs (.row n) e := by
  rcases h.2 with ⟨h1, _⟩ | ⟨b, cs, h1, h2, h3, h4, _⟩
  · rw [h1] at hx; cases hx
  · rw [h1] at hx; cases hx; exact ⟨rfl, h2, h3, cs, h4⟩

theorem mid_at {xs : List V} {f : V → V} {i : Nat} (h : i < xs.length) : ((xs.take i).map f ++ xs.drop i)[i]? = some xs[i] := by
  rw [List.getElem?_append_right (by simp; omega)]
  simp [Nat.min_eq_left (Nat.le_of_lt h)]
theorem mid_set {xs : List V} {f : V → V} {i : Nat} (h : i < xs.length) : ((xs.take i).map f ++ xs.drop i).set i (f xs[i]) = (xs.take (i + 1)).map f ++ xs.drop (i + 1) := by
  rw [List.set_append_right _ _ (by simp; omega)]
  simp only [List.length_map, List.length_take, Nat.min_eq_left (Nat.le_of_lt h), Nat.sub_self]
  rw [List.drop_eq_getElem_cons h, List.set_cons_zero, List.take_succ_eq_append_getElem h, List.map_append]
  simp

theorem c46 {H : AHeap} {q : Nat} {Q A : Option Addr} {pl : List Int} {xs : List V} (hq : H.at_ q = .cells [.slice Q pl.length pl.length] .var 77) (hql : q < H.next) (hQ : Ow 1 eI 3 0 H Q pl) (hA : Ow 2 eV 28 0 H A xs) (hn : xs.length ≤ 2097152)
    (hx : ∀ v ∈ xs, v.1 = 7 → 0 ≤ v.2 ∧ v.2 < pl.length) :
    ACalls Try.prog 46 [.slice A xs.length xs.length, Pt q] H fun r H' => r = .tuple #[] ∧ Ow 2 eV 28 0 H' A (xs.map (mv pl)) ∧ H.next ≤ H'.next ∧ ∀ b, b < H.next → (∀ x, A = some x → x.block ≠ b) → H'.at_ b = H.at_ b := by
  refine S46_calls ?_
  unfold S46
  simp
  refine aLoop_st xs.length (fun i => [.int .i64 i]) (fun i H' => Ow 2 eV 28 0 H' A ((xs.take i).map (mv pl) ++ xs.drop i) ∧ H.next ≤ H'.next ∧ ∀ b, b < H.next → (∀ x, A = some x → x.block ≠ b) → H'.at_ b = H.at_ b) rfl ⟨by simpa using hA, Nat.le_refl _, fun _ _ _ => rfl⟩ ?_
  rintro i H' again hi ⟨hO, hn', hat⟩ ha
  unfold S46_27
  by_cases h : i < xs.length
  · have hlen : ((xs.take i).map (mv pl) ++ xs.drop i).length = xs.length := by simp; omega
    have hlt : i < ((xs.take i).map (mv pl) ++ xs.drop i).length := by omega
    have w1 := wrap64 (x := (i : Int) + 1) (by omega) (by omega)
    have i1 := hO.rd.idx (k := .i64) (j := (i : Int)) (c := xs.length) (by omega) (by omega)
    rw [hlen, Int.toNat_natCast] at i1
    have l1 := hO.rd.agg hlt
    have ev : ((xs.take i).map (mv pl) ++ xs.drop i)[i] = xs[i] := by
      have := mid_at (f := mv pl) h
      rw [List.getElem?_eq_getElem hlt] at this
      exact Option.some.inj this
    rw [ev] at l1
    simp [h]
    unfold S46_26
    rw [aJoin_eq]
    simp [i1, l1, w1, at_alloc, -aLdAgg_ptr]
    obtain ⟨G, hG⟩ : ∃ X, X = ((H'.alloc (.cells [.int .i64 0, .int .i64 0] .var 28)).upd H'.next (.cells [.int .i64 xs[i].1, .int .i64 xs[i].2] .var 28)) := ⟨_, rfl⟩
    simp only [← hG]
    have hkG : Keep H'.next H' G := hG ▸ ((Keep.refl _ _).alloc (Nat.le_refl _) _).upd (Nat.le_refl _) _
    have hnG : G.next = H'.next + 1 := by rw [hG]; simp
    have eG : G.at_ H'.next = .cells [.int .i64 xs[i].1, .int .i64 xs[i].2] .var 28 := by rw [hG]; simp [at_upd]
    clear hG
    have hOG := hO.kept hkG
    by_cases h7 : xs[i].1 = 7
    · obtain ⟨v0, v1⟩ := hx xs[i] (List.getElem_mem h) h7
      simp [h7]
      unfold S46_25
      have hqA : ∀ x, A = some x → x.block ≠ q := by
        rintro x hx rfl
        obtain ⟨_, _, _, cs, hcs⟩ := hA.blkOf hx
        rw [hq] at hcs
        cases hcs
      have e1 : G.at_ q = .cells [.slice Q pl.length pl.length] .var 77 := by
        rw [hkG.at_ q (by omega), hat q hql hqA, hq]
      have hQG : Ow 1 eI 3 0 G Q pl := by
        refine hQ.at (by omega) ?_
        intro x hx
        obtain ⟨_, _, hb, cs, hcs⟩ := hQ.blkOf hx
        rw [hkG.at_ _ (by omega), hat _ hb]
        rintro y hy e
        obtain ⟨_, _, _, ds, hds⟩ := hA.blkOf hy
        rw [e, hcs] at hds
        cases hds
      have i2 := hQG.rd.idx (k := .i64) (j := xs[i].2) (c := pl.length) v0 v1
      have l2 := hQG.rd.ld (enc := Value.int .i64) (j := xs[i].2.toNat) (by omega)
      have l3 : aLdCell (.pointer (some ⟨H'.next, 1, none⟩)) G = some (.int .i64 xs[i].2) := by simp [eG]
      have l4 : aLdCell (.pointer (some ⟨q, 0, none⟩)) G = some (.slice Q pl.length pl.length) := by simp [e1]
      have hm : mv pl xs[i] = (7, pl[xs[i].2.toNat]'(by omega)) := by
        unfold mv
        rw [if_pos h7, List.getD_eq_getElem?_getD, List.getElem?_eq_getElem (by omega)]
        rfl
      obtain ⟨b, hb, _, hbl, x, hst, hO2, cs, hcs⟩ := hOG.st (j := i) (k := 1) (l := 1) (off := i * 2 + 1) (v := .int .i64 (pl[xs[i].2.toNat]'(by omega))) (y := mv pl xs[i]) hlt rfl (by simp) (by simp) (by omega) (by rw [ev, hm]; simp [h7])
      have hs2 : slot 2 A i = .pointer (some ⟨b, i * 2, none⟩) := by rw [hb]; simp [slot]
      simp [l3, l4, i2, l2, i1, hs2, hst, -aLdCell_ptr, -aSt_ptr, w1]
      rw [mid_set h] at hO2
      refine ha _ h ⟨hO2, by simp; omega, fun c hc hcA => ?_⟩
      rw [AHeap.at_upd_ne _ _ (fun e => hcA _ hb (by rw [e])), hkG.at_ c (by omega)]
      exact hat c hc hcA
    · simp [h7, w1]
      have hm : mv pl xs[i] = xs[i] := by unfold mv; rw [if_neg h7]
      have hset : (xs.take i).map (mv pl) ++ xs.drop i = (xs.take (i + 1)).map (mv pl) ++ xs.drop (i + 1) := by
        rw [List.drop_eq_getElem_cons h, List.take_succ_eq_append_getElem h, List.map_append]
        simp [hm]
      rw [hset] at hOG
      refine ha _ h ⟨hOG, by omega, fun c hc hcA => ?_⟩
      rw [hkG.at_ c (by omega)]
      exact hat c hc hcA
  · have hie : i = xs.length := by omega
    subst hie
    simp at hO
    simp
    exact ⟨hO, hn', hat⟩

/-! What is kept. -/
def keepP {α : Type} : List α → List Bool → List α
  | x :: xs, b :: bs => if b then x :: keepP xs bs else keepP xs bs
  | _, _ => []
theorem keepP_nil {α : Type} (s : List Bool) : keepP ([] : List α) s = [] := by cases s <;> rfl
theorem keepP_map {α β : Type} (f : α → β) : ∀ (xs : List α) (s : List Bool), keepP (xs.map f) s = (keepP xs s).map f
  | [], s => by simp [keepP_nil]
  | x :: xs, [] => by simp [keepP]
  | x :: xs, b :: bs => by cases b <;> simp [keepP, keepP_map f xs bs]
theorem keepP_take {α : Type} : ∀ (xs : List α) (s : List Bool) (i : Nat) (x : α), xs[i]? = some x → keepP (xs.take (i + 1)) s = keepP (xs.take i) s ++ (if s.getD i false then [x] else [])
  | [], s, i, x, h => by simp at h
  | y :: ys, [], i, x, h => by cases i <;> simp [keepP]
  | y :: ys, b :: bs, 0, x, h => by simp at h; subst h; cases b <;> simp [keepP, keepP_nil]
  | y :: ys, b :: bs, i + 1, x, h => by
    have := keepP_take ys bs i x (by simpa using h)
    simp at this
    cases b <;> simp [keepP, this]
theorem keepP_idx {α : Type} : ∀ (xs : List α) (s : List Bool) (i : Nat) (z : α), (keepP xs s)[i]? = some z → ∃ j : Nat, xs[j]? = some z ∧ s.getD j false = true ∧ (keepP (xs.take j) s).length = i
  | [], s, i, z, h => by simp [keepP_nil] at h
  | y :: ys, [], i, z, h => by simp [keepP] at h
  | y :: ys, true :: bs, 0, z, h => by simp [keepP] at h; subst h; exact ⟨0, by simp, by simp, by simp [keepP]⟩
  | y :: ys, true :: bs, i + 1, z, h => by
    simp [keepP] at h
    obtain ⟨j, h1, h2, h3⟩ := keepP_idx ys bs i z h
    exact ⟨j + 1, by simpa using h1, by simpa using h2, by simp [keepP, h3]⟩
  | y :: ys, false :: bs, i, z, h => by
    simp [keepP] at h
    obtain ⟨j, h1, h2, h3⟩ := keepP_idx ys bs i z h
    exact ⟨j + 1, by simpa using h1, by simpa using h2, by simp [keepP, h3]⟩
theorem keepP_at {α : Type} : ∀ (xs : List α) (s : List Bool) (j : Nat) (z : α), xs[j]? = some z → s.getD j false = true → (keepP xs s)[(keepP (xs.take j) s).length]? = some z
  | [], s, j, z, h, _ => by simp at h
  | y :: ys, [], j, z, _, h => by simp at h
  | y :: ys, true :: bs, 0, z, h, _ => by simp at h; subst h; simp [keepP]
  | y :: ys, false :: bs, 0, z, h, h' => by simp at h'
  | y :: ys, true :: bs, j + 1, z, h, h' => by
    have := keepP_at ys bs j z (by simpa using h) (by simpa using h')
    simpa [keepP] using this
  | y :: ys, false :: bs, j + 1, z, h, h' => by
    have := keepP_at ys bs j z (by simpa using h) (by simpa using h')
    simpa [keepP] using this
theorem keepP_len_le {α : Type} : ∀ (xs : List α) (s : List Bool), (keepP xs s).length ≤ xs.length
  | [], s => by simp [keepP_nil]
  | y :: ys, [] => by simp [keepP]
  | y :: ys, b :: bs => by have := keepP_len_le ys bs; cases b <;> simp [keepP] <;> omega
theorem keepP_total : ∀ (xs : List Ob) (s : List Bool), total (keepP xs s) ≤ total xs
  | [], s => by simp [keepP_nil]
  | y :: ys, [] => by simp [keepP, total]
  | y :: ys, b :: bs => by have := keepP_total ys bs; cases b <;> simp [keepP, total] at * <;> omega
theorem keepP_mem {α : Type} {xs : List α} {s : List Bool} {z : α} (h : z ∈ keepP xs s) : z ∈ xs := by
  obtain ⟨i, hi⟩ := List.getElem?_of_mem h
  obtain ⟨j, hj, _⟩ := keepP_idx xs s i z hi
  exact List.mem_of_getElem? hj

/-- Where the kept are. -/
def placeTo (m : Sm) (s : List Bool) (i : Nat) : List Int := (List.range m.objs.length).map fun j => if j < i ∧ s.getD j false = true then ((keepP (m.objs.take j) s).length : Int) else 0
def place (m : Sm) (s : List Bool) : List Int := placeTo m s m.objs.length
theorem placeTo_len (m : Sm) (s : List Bool) (i : Nat) : (placeTo m s i).length = m.objs.length := by simp [placeTo]
theorem placeTo_zero (m : Sm) (s : List Bool) : placeTo m s 0 = List.replicate m.objs.length 0 := by
  refine List.ext_getElem (by simp [placeTo]) fun j h1 h2 => ?_
  simp [placeTo]
theorem placeTo_succ (m : Sm) (s : List Bool) (i : Nat) (hi : i < m.objs.length) : placeTo m s (i + 1) = if s.getD i false = true then (placeTo m s i).set i ((keepP (m.objs.take i) s).length : Int) else placeTo m s i := by
  split
  · rename_i h
    refine List.ext_getElem (by simp [placeTo]) fun j h1 h2 => ?_
    rw [List.getElem_set]
    by_cases e : i = j
    · subst e
      rw [if_pos rfl]
      simp only [placeTo, List.getElem_map, List.getElem_range]
      rw [if_pos ⟨by omega, h⟩]
    · rw [if_neg e]
      simp only [placeTo, List.getElem_map, List.getElem_range]
      have : j < i + 1 ↔ j < i := by omega
      simp only [this]
  · rename_i h
    refine List.ext_getElem (by simp [placeTo]) fun j h1 h2 => ?_
    simp only [placeTo, List.getElem_map, List.getElem_range]
    by_cases e : i = j
    · subst e
      rw [if_neg (fun hh => h hh.2), if_neg (fun hh => h hh.2)]
    · have : j < i + 1 ↔ j < i := by omega
      simp only [this]
def mvOb (pl : List Int) (o : Ob) : Ob := ⟨o.kind, o.slots.map (mv pl), o.sk, o.text⟩
theorem encO_mv (pl : List Int) (o : Ob) (a : Option Addr) : encO (mvOb pl o, a) = encO (o, a) := by simp [encO, mvOb]
theorem cells_mv (pl : List Int) (o : Ob) : (mvOb pl o).cells = o.cells := by simp [Ob.cells, mvOb]
def Sm.collect (m : Sm) (s : List Bool) : Sm := ⟨m.lim, (total (keepP m.objs s) : Nat), (keepP m.objs s).map (mvOb (place m s)), m.names⟩
end Go.Proofs.Ytngldjajfpbmbaa.A

set_option linter.unusedVariables false
set_option linter.unusedSimpArgs false
namespace Go.Proofs.Ytngldjajfpbmbaa.A
open Go Go.Abs

theorem c43 {H : AHeap} {p q : Nat} {m : Sm} {F : Nat → Prop} (h : St H p m F) (hq : H.at_ q = .cells [Pt p] .var 22) (hl : q < H.next) (v : V) : ACalls Try.prog 43 [vV v, Pt q] H fun r H' => r = .bool (!m.sound v) ∧ H' = H := by
  refine ACalls.eq (S43_calls ?_) rfl
  unfold S43
  have hne : q ≠ H.next := by omega
  simp [at_alloc, hne, hq]
  refine (c30 (h.alloc _) v).use ?_
  simp [Keep.alloc]

/-- The store's objects and their rows, as pairs. -/
abbrev Zs (m : Sm) (os : List (Option Addr)) : List (Ob × Option Addr) := m.objs.zip os
def at_used (m : Sm) (u : Int) : Sm := ⟨m.lim, u, m.objs, m.names⟩

/-- The first loop of Collect. -/
structure L1 (m : Sm) (H0 : AHeap) (p : Nat) (F : Nat → Prop) (A : Option Addr) (os : List (Option Addr)) (NA : Option Addr) (mb : Nat) (t7 : Nat) (Q C : Option Addr) (s : List Bool) (i : Nat) (H : AHeap) (L : Option Addr) : Prop where
  n1 : t7 < H.next
  n0 : H0.next < t7
  t2 : H.at_ H0.next = .cells [Pt p] .var 22
  t7 : H.at_ t7 = .cells [.slice Q m.objs.length m.objs.length] .var 77
  hQ : Ow 1 eI 3 H0.next H Q (placeTo m s i)
  hC : Ow 1 eB 4 H0.next H C s
  hX : StX H p (at_used m (total (keepP (m.objs.take i) s) : Nat)) F A os NA mb
  hL : Ow 10 encO 94 H0.next H L (keepP ((Zs m os).take i) s)
  fr : ∀ b, b < H0.next → ¬ F b → H.at_ b = H0.at_ b
theorem L1.kept {m : Sm} {H0 : AHeap} {p : Nat} {F : Nat → Prop} {A : Option Addr} {os : List (Option Addr)} {NA : Option Addr} {mb t7 : Nat} {Q C : Option Addr} {s : List Bool} {i : Nat} {H H' : AHeap} {L : Option Addr}
    (h : L1 m H0 p F A os NA mb t7 Q C s i H L) (hk : Keep H.next H H') : L1 m H0 p F A os NA mb t7 Q C s i H' L where
  n1 := Nat.lt_of_lt_of_le h.n1 hk.next
  n0 := h.n0
  t2 := by rw [hk.at_ _ (Nat.lt_trans h.n0 h.n1)]; exact h.t2
  t7 := by rw [hk.at_ _ h.n1]; exact h.t7
  hQ := h.hQ.kept hk
  hC := h.hC.kept hk
  hX := h.hX.frame hk.next fun b hb => hk.at_ b (h.hX.lt b hb)
  hL := h.hL.kept hk
  fr b hb hf := by rw [hk.at_ b (by have := h.n0; have := h.n1; omega)]; exact h.fr b hb hf

theorem zs_take {m : Sm} {os : List (Option Addr)} (h : os.length = m.objs.length) (i : Nat) : ((Zs m os).take i).map (·.1) = m.objs.take i := by
  rw [List.map_take]
  congr 1
  exact List.map_fst_zip (by omega)
theorem keepZ_len {m : Sm} {os : List (Option Addr)} (h : os.length = m.objs.length) (i : Nat) (s : List Bool) : (keepP ((Zs m os).take i) s).length = (keepP (m.objs.take i) s).length := by
  rw [← zs_take h, keepP_map, List.length_map]

theorem l64 {m : Sm} {H0 : AHeap} {p : Nat} {F : Nat → Prop} {A : Option Addr} {os : List (Option Addr)} {NA : Option Addr} {mb t7 : Nat} {Q C : Option Addr} {s : List Bool} {i : Nat} {H : AHeap} {L : Option Addr}
    (hI : Inv m) (hF0 : ∀ b, F b → b < H0.next) (h : L1 m H0 p F A os NA mb t7 Q C s i H L) (hi : i < m.objs.length) {o : Ob} {a : Option Addr} (ho : m.objs[i]? = some o) (ha : os[i]? = some a) {t10 : Nat} (hs : s.getD i false = true)
    (ht10 : H.at_ t10 = .cells (encO (o, a)) .var 94) (hl10 : t10 < H.next) (hso : o.slots.length ≤ 1048576) {J : List Value → AHeap → Prop}
    (hJ : ∀ H' L', L1 m H0 p F A os NA mb t7 Q C s (i + 1) H' L' → J [.slice L' (keepP ((Zs m os).take (i + 1)) s).length (keepP ((Zs m os).take (i + 1)) s).length] H') :
    S16_64 (Pt H0.next) (Pt t7) [.slice L (keepP ((Zs m os).take i) s).length (keepP ((Zs m os).take i) s).length, .int .i64 i] J (Pt t10) H := by
  have hlen := hI.len
  have hz : (Zs m os)[i]? = some (o, a) := zip_at ho ha
  have hkz := keepZ_len (m := m) h.hX.len i s
  have hkl : (keepP (m.objs.take i) s).length ≤ m.objs.length := Nat.le_trans (keepP_len_le _ _) (by simp; omega)
  have hlim := hI.lim
  have hsum := hI.sum
  have hle := hI.le
  have htk : total (keepP (m.objs.take (i + 1)) s) ≤ total m.objs := Nat.le_trans (keepP_total _ _) (by
    conv => rhs; rw [← List.take_append_drop (i + 1) m.objs]
    rw [total_append]; omega)
  have hts : total (keepP (m.objs.take (i + 1)) s) = total (keepP (m.objs.take i) s) + o.cells := by
    rw [keepP_take _ _ _ _ ho, hs, total_append]; simp [total]
  have hpne : ∀ (b : Nat) (cs : List Value) (n : Nat) (t : TypeId), H.at_ b = .cells cs (.row n) t → b ≠ p ∧ b ≠ H0.next ∧ b ≠ t7 ∧ b ≠ t10 := by
    intro b cs n t hb
    refine ⟨?_, ?_, ?_, ?_⟩
    · rintro rfl; rw [h.hX.hp] at hb; cases hb
    · rintro rfl; rw [h.t2] at hb; cases hb
    · rintro rfl; rw [h.t7] at hb; cases hb
    · rintro rfl; rw [ht10] at hb; cases hb
  unfold S16_64
  have l1 : aLdCell (Pt t7) H = some (.slice Q m.objs.length m.objs.length) := by simp [h.t7]
  have i1 := h.hQ.rd.idx (k := .i64) (j := (i : Int)) (c := m.objs.length) (by omega) (by rw [placeTo_len]; omega)
  rw [placeTo_len, Int.toNat_natCast] at i1
  obtain ⟨b, hb, hb1, hb2, x, hst, hQ2, cs, hcs⟩ := h.hQ.st (j := i) (k := 0) (l := 1) (off := i) (v := .int .i64 ((keepP (m.objs.take i) s).length : Int)) (y := ((keepP (m.objs.take i) s).length : Int)) (by rw [placeTo_len]; exact hi) (by omega) (by simp) (by simp) (by omega) (by simp)
  have hst' : aSt 1 (slot 1 Q i) (.int .i64 ((keepP (m.objs.take i) s).length : Int)) H = some (H.upd b x) := by rw [hb]; simpa [slot] using hst
  have e := placeTo_succ m s i hi
  rw [if_pos hs] at e
  rw [← e] at hQ2
  simp only [nth_zero, nth_1, l1, bnd_some', aLenSl_slice, hkz, i1, hst']
  obtain ⟨G, hG⟩ : ∃ X, X = H.upd b x := ⟨_, rfl⟩
  rw [← hG] at hQ2 ⊢
  have hnG : G.next = H.next := by rw [hG]; rfl
  have hatG : ∀ c, c ≠ b → G.at_ c = H.at_ c := fun c hc => by rw [hG]; exact AHeap.at_upd_ne _ _ hc
  have hbp := hpne b cs _ _ hcs
  clear hG hst hst'
  have g10 : G.at_ t10 = .cells (encO (o, a)) .var 94 := by rw [hatG _ (Ne.symm hbp.2.2.2)]; exact ht10
  have g2 : G.at_ H0.next = .cells [Pt p] .var 22 := by rw [hatG _ (Ne.symm hbp.2.1)]; exact h.t2
  have g7 : G.at_ t7 = .cells [.slice Q m.objs.length m.objs.length] .var 77 := by rw [hatG _ (Ne.symm hbp.2.2.1)]; exact h.t7
  have gX : StX G p (at_used m (total (keepP (m.objs.take i) s) : Nat)) F A os NA mb := h.hX.frame (by omega) fun c hc => hatG c (by have := hF0 c hc; omega)
  have gL : Ow 10 encO 94 H0.next G L (keepP ((Zs m os).take i) s) := h.hL.at (by omega) fun y hy => hatG _ (by
    obtain ⟨_, _, _, ds, hds⟩ := h.hL.blkOf hy
    intro e; rw [e, hcs] at hds; cases hds)
  have gC : Ow 1 eB 4 H0.next G C s := h.hC.at (by omega) fun y hy => hatG _ (by
    obtain ⟨_, _, _, ds, hds⟩ := h.hC.blkOf hy
    intro e; rw [e, hcs] at hds; cases hds)
  have gfr : ∀ c, c < H0.next → ¬ F c → G.at_ c = H0.at_ c := fun c hc hf => by rw [hatG _ (by omega)]; exact h.fr c hc hf
  have l10 : aLdAgg 10 (Pt t10) G = some (.agg (encO (o, a)).toArray) := by simp [g10, encO]
  simp only [l10, bnd_some']
  simp [encO]
  have w2 := wrap64 (x := ((total (keepP (m.objs.take i) s) : Nat) : Int) + o.cells) (by omega) (by omega)
  have hR : Rd 10 encO (G.next + 1) (G.alloc (.cells (encO (o, a)) (.row 10) 94)) (some ⟨G.next, 0, none⟩) [(o, a)] := Rd.mk' (by simp [encO]) (by omega) (AHeap.at_alloc_new _ _) (by simp) (by simp) (by simp [encO])
  have hLa := gL.alloc (.cells (encO (o, a)) (.row 10) 94)
  have := hLa.append (bytes := 168) (c := (keepP (m.objs.take i) s).length) (c' := 1) (K := fun t56_50 H_51 =>
    bnd (aLdCell (Pt H0.next) H_51) fun t57_52 =>
      bnd (aNilCheck t57_52) fun t58_53 =>
        bnd (aAdd 1 t58_53) fun t59_54 =>
          bnd (aLdCell t59_54 H_51) fun t60_55 =>
            ACalls Try.prog 45 [Pt t10] H_51 fun t61_56 H_57 =>
              ((bnd (aLdCell (Pt H0.next) H_57) fun t57_62 => t57_62 = t57_52) ∧ bnd (aLdCell t59_54 H_57) fun t60_63 => t60_63 = t60_55) ∧
                bnd (aBin BinOp.add EK.no t60_55 t61_56) fun t62_58 =>
                  bnd (aNilCheck t57_52) fun t63_59 =>
                    bnd (aAdd 1 t63_59) fun t64_60 => bnd (aSt 1 t64_60 t62_58 H_57) fun H_61 => J [t56_50] H_61) hR (by simp; have := h.n0; have := h.n1; omega) (by simp only [maxLen, List.length_singleton]; omega) (by simp only [List.length_singleton]; omega) ?_
  · rw [hkz, List.length_singleton] at this
    exact this
  · intro H5 hO5 hn5 hat5 _
    have hat6 : ∀ c, c < G.next → (∀ y, L = some y → y.block ≠ c) → H5.at_ c = G.at_ c := by
      intro c hc hL
      rw [hat5 c (by simp; omega) (fun o s hh => hL _ hh rfl), AHeap.at_alloc_ne _ _ (by omega)]
    have hLk : ∀ y, L = some y → H0.next ≤ y.block ∧ ∃ ds, G.at_ y.block = .cells ds (.row 10) 94 := fun y hy => by
      obtain ⟨_, h1, _, ds, hds⟩ := gL.blkOf hy
      exact ⟨h1, ds, hds⟩
    have notL : ∀ (c : Nat) (ds : List Value) (u : Use) (t : TypeId), G.at_ c = .cells ds u t → t ≠ 94 ∨ u = .var → ∀ y, L = some y → y.block ≠ c := by
      rintro c ds u t hc hu y hy rfl
      obtain ⟨_, es, hes⟩ := hLk y hy
      rw [hc] at hes
      cases hes
      rcases hu with h1 | h1
      · exact h1 rfl
      · cases h1
    have hpl := gX.lt p gX.fp
    have k10 : H5.at_ t10 = .cells (encO (o, a)) .var 94 := by rw [hat6 _ (by omega) (notL _ _ _ _ g10 (.inr rfl))]; exact g10
    have k2 : H5.at_ H0.next = .cells [Pt p] .var 22 := by rw [hat6 _ (by have := h.n0; have := h.n1; omega) (notL _ _ _ _ g2 (.inr rfl))]; exact g2
    have k7 : H5.at_ t7 = .cells [.slice Q m.objs.length m.objs.length] .var 77 := by rw [hat6 _ (by have := h.n1; omega) (notL _ _ _ _ g7 (.inr rfl))]; exact g7
    have kF : ∀ c, F c → H5.at_ c = G.at_ c := fun c hc => hat6 c (by have := hF0 c hc; have := h.n0; have := h.n1; omega) fun y hy => by have := (hLk y hy).1; have := hF0 c hc; omega
    have kX := gX.frame (H' := H5) (by simp at hn5; omega) kF
    have kC : Ow 1 eB 4 H0.next H5 C s := gC.at (by simp at hn5; omega) fun y hy => by
      obtain ⟨_, _, hy2, ds, hds⟩ := gC.blkOf hy
      exact hat6 _ hy2 (notL _ _ _ _ hds (.inl (by decide)))
    have kQ : Ow 1 eI 3 H0.next H5 Q (placeTo m s (i + 1)) := hQ2.at (by simp at hn5; omega) fun y hy => by
      obtain ⟨_, _, hy2, ds, hds⟩ := hQ2.blkOf hy
      exact hat6 _ hy2 (notL _ _ _ _ hds (.inl (by decide)))
    have kp := kX.hp
    simp [k2, kp]
    refine (c45 (q := t10) (o := 0) (x := (o, a)) (k := .var) (t := 94) (cs := encO (o, a)) k10 (fun j _ => by rw [Nat.zero_add]) hso).use ?_
    simp [k2, kp, at_used, w2]
    have e10 : keepP ((Zs m os).take (i + 1)) s = keepP ((Zs m os).take i) s ++ [(o, a)] := by rw [keepP_take _ _ _ _ hz, hs]; simp
    have := hJ (H5.upd p (.cells [.int .i64 m.lim, .int .i64 ((total (keepP (m.objs.take (i + 1)) s) : Nat) : Int), .slice A m.objs.length m.objs.length, .slice NA m.names.length m.names.length, .map (some mb)] .var 88)) (some ⟨G.next + 1, 0, none⟩) ?_
    · rw [e10, List.length_append, hkz, List.length_singleton] at this
      rw [hts] at this
      simpa [hkz] using this
    · have gp : G.at_ p = _ := gX.hp
      have un : ∀ c, c ≠ p → (H5.upd p (.cells [.int .i64 m.lim, .int .i64 ((total (keepP (m.objs.take (i + 1)) s) : Nat) : Int), .slice A m.objs.length m.objs.length, .slice NA m.names.length m.names.length, .map (some mb)] .var 88)).at_ c = H5.at_ c := fun c hc => AHeap.at_upd_ne _ _ hc
      have rowne : ∀ (c : Nat) (ds : List Value) (n : Nat) (t : TypeId), H5.at_ c = .cells ds (.row n) t → c ≠ p := by
        rintro c ds n t hc rfl
        rw [kp] at hc
        cases hc
      have hp0 : p < H0.next := hF0 p gX.fp
      refine ⟨by simp at hn5 ⊢; have := h.n1; omega, h.n0, ?_, ?_, ?_, ?_, ?_, ?_, ?_⟩
      · rw [un _ (by omega)]; exact k2
      · rw [un _ (by have := h.n0; omega)]; exact k7
      · exact kQ.at (Nat.le_refl _) fun y hy => un _ (by obtain ⟨_, _, _, ds, hds⟩ := kQ.blkOf hy; exact rowne _ _ _ _ hds)
      · exact kC.at (Nat.le_refl _) fun y hy => un _ (by obtain ⟨_, _, _, ds, hds⟩ := kC.blkOf hy; exact rowne _ _ _ _ hds)
      · refine ⟨kX.len, ?_, ?_, ?_, kX.dist, ?_, ?_, kX.fp, kX.fA, kX.fo, kX.fN, kX.fm, fun c hc => kX.lt c hc⟩
        · simp [at_used]
        · exact kX.objs.at (Nat.le_refl _) fun y hy => un _ (by obtain ⟨_, _, _, ds, hds⟩ := kX.objs.blkOf hy; exact rowne _ _ _ _ hds)
        · intro j o' a' h1 h2
          exact (kX.slots j o' a' h1 h2).at (Nat.le_refl _) fun y hy => un _ (by obtain ⟨_, _, _, ds, hds⟩ := (kX.slots j o' a' h1 h2).blkOf hy; exact rowne _ _ _ _ hds)
        · exact kX.names.at (Nat.le_refl _) fun y hy => un _ (by obtain ⟨_, _, _, ds, hds⟩ := kX.names.blkOf hy; exact rowne _ _ _ _ hds)
        · rw [un]
          · exact kX.map
          · rintro rfl
            have := kX.map
            rw [kp] at this
            cases this
      · rw [e10]
        have : Ow 10 encO 94 H0.next H5 (some ⟨G.next + 1, 0, none⟩) (keepP ((Zs m os).take i) s ++ [(o, a)]) := by simpa using hO5
        exact this.at (Nat.le_refl _) fun y hy => un _ (by obtain ⟨_, _, _, ds, hds⟩ := this.blkOf hy; exact rowne _ _ _ _ hds)
      · intro c hc hf
        rw [un c (by rintro rfl; exact hf gX.fp), hat6 c (by have := h.n0; have := h.n1; omega) fun y hy => by have := (hLk y hy).1; omega]
        exact gfr c hc hf
end Go.Proofs.Ytngldjajfpbmbaa.A

set_option linter.unusedVariables false
set_option linter.unusedSimpArgs false
namespace Go.Proofs.Ytngldjajfpbmbaa.A
open Go Go.Abs

theorem _root_.Go.Abs.Rd.at {α : Type} {n : Nat} {enc : α → List Value} {lo lo' : Nat} {H H' : AHeap} {A : Option Addr} {xs : List α} (h : Rd n enc lo H A xs) (hl : lo ≤ lo') (hk : ∀ a, A = some a → H'.at_ a.block = H.at_ a.block) : Rd n enc lo' H' A xs := by
  refine ⟨h.1, h.2.imp id ?_⟩
  rintro ⟨b, o, cs, k, t, h1, h2, h3, h4, h5⟩
  exact ⟨b, o, cs, k, t, h1, by omega, ⟨(hk _ h1).trans h3.1, h3.2⟩, h4, h5⟩
theorem _root_.Go.Abs.Ow.congr {α : Type} {n : Nat} {enc : α → List Value} {e : TypeId} {lo : Nat} {H : AHeap} {A : Option Addr} {xs ys : List α} (h : Ow n enc e lo H A xs) (f : α → α) (hy : ys = xs.map f) (hf : ∀ x, enc (f x) = enc x) : Ow n enc e lo H A ys := by
  subst hy
  have e1 : (xs.map f).flatMap enc = xs.flatMap enc := by
    rw [List.flatMap_map]
    congr 1
    funext x
    exact hf x
  refine ⟨?_, ?_⟩
  · intro x hx
    obtain ⟨y, hy, rfl⟩ := List.mem_map.1 hx
    rw [hf]
    exact h.1 y hy
  · rcases h.2 with ⟨h1, rfl⟩ | ⟨b, cs, h1, h2, h3, h4, h5, h6⟩
    · exact .inl ⟨h1, rfl⟩
    · exact .inr ⟨b, cs, h1, h2, h3, h4, by rw [List.length_map]; exact h5, by rw [List.length_map, e1]; exact h6⟩

/-- The second loop. -/
structure L2 (m : Sm) (H0 : AHeap) (p : Nat) (F : Nat → Prop) (u : Int) (A NA : Option Addr) (mb t7 : Nat) (Q : Option Addr) (pl : List Int) (P : List (Ob × Option Addr)) (k : Nat) (H : AHeap) (L : Option Addr) : Prop where
  n1 : t7 < H.next
  n0 : H0.next < t7
  t2 : H.at_ H0.next = .cells [Pt p] .var 22
  t7 : H.at_ t7 = .cells [.slice Q pl.length pl.length] .var 77
  hQ : Ow 1 eI 3 H0.next H Q pl
  hp : H.at_ p = .cells [.int .i64 m.lim, .int .i64 u, .slice A m.objs.length m.objs.length, .slice NA m.names.length m.names.length, .map (some mb)] .var 88
  hL : Ow 10 encO 94 H0.next H L P
  hS : ∀ (j : Nat) (o : Ob) (a : Option Addr), P[j]? = some (o, a) → Ow 2 eV 28 0 H a (if j < k then o.slots.map (mv pl) else o.slots)
  hN : Ow 1 eS 9 0 H NA m.names
  hM : H.at_ mb = .map (entries m.names)
  fr : ∀ b, b < H0.next → ¬ F b → H.at_ b = H0.at_ b
/-- Where things are told once. -/
structure LF (m : Sm) (H0 : AHeap) (p : Nat) (F : Nat → Prop) (NA : Option Addr) (mb : Nat) (P : List (Ob × Option Addr)) : Prop where
  lt : ∀ b, F b → b < H0.next
  fp : F p
  fN : ∀ a, NA = some a → F a.block
  fm : F mb
  fo : ∀ (i : Nat) (o : Ob) (a : Addr), P[i]? = some (o, some a) → F a.block
  dist : ∀ (i j : Nat) (o o' : Ob) (a b : Addr), P[i]? = some (o, some a) → P[j]? = some (o', some b) → a.block = b.block → i = j

theorem L2.kept {m : Sm} {H0 : AHeap} {p : Nat} {F : Nat → Prop} {u : Int} {A NA : Option Addr} {mb t7 : Nat} {Q : Option Addr} {pl : List Int} {P : List (Ob × Option Addr)} {k : Nat} {H H' : AHeap} {L : Option Addr} (hF : LF m H0 p F NA mb P)
    (h : L2 m H0 p F u A NA mb t7 Q pl P k H L) (hk : Keep H.next H H') : L2 m H0 p F u A NA mb t7 Q pl P k H' L where
  n1 := Nat.lt_of_lt_of_le h.n1 hk.next
  n0 := h.n0
  t2 := by rw [hk.at_ _ (Nat.lt_trans h.n0 h.n1)]; exact h.t2
  t7 := by rw [hk.at_ _ h.n1]; exact h.t7
  hQ := h.hQ.kept hk
  hp := by rw [hk.at_ _ (by have := hF.lt _ hF.fp; have := h.n0; have := h.n1; omega)]; exact h.hp
  hL := h.hL.kept hk
  hS j o a hj := (h.hS j o a hj).kept hk
  hN := h.hN.kept hk
  hM := by rw [hk.at_ _ (by have := hF.lt _ hF.fm; have := h.n0; have := h.n1; omega)]; exact h.hM
  fr b hb hf := by rw [hk.at_ b (by have := h.n0; have := h.n1; omega)]; exact h.fr b hb hf

theorem L2.move {m : Sm} {H0 : AHeap} {p : Nat} {F : Nat → Prop} {u : Int} {A NA : Option Addr} {mb t7 : Nat} {Q : Option Addr} {pl : List Int} {P : List (Ob × Option Addr)} {k : Nat} {H H' : AHeap} {L : Option Addr} (hF : LF m H0 p F NA mb P)
    (h : L2 m H0 p F u A NA mb t7 Q pl P k H L) {o : Ob} {a : Option Addr} (hk : P[k]? = some (o, a)) (hO : Ow 2 eV 28 0 H' a (o.slots.map (mv pl))) (hn : H.next ≤ H'.next) (hat : ∀ b, b < H.next → (∀ x, a = some x → x.block ≠ b) → H'.at_ b = H.at_ b) :
    L2 m H0 p F u A NA mb t7 Q pl P (k + 1) H' L := by
  have hOk := h.hS k o a hk
  have ne : ∀ (c : Nat) (cs : List Value) (ui : Use) (t : TypeId), H.at_ c = .cells cs ui t → t ≠ 28 → ∀ x, a = some x → x.block ≠ c := by
    rintro c cs ui t hc ht x hx rfl
    obtain ⟨_, _, _, ds, hds⟩ := hOk.blkOf hx
    rw [hc] at hds
    cases hds
    exact ht rfl
  have hpl := hF.lt _ hF.fp
  have hn0 := h.n0
  have hn1 := h.n1
  refine ⟨by omega, h.n0, ?_, ?_, ?_, ?_, ?_, ?_, ?_, ?_, ?_⟩
  · rw [hat _ (by omega) (ne _ _ _ _ h.t2 (by decide))]; exact h.t2
  · rw [hat _ (by omega) (ne _ _ _ _ h.t7 (by decide))]; exact h.t7
  · exact h.hQ.at hn fun y hy => by
      obtain ⟨_, _, hy2, ds, hds⟩ := h.hQ.blkOf hy
      exact hat _ hy2 (ne _ _ _ _ hds (by decide))
  · rw [hat _ (by omega) (ne _ _ _ _ h.hp (by decide))]; exact h.hp
  · exact h.hL.at hn fun y hy => by
      obtain ⟨_, _, hy2, ds, hds⟩ := h.hL.blkOf hy
      exact hat _ hy2 (ne _ _ _ _ hds (by decide))
  · intro j o' a' hj
    by_cases e : j = k
    · subst e
      rw [hk] at hj
      cases hj
      rw [if_pos (by omega)]
      exact hO
    · have := h.hS j o' a' hj
      have e2 : j < k + 1 ↔ j < k := by omega
      simp only [e2]
      refine this.at hn fun y hy => ?_
      obtain ⟨_, _, hy2, ds, hds⟩ := this.blkOf hy
      refine hat _ hy2 ?_
      rintro x rfl hxy
      subst hy
      exact e (hF.dist k j o o' x y hk hj hxy).symm
  · exact h.hN.at hn fun y hy => by
      obtain ⟨_, _, hy2, ds, hds⟩ := h.hN.blkOf hy
      exact hat _ hy2 (ne _ _ _ _ hds (by decide))
  · rw [hat _ (by have := hF.lt _ hF.fm; omega)]
    · exact h.hM
    · rintro x hx e
      obtain ⟨_, _, _, ds, hds⟩ := hOk.blkOf hx
      rw [e, h.hM] at hds
      cases hds
  · intro b hb hf
    rw [hat b (by omega)]
    · exact h.fr b hb hf
    · rintro x rfl e
      exact hf (e ▸ hF.fo k o x hk)

/-- What Collect leaves. -/
def collPost (H0 : AHeap) (p : Nat) (F : Nat → Prop) (m : Sm) (xs : List V) (s : List Bool) (r : Value) (H' : AHeap) : Prop :=
  ∃ C F', r = .tuple #[.slice C xs.length xs.length, .int .i64 0] ∧ Ow 2 eV 28 H0.next H' C (xs.map (mv (place m s))) ∧ St H' p (m.collect s) F' ∧ Fr F H0 F' H' ∧ ∀ x, C = some x → ¬ F' x.block
theorem l91 {m : Sm} {H0 : AHeap} {p : Nat} {F : Nat → Prop} {A NA : Option Addr} {mb t7 : Nat} {Q : Option Addr} {s : List Bool} {os : List (Option Addr)} {k : Nat} {H : AHeap} {L : Option Addr} {lo : Nat} {B : Option Addr} {xs : List V} {again : List Value → AHeap → Prop} {R : Value → AHeap → Prop} (hRR : ∀ r H', collPost H0 p F m xs s r H' → R r H')
    (hlen : m.objs.length ≤ 1048576) (hos : os.length = m.objs.length) (hV : Vd m) (hs1 : ∀ o ∈ m.objs, o.slots.length ≤ 1048576) (hF : LF m H0 p F NA mb (keepP (Zs m os) s)) (h : L2 m H0 p F (total (keepP m.objs s) : Nat) A NA mb t7 Q (place m s) (keepP (Zs m os) s) k H L) (hk : k ≤ (keepP (Zs m os) s).length)
    (hlo : lo ≤ H0.next) (hB : Rd 2 eV lo H0 B xs) (hn : xs.length ≤ 2097152) (he : xs = [] → B = none ∨ True) (hx : ∀ v ∈ xs, okIx m v) (hBF : ∀ x, B = some x → ¬ F x.block)
    (ha : ∀ H', k < (keepP (Zs m os) s).length → L2 m H0 p F (total (keepP m.objs s) : Nat) A NA mb t7 Q (place m s) (keepP (Zs m os) s) (k + 1) H' L → again [.int .i64 ((k + 1 : Nat) : Int)] H') :
    S16_91 (.slice B xs.length xs.length) R (Pt H0.next) (Pt t7) [.slice L (keepP (Zs m os) s).length (keepP (Zs m os) s).length, .int .i64 m.objs.length] (.int .i64 (keepP (Zs m os) s).length) [.int .i64 k] H again := by
  have hplen : (place m s).length = m.objs.length := placeTo_len _ _ _
  have hzl : (Zs m os).length = m.objs.length := by simp [Zs, hos]
  have hkl : (keepP (Zs m os) s).length ≤ m.objs.length := hzl ▸ keepP_len_le (Zs m os) s
  have hmem : ∀ (j : Nat) (o : Ob) (a : Option Addr), (keepP (Zs m os) s)[j]? = some (o, a) → o ∈ m.objs := by
    intro j o a hj
    obtain ⟨i, hi, _⟩ := keepP_idx _ _ _ _ hj
    exact (List.of_mem_zip (List.mem_of_getElem? hi)).1
  have hn0 := h.n0
  have hn1 := h.n1
  unfold S16_91
  by_cases hlt : k < (keepP (Zs m os) s).length
  · simp [hlt]
    unfold S16_81
    have w1 := wrap64 (x := (k : Int) + 1) (by omega) (by omega)
    obtain ⟨o, a, hoa⟩ : ∃ o a, (keepP (Zs m os) s)[k] = (o, a) := ⟨_, _, rfl⟩
    have hk? : (keepP (Zs m os) s)[k]? = some (o, a) := by rw [List.getElem?_eq_getElem hlt, hoa]
    have ho := hmem k o a hk?
    have i1 := h.hL.rd.idx (k := .i64) (j := (k : Int)) (c := (keepP (Zs m os) s).length) (by omega) (by omega)
    rw [Int.toNat_natCast] at i1
    have l1 := h.hL.rd.agg hlt
    rw [hoa] at l1
    simp only [nth_zero, i1, l1, bnd_some', aAlloc_eq]
    simp [encO, at_alloc, -aLdAgg_ptr]
    refine ⟨good46, ?_⟩
    obtain ⟨G, hG⟩ : ∃ X, X = ((H.alloc (.cells [.int .i64 0, .slice none 0 0, .int .i64 0, .string ⟨#[]⟩, .bool false, .slice none 0 0, .slice none 0 0, .int .i64 0, .slice none 0 0, .slice none 0 0] .var 94)).upd H.next (.cells [.int .i64 o.kind, .slice a o.slots.length o.slots.length, .int .i64 o.sk, .string o.text, .bool false, .slice none 0 0, .slice none 0 0, .int .i64 0, .slice none 0 0, .slice none 0 0] .var 94)) := ⟨_, rfl⟩
    simp only [← hG]
    have hkG : Keep H.next H G := hG ▸ ((Keep.refl _ _).alloc (Nat.le_refl _) _).upd (Nat.le_refl _) _
    clear hG
    have hG2 := h.kept hF hkG
    have hOk := hG2.hS k o a hk?
    rw [if_neg (by omega)] at hOk
    refine (c46 hG2.t7 hG2.n1 (hG2.hQ.lower (Nat.zero_le _)) hOk (by have := hs1 o ho; omega) fun v hv h7 => ?_).mono fun r H' ⟨hr, hO, hn', hat⟩ => ?_
    · rw [hplen]; exact hV.ok o ho v hv h7
    · subst hr
      simp [w1]
      exact ha H' hlt (hG2.move hF hk? hO hn' hat)
  · have hke : k = (keepP (Zs m os) s).length := by omega
    subst hke
    simp
    unfold S16_90
    have hpl := hF.lt _ hF.fp
    simp [h.t2, h.hp]
    obtain ⟨G, hG⟩ : ∃ X, X = H.upd p (.cells [.int .i64 m.lim, .int .i64 (total (keepP m.objs s) : Nat), .slice L (keepP (Zs m os) s).length (keepP (Zs m os) s).length, .slice NA m.names.length m.names.length, .map (some mb)] .var 88) := ⟨_, rfl⟩
    simp only [← hG]
    have hatG : ∀ c, c ≠ p → G.at_ c = H.at_ c := fun c hc => by rw [hG]; exact AHeap.at_upd_ne _ _ hc
    have hnG : G.next = H.next := by rw [hG]; rfl
    have gp : G.at_ p = .cells [.int .i64 m.lim, .int .i64 (total (keepP m.objs s) : Nat), .slice L (keepP (Zs m os) s).length (keepP (Zs m os) s).length, .slice NA m.names.length m.names.length, .map (some mb)] .var 88 := by rw [hG]; simp
    clear hG
    have rowne : ∀ (c : Nat) (ds : List Value) (n : Nat) (t : TypeId), H.at_ c = .cells ds (.row n) t → c ≠ p := by
      rintro c ds n t hc rfl
      rw [h.hp] at hc
      cases hc
    have hBG : Rd 2 eV H0.next G B xs := hB.at hlo fun x hx => by
      have hxl : x.block < lo := by
        rcases hB.2 with ⟨h1, _⟩ | ⟨b, o, cs, k, t, h1, h2, _⟩
        · rw [h1] at hx; cases hx
        · rw [h1] at hx; cases hx; exact h2
      rw [hatG _ (by rintro e; exact hBF x hx (e ▸ hF.fp))]
      exact h.fr _ (by omega) (hBF x hx)
    refine (c42 (by omega) hBG hn he).mono fun r H2 ⟨C, hr, hC, hk2⟩ => ?_
    subst hr
    have g7 : H2.at_ t7 = .cells [.slice Q (place m s).length (place m s).length] .var 77 := by
      rw [hk2.at_ _ (by omega), hatG _ (by omega)]; exact h.t7
    have gQ : Ow 1 eI 3 0 H2 Q (place m s) := (h.hQ.lower (Nat.zero_le _)).at (by have := hk2.next; omega) fun y hy => by
      obtain ⟨_, _, hy2, ds, hds⟩ := h.hQ.blkOf hy
      rw [hk2.at_ _ (by omega), hatG _ (rowne _ _ _ _ hds)]
    simp
    refine ⟨good46, (c46 g7 (by have := hk2.next; omega) gQ (hC.lower (Nat.zero_le _)) hn fun v hv h7 => ?_).mono fun r H3 ⟨hr, hO, hn3, hat3⟩ => ?_⟩
    · rw [hplen]; exact hx v hv h7
    subst hr
    have hCb : ∀ x, C = some x → G.next ≤ x.block := fun x hx => (hC.blkOf hx).2.1
    have hat : ∀ c, c < G.next → H3.at_ c = G.at_ c := fun c hc => by
      rw [hat3 c (by have := hk2.next; omega) fun x hx => by have := hCb x hx; omega]
      exact hk2.at_ c hc
    have hn2 := hk2.next
    have up : ∀ {α : Type} {n : Nat} {enc : α → List Value} {e : TypeId} {lo : Nat} {A : Option Addr} {ys : List α}, Ow n enc e lo H A ys → Ow n enc e lo H3 A ys := fun {α n enc e lo A ys} ho => ho.at (by omega) fun y hy => by
      obtain ⟨_, _, hy2, ds, hds⟩ := ho.blkOf hy
      rw [hat _ (by omega), hatG _ (rowne _ _ _ _ hds)]
    have hO0 : Ow 2 eV 28 H0.next H3 C (xs.map (mv (place m s))) := ⟨hO.1, hO.2.imp id fun ⟨b, cs, h1, _, h3⟩ => ⟨b, cs, h1, by have := hCb _ h1; dsimp only at this; omega, h3⟩⟩
    have eP : (keepP (Zs m os) s).map (·.1) = keepP m.objs s := by
      rw [← keepP_map]
      congr 1
      exact List.map_fst_zip (by omega)
    have hPl : (keepP (Zs m os) s).length = (keepP m.objs s).length := by rw [← eP, List.length_map]
    have hLF : ∀ x, L = some x → H0.next ≤ x.block ∧ x.block < H.next := fun x hx => ⟨(h.hL.blkOf hx).2.1, (h.hL.blkOf hx).2.2.1⟩
    refine hRR _ _ ⟨C, fun b => F b ∨ ∃ x, L = some x ∧ x.block = b, rfl, hO0, ⟨L, (keepP (Zs m os) s).map (·.2), NA, mb, ?_⟩, ⟨by omega, ?_, ?_⟩, ?_⟩
    · have eo : ∀ (i : Nat) (o : Ob) (a : Option Addr), ((keepP m.objs s).map (mvOb (place m s)))[i]? = some o → ((keepP (Zs m os) s).map (·.2))[i]? = some a → ∃ o', (keepP (Zs m os) s)[i]? = some (o', a) ∧ o = mvOb (place m s) o' := by
        intro i o a h1 h2
        rw [← eP] at h1
        simp only [List.getElem?_map, Option.map_eq_some_iff] at h1 h2
        obtain ⟨z, hz, rfl⟩ := h2
        obtain ⟨o1, ⟨z1, hz1, rfl⟩, rfl⟩ := h1
        rw [hz] at hz1
        cases hz1
        exact ⟨z.1, hz, rfl⟩
      have ea : ∀ (i : Nat) (a : Addr), ((keepP (Zs m os) s).map (·.2))[i]? = some (some a) → ∃ o, (keepP (Zs m os) s)[i]? = some (o, some a) := by
        intro i a h2
        simp only [List.getElem?_map, Option.map_eq_some_iff] at h2
        obtain ⟨z, hz, hz2⟩ := h2
        exact ⟨z.1, by rw [hz, ← hz2]⟩
      refine ⟨by simp [Sm.collect, hPl], ?_, ?_, ?_, ?_, up h.hN, ?_, .inl hF.fp, fun a ha => .inr ⟨a, ha, rfl⟩, ?_, fun a ha => .inl (hF.fN a ha), .inl hF.fm, ?_⟩
      · rw [hat _ (by omega), gp]
        simp [Sm.collect, hPl]
      · refine (up (h.hL.lower (Nat.zero_le _))).congr (fun z => (mvOb (place m s) z.1, z.2)) ?_ fun z => encO_mv _ _ _
        simp only [Sm.collect]
        rw [← eP, List.map_map, List.zip_map', ]
        rfl
      · intro i o a h1 h2
        obtain ⟨o', h3, rfl⟩ := eo i o a h1 h2
        have hlt : i < (keepP (Zs m os) s).length := (List.getElem?_eq_some_iff.1 h3).1
        have := h.hS i o' a h3
        rw [if_pos hlt] at this
        exact up this
      · intro i j a b h1 h2 h3
        obtain ⟨o, h4⟩ := ea i a h1
        obtain ⟨o', h5⟩ := ea j b h2
        exact hF.dist i j o o' a b h4 h5 h3
      · have hmb := hF.lt _ hF.fm
        rw [hat _ (by omega), hatG _ ?_]
        · exact h.hM
        · rintro rfl
          have := h.hM
          rw [h.hp] at this
          cases this
      · intro i a h1
        obtain ⟨o, h4⟩ := ea i a h1
        exact .inl (hF.fo i o a h4)
      · rintro b (hb | ⟨x, hx, rfl⟩)
        · have := hF.lt b hb; omega
        · have := hLF x hx; omega
    · intro b hb hf
      rw [hat b (by omega), hatG b (by rintro rfl; exact hf hF.fp)]
      exact h.fr b hb hf
    · rintro b (hb | ⟨x, hx, rfl⟩)
      · exact .inl hb
      · exact .inr (hLF x hx).1
    · rintro x hx (hb | ⟨y, hy, e⟩)
      · have := hF.lt _ hb; have := hCb x hx; omega
      · have := hLF y hy; have := hCb x hx; omega
end Go.Proofs.Ytngldjajfpbmbaa.A

set_option linter.unusedVariables false
set_option linter.unusedSimpArgs false
namespace Go.Proofs.Ytngldjajfpbmbaa.A
open Go Go.Abs

theorem mem_le_sum {n : Nat} : ∀ {l : List Nat}, n ∈ l → n ≤ l.sum
  | [], h => by simp at h
  | x :: l, h => by
    rcases List.mem_cons.1 h with rfl | h
    · simp
    · have := mem_le_sum h; simp; omega
theorem slots_le {m : Sm} (hI : Inv m) (hV : Vd m) : ∀ o ∈ m.objs, o.slots.length ≤ 1048576 := by
  intro o ho
  have h1 : o.cells ≤ total m.objs := by
    unfold total
    exact mem_le_sum (List.mem_map_of_mem ho)
  have h2 : o.slots.length ≤ o.cells := by
    unfold Ob.cells
    split
    · rename_i hk; rw [hV.syn o ho hk]; simp
    · omega
  have := hI.sum
  have := hI.le
  have := hI.lim
  omega
theorem flat_zero (n : Nat) : List.replicate n (Value.int .i64 0) = (List.replicate n (0 : Int)).flatMap eI := by
  induction n with
  | zero => rfl
  | succ n ih => simp [List.replicate_succ, ih]

theorem c16 {H : AHeap} {p : Nat} {m : Sm} {F : Nat → Prop} (h : St H p m F) (hI : Inv m) (hV : Vd m) {lo : Nat} {B : Option Addr} {xs : List V} (hlo : lo ≤ H.next) (hB : Rd 2 eV lo H B xs) (hn : xs.length ≤ 2097152) (he : xs = [] → B = none ∨ True) (hBF : ∀ x, B = some x → ¬ F x.block) :
    ACalls Try.prog 16 [Pt p, .slice B xs.length xs.length] H fun r H' => if xs.all m.sound = true then (∃ s : List Bool, s.length = m.objs.length ∧ (∀ i, s.getD i false = true ↔ Reach m xs i) ∧ collPost H p F m xs s r H')
      else r = .tuple #[.slice none 0 0, .int .i64 2] ∧ Keep H.next H H' := by
  refine S16_calls ?_
  unfold S16
  have hk1 : Keep H.next H (H.alloc (.cells [Pt p] .var 22)) := (Keep.refl _ _).alloc (Nat.le_refl _) _
  simp
  unfold S16_94
  obtain ⟨H1, hH1⟩ : ∃ X, X = H.alloc (.cells [Pt p] .var 22) := ⟨_, rfl⟩
  simp only [← hH1]
  rw [← hH1] at hk1
  have e1 : H1.at_ H.next = .cells [Pt p] .var 22 := by rw [hH1]; simp [at_alloc]
  have hn1 : H1.next = H.next + 1 := by rw [hH1]; simp
  clear hH1
  have h1 := h.kept hk1
  have hB1 : Rd 2 eV lo H1 B xs := hB.keep fun b hb => hk1.at_ b (by omega)
  refine (c39 h1 e1 (by omega) hB1 (by omega) 43 good43 fun v => c43 h1 e1 (by omega) v).use ?_
  cases hal : xs.all m.sound with
  | false => simp; exact hk1
  | true =>
  rw [List.all_eq_true] at hal
  have hx : ∀ v ∈ xs, okIx m v := fun v hv => sound_ix (hal v hv)
  simp [e1]
  refine (c44 h1 hI hV (by omega) hB1 hn he hx).mono fun r H3 ⟨C, s, hr, hsl, hC, hk3, hR⟩ => ?_
  subst hr
  have hlen := hI.len
  obtain ⟨A, os, NA, mb, hX⟩ := id h
  unfold S16_93
  have hn3 := hk3.next
  have e3 : H3.at_ H.next = .cells [Pt p] .var 22 := by rw [hk3.at_ _ (by omega)]; exact e1
  have hX3 : StX H3 p m F A os NA mb := hX.frame (by omega) fun b hb => by have := hX.lt b hb; rw [hk3.at_ _ (by omega), hk1.at_ _ this]
  have hpl := hX.lt p hX.fp
  have hne : p ≠ H3.next ∧ p ≠ H3.next + 1 := by omega
  have hne2 : H.next ≠ H3.next ∧ H.next ≠ H3.next + 1 ∧ H.next ≠ p := by omega
  have hne3 : H3.next ≠ p ∧ H3.next + 1 ≠ p := by omega
  simp [e3, hX3.hp, aMakeSlice]
  refine ⟨by omega, ?_⟩
  simp [at_alloc, at_upd, hne, hne2, hne3, e3, hX3.hp]
  obtain ⟨L0, hL0⟩ : ∃ X, X = (((H3.alloc (.cells (List.replicate m.objs.length (.int .i64 0)) (.row 1) 3)).alloc (.cells [.slice none 0 0] .var 77)).upd (H3.next + 1) (.cells [.slice (some ⟨H3.next, 0, none⟩) m.objs.length m.objs.length] .var 77)).upd p (.cells [.int .i64 m.lim, .int .i64 0, .slice A m.objs.length m.objs.length, .slice NA m.names.length m.names.length, .map (some mb)] .var 88) := ⟨_, rfl⟩
  simp only [← hL0]
  have un : ∀ c, c < H3.next → c ≠ p → L0.at_ c = H3.at_ c := fun c hc hcp => by
    rw [hL0]
    have : c ≠ H3.next ∧ c ≠ H3.next + 1 := by omega
    simp [at_alloc, at_upd, this, hcp]
  have hnL : L0.next = H3.next + 2 := by rw [hL0]; simp
  have ep : L0.at_ p = .cells [.int .i64 m.lim, .int .i64 0, .slice A m.objs.length m.objs.length, .slice NA m.names.length m.names.length, .map (some mb)] .var 88 := by rw [hL0]; simp
  have e7 : L0.at_ (H3.next + 1) = .cells [.slice (some ⟨H3.next, 0, none⟩) m.objs.length m.objs.length] .var 77 := by rw [hL0]; simp [at_upd, hne3]
  have eQ : L0.at_ H3.next = .cells (List.replicate m.objs.length (.int .i64 0)) (.row 1) 3 := by rw [hL0]; simp [at_upd, at_alloc, hne3]
  clear hL0
  have rowne : ∀ (c : Nat) (ds : List Value) (n : Nat) (t : TypeId), H3.at_ c = .cells ds (.row n) t → c ≠ p := by
    rintro c ds n t hc rfl
    rw [hX3.hp] at hc
    cases hc
  have up : ∀ {α : Type} {n : Nat} {enc : α → List Value} {e : TypeId} {lo : Nat} {A : Option Addr} {ys : List α}, Ow n enc e lo H3 A ys → Ow n enc e lo L0 A ys := fun {α n enc e lo A ys} ho => ho.at (by omega) fun y hy => by
    obtain ⟨_, _, hy2, ds, hds⟩ := ho.blkOf hy
    exact un _ hy2 (rowne _ _ _ _ hds)
  have hQ0 : Ow 1 eI 3 H.next L0 (some ⟨H3.next, 0, none⟩) (placeTo m s 0) := by
    rw [placeTo_zero]
    refine ⟨by simp, .inr ⟨H3.next, _, rfl, by omega, by omega, eQ, by simp, ?_⟩⟩
    rw [← flat_zero]
    simp
  have hz0 : total (keepP (m.objs.take 0) s) = 0 := by simp [keepP_nil, total]
  have hLL : L1 m H p F A os NA mb (H3.next + 1) (some ⟨H3.next, 0, none⟩) C s 0 L0 none := by
    refine ⟨by omega, by omega, ?_, e7, hQ0, up (hC.lower (by omega)), ?_, by rw [List.take_zero, keepP_nil]; exact Ow.nil _ _ _ _ _, fun b hb hf => ?_⟩
    · rw [un _ (by omega) (by omega)]; exact e3
    · rw [hz0]
      refine ⟨hX3.len, ep, up hX3.objs, fun i o a h1 h2 => up (hX3.slots i o a h1 h2), hX3.dist, up hX3.names, ?_, hX3.fp, hX3.fA, hX3.fo, hX3.fN, hX3.fm, fun b hb => by have := hX3.lt b hb; omega⟩
      rw [un _ (hX3.lt _ hX3.fm)]
      · exact hX3.map
      · rintro rfl
        have := hX3.map
        rw [hX3.hp] at this
        cases this
    · rw [un b (by omega) (by rintro rfl; exact hf hX3.fp), hk3.at_ b (by omega)]
      exact hk1.at_ b hb
  have hzl : (Zs m os).length = m.objs.length := hX.zlen
  refine aLoop_vs m.objs.length (fun i vs H' => ∃ L, vs = [.slice L (keepP ((Zs m os).take i) s).length (keepP ((Zs m os).take i) s).length, .int .i64 i] ∧ L1 m H p F A os NA mb (H3.next + 1) (some ⟨H3.next, 0, none⟩) C s i H' L) ⟨none, by rw [List.take_zero, keepP_nil]; rfl, hLL⟩ ?_
  rintro i vs H' again hi ⟨L, rfl, hL⟩ ha
  unfold S16_92
  by_cases hlt : i < m.objs.length
  · simp [hlt]
    unfold S16_65
    rw [aJoin_eq]
    have w1 := wrap64 (x := (i : Int) + 1) (by omega) (by omega)
    have i1 := hL.hX.idx (k := .i64) (j := (i : Int)) (c := m.objs.length) (by omega) (by simp [at_used]; omega)
    rw [Int.toNat_natCast] at i1
    have hlt2 : i < ((at_used m (total (keepP (m.objs.take i) s) : Nat)).objs.zip os).length := by rw [hL.hX.zlen]; exact hlt
    have l1 := hL.hX.objs.rd.agg hlt2
    obtain ⟨o, a, ho, hao, hoa⟩ : ∃ o a, m.objs[i]? = some o ∧ os[i]? = some a ∧ ((at_used m (total (keepP (m.objs.take i) s) : Nat)).objs.zip os)[i] = (o, a) := by
      refine ⟨m.objs[i], os[i]'(by rw [hX.len]; exact hlt), List.getElem?_eq_getElem _, List.getElem?_eq_getElem _, by simp [at_used]⟩
    rw [hoa] at l1
    have i2 := hL.hC.rd.idx (k := .i64) (j := (i : Int)) (c := s.length) (by omega) (by omega)
    rw [Int.toNat_natCast] at i2
    have his : i < s.length := by omega
    simp only [at_used] at i1
    simp only [nth_zero, nth_1, i1, l1, bnd_some', aAlloc_eq]
    simp [encO, at_alloc, -aLdAgg_ptr, -aLdCell_ptr, i2]
    obtain ⟨G, hG⟩ : ∃ X, X = ((H'.alloc (.cells [.int .i64 0, .slice none 0 0, .int .i64 0, .string ⟨#[]⟩, .bool false, .slice none 0 0, .slice none 0 0, .int .i64 0, .slice none 0 0, .slice none 0 0] .var 94)).upd H'.next (.cells [.int .i64 o.kind, .slice a o.slots.length o.slots.length, .int .i64 o.sk, .string o.text, .bool false, .slice none 0 0, .slice none 0 0, .int .i64 0, .slice none 0 0, .slice none 0 0] .var 94)) := ⟨_, rfl⟩
    simp only [← hG]
    have hkG : Keep H'.next H' G := hG ▸ ((Keep.refl _ _).alloc (Nat.le_refl _) _).upd (Nat.le_refl _) _
    have g10 : G.at_ H'.next = .cells (encO (o, a)) .var 94 := by rw [hG]; simp [encO]
    have hnG : G.next = H'.next + 1 := by rw [hG]; simp
    clear hG
    have hLG := hL.kept hkG
    have l2 := hLG.hC.rd.ld (enc := Value.bool) his
    simp [l2, -aLdCell_ptr]
    have hgs : s.getD i false = s[i] := by rw [List.getD_eq_getElem?_getD, List.getElem?_eq_getElem his]; rfl
    cases hsi : s[i] with
    | true =>
      simp
      refine l64 hI (fun b hb => hX.lt b hb) hLG hlt ho hao (by rw [hgs, hsi]) g10 (by omega) (slots_le hI hV o (List.mem_of_getElem? ho)) fun H'' L' hL' => ?_
      simp [w1]
      exact ha _ H'' hlt ⟨L', rfl, hL'⟩
    | false =>
      simp [w1]
      have hz : (Zs m os)[i]? = some (o, a) := zip_at ho hao
      have ek : keepP ((Zs m os).take (i + 1)) s = keepP ((Zs m os).take i) s := by rw [keepP_take _ _ _ _ hz, hgs, hsi]; simp
      have eo : keepP (m.objs.take (i + 1)) s = keepP (m.objs.take i) s := by rw [keepP_take _ _ _ _ ho, hgs, hsi]; simp
      refine ha _ G hlt ⟨L, by rw [ek]; rfl, ?_⟩
      have ep := placeTo_succ m s i hlt
      rw [hgs, hsi, if_neg (by decide)] at ep
      exact ⟨hLG.n1, hLG.n0, hLG.t2, hLG.t7, by rw [ep]; exact hLG.hQ, hLG.hC, by rw [eo]; exact hLG.hX, by rw [ek]; exact hLG.hL, hLG.fr⟩
  · have hie : i = m.objs.length := by omega
    subst hie
    simp
    have ez : (Zs m os).take m.objs.length = Zs m os := by rw [← hzl, List.take_length]
    rw [ez]
    have hLX := hL.hX
    have hF : LF m H p F NA mb (keepP (Zs m os) s) := by
      have key : ∀ (i : Nat) (o : Ob) (a : Option Addr), (keepP (Zs m os) s)[i]? = some (o, a) → ∃ j, m.objs[j]? = some o ∧ os[j]? = some a ∧ (keepP ((Zs m os).take j) s).length = i := by
        intro i o a hi
        obtain ⟨j, h1, h2, h3⟩ := keepP_idx _ _ _ _ hi
        refine ⟨j, ?_, ?_, h3⟩
        · have := congrArg (Option.map (·.1)) h1
          rw [← List.getElem?_map, List.map_fst_zip (by rw [hX.len]; exact Nat.le_refl _)] at this
          exact this
        · have := congrArg (Option.map (·.2)) h1
          rw [← List.getElem?_map, List.map_snd_zip (by rw [hX.len]; exact Nat.le_refl _)] at this
          exact this
      refine ⟨hX.lt, hX.fp, hX.fN, hX.fm, fun i o a hi => ?_, fun i j o o' a b h1 h2 h3 => ?_⟩
      · obtain ⟨j, _, h2, _⟩ := key i o _ hi
        exact hX.fo j a h2
      · obtain ⟨i', _, h4, h5⟩ := key i o _ h1
        obtain ⟨j', _, h6, h7⟩ := key j o' _ h2
        have := hX.dist i' j' a b h4 h6 h3
        subst this
        omega
    have ht : m.objs.take m.objs.length = m.objs := List.take_length
    have hL2 : L2 m H p F (total (keepP m.objs s) : Nat) A NA mb (H3.next + 1) (some ⟨H3.next, 0, none⟩) (place m s) (keepP (Zs m os) s) 0 H' L := by
      refine ⟨hL.n1, hL.n0, hL.t2, ?_, hL.hQ, ?_, ?_, fun j o a hj => ?_, hLX.names, hLX.map, hL.fr⟩
      · have := hL.t7
        rwa [← placeTo_len m s m.objs.length] at this
      · have := hLX.hp
        rw [ht] at this
        exact this
      · have := hL.hL
        rwa [ez] at this
      · rw [if_neg (by omega)]
        obtain ⟨i, h1, _, _⟩ := keepP_idx _ _ _ _ hj
        have e1 := congrArg (Option.map (·.1)) h1
        rw [← List.getElem?_map, List.map_fst_zip (by rw [hX.len]; exact Nat.le_refl _)] at e1
        have e2 := congrArg (Option.map (·.2)) h1
        rw [← List.getElem?_map, List.map_snd_zip (by rw [hX.len]; exact Nat.le_refl _)] at e2
        exact hLX.slots i o a e1 e2
    refine aLoop_st (keepP (Zs m os) s).length (fun k => [.int .i64 k]) (fun k H'' => L2 m H p F (total (keepP m.objs s) : Nat) A NA mb (H3.next + 1) (some ⟨H3.next, 0, none⟩) (place m s) (keepP (Zs m os) s) k H'' L) rfl hL2 ?_
    rintro k H'' again2 hk hL2' ha2
    exact l91 (fun r H' hr => ⟨s, hsl, hR, hr⟩) hlen hX.len hV (slots_le hI hV) hF hL2' hk hlo hB hn he hx hBF fun H4 hlt hL4 => ha2 H4 hlt hL4
end Go.Proofs.Ytngldjajfpbmbaa.A
