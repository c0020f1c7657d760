/- Contracts of functions that the statement reaches; each theorem carries its own conditions, the last theorem of the claim has none. -/
import Derived.Test.YtngldjajfpbmbaaMJ
set_option linter.unusedVariables false
set_option linter.unusedSimpArgs false
namespace Go.Proofs.Ytngldjajfpbmbaa.A
open Go Go.Abs

/-- Rows of other things lie elsewhere. -/
theorem _root_.Go.Abs.Ow.upne {α β : Type} {n k : Nat} {enc : α → List Value} {enc' : β → List Value} {e e' : TypeId} {lo lo' : Nat} {H : AHeap} {A B : Option Addr} {xs : List α} {ys : List β} (h : Ow n enc e lo H A xs) (h' : Ow k enc' e' lo' H B ys) (he : e ≠ e') {b : Nat} (hb : A = some ⟨b, 0, none⟩) (x : Blk) : Ow k enc' e' lo' (H.upd b x) B ys := by
  refine h'.at (Nat.le_refl _) fun y hy => ?_
  refine AHeap.at_upd_ne _ _ ?_
  rintro e1
  obtain ⟨_, _, _, cs, hcs⟩ := h'.blkOf hy
  obtain ⟨_, _, _, ds, hds⟩ := h.blkOf hb
  rw [e1, hds] at hcs
  cases hcs
  exact he rfl
theorem _root_.Go.Abs.Ow.ne {α β : Type} {n k : Nat} {enc : α → List Value} {enc' : β → List Value} {e e' : TypeId} {lo lo' : Nat} {H : AHeap} {A B : Option Addr} {xs : List α} {ys : List β} (h : Ow n enc e lo H A xs) (h' : Ow k enc' e' lo' H B ys) (he : e ≠ e') {x y : Addr} (hx : A = some x) (hy : B = some y) : x.block ≠ y.block := by
  intro e1
  obtain ⟨_, _, _, cs, hcs⟩ := h'.blkOf hy
  obtain ⟨_, _, _, ds, hds⟩ := h.blkOf hx
  rw [← e1, hds] at hcs
  cases hcs
  exact he rfl

/-- Collect of the reference: what is left is put together. -/
structure M1 (m : Sm) (H0 : AHeap) (os : List (Option Addr)) (Q C : Option Addr) (s : List Bool) (i : Nat) (H : AHeap) (L : Option Addr) : Prop where
  keep : Keep H0.next H0 H
  hC : Ow 1 eB 4 H0.next H C s
  hQ : Ow 1 eI 3 H0.next H Q (placeTo m s i)
  hL : Ow 10 encO 121 H0.next H L (keepP ((Zs m os).take i) s)

theorem l59_154 {m : Sm} {H0 : AHeap} {p : Nat} {F : Nat → Prop} {A : Option Addr} {os : List (Option Addr)} {NA : Option Addr} {Q C : Option Addr} {s : List Bool} {i : Nat} {H : AHeap} {L : Option Addr}
    (hX : RX H0 p m F A os NA) (hlen : m.objs.length ≤ 1048576) (h : M1 m H0 os Q C s i H L) (hi : i < m.objs.length) (hs : s.getD i false = true) {J : List Value → AHeap → Prop}
    (hJ : ∀ H' L', M1 m H0 os Q C s (i + 1) H' L' → J [.slice L' (keepP ((Zs m os).take (i + 1)) s).length (keepP ((Zs m os).take (i + 1)) s).length] H') :
    S59_154 (Pt p) (.slice Q m.objs.length m.objs.length) [.slice L (keepP ((Zs m os).take i) s).length (keepP ((Zs m os).take i) s).length, .int .i64 i] H J := by
  unfold S59_154
  obtain ⟨o, ho⟩ : ∃ o, m.objs[i]? = some o := ⟨_, List.getElem?_eq_getElem hi⟩
  obtain ⟨a, ha⟩ : ∃ a, os[i]? = some a := ⟨_, List.getElem?_eq_getElem (by rw [hX.len]; exact hi)⟩
  have hz : (Zs m os)[i]? = some (o, a) := zip_at ho ha
  have ek : keepP ((Zs m os).take (i + 1)) s = keepP ((Zs m os).take i) s ++ [(o, a)] := by rw [keepP_take _ _ _ _ hz, hs]; simp
  have hkz := keepZ_len (m := m) hX.len i s
  have hkl : (keepP (m.objs.take i) s).length ≤ m.objs.length := Nat.le_trans (keepP_len_le _ _) (by simp; omega)
  have hpl := placeTo_len m s i
  have i1 := h.hQ.rd.idx (k := .i64) (j := (i : Int)) (c := m.objs.length) (by omega) (by omega)
  rw [Int.toNat_natCast, hpl] at i1
  have eP := placeTo_succ m s i hi
  rw [if_pos hs] at eP
  obtain ⟨b, hQb, hb0, hb1, x, hst, hQ2, cs, hcs⟩ := h.hQ.st (j := i) (k := 0) (l := 1) (off := i) (v := .int .i64 ((keepP (m.objs.take i) s).length : Int)) (y := ((keepP (m.objs.take i) s).length : Int)) (by omega) (by omega) (by simp) (by simp) (by omega) (by simp)
  rw [← eP] at hQ2
  have hst' : aSt 1 (slot 1 Q i) (.int .i64 ((keepP (m.objs.take i) s).length : Int)) H = some (H.upd b x) := by rw [hQb]; simpa [slot] using hst
  have hC2 := h.hQ.upne h.hC (by decide) hQb x
  have hL2 := h.hQ.upne h.hL (by decide) hQb x
  have hk2 : Keep H0.next H0 (H.upd b x) := h.keep.upd hb0 x
  obtain ⟨G, hG⟩ : ∃ G, G = H.upd b x := ⟨_, rfl⟩
  rw [← hG] at hst' hC2 hL2 hk2 hQ2
  have hX2 : RX G p m F A os NA := hX.frame hk2.next fun b hb => hk2.at_ b (hX.lt b hb)
  have lp : aLdCell (.pointer (some ⟨p, 2, none⟩)) G = some (.slice A m.objs.length m.objs.length) := by simp [hX2.hp]
  have i2 := hX2.idx (k := .i64) (j := (i : Int)) (c := m.objs.length) (by omega) (by omega)
  rw [Int.toNat_natCast] at i2
  have hlt2 : i < (m.objs.zip os).length := by rw [hX.zlen]; exact hi
  have l2 := hX2.objs.rd.agg hlt2
  have ez : (m.objs.zip os)[i] = (o, a) := by
    have := hz
    rw [List.getElem?_eq_getElem hlt2] at this
    exact Option.some.inj this
  rw [ez] at l2
  simp only [nth_zero, nth_1, hkz, aLenSl_slice, bnd_some', i1, hst', aNilCheck_ptr, aAdd_ptr, Nat.zero_add, lp, i2, l2, aBuildSlice_eq]
  clear hst hst' i1 hcs
  have hn2 := hk2.next
  have hR : Rd 10 encO (G.next + 1) (G.alloc (.cells (encO (o, a)) (.row 10) 121)) (some ⟨G.next, 0, none⟩) [(o, a)] := Rd.mk' (by simp [encO]) (by omega) (AHeap.at_alloc_new _ _) (by simp) (by simp) (by simp [encO])
  have := (hL2.alloc (.cells (encO (o, a)) (.row 10) 121)).append (bytes := 168) (c := (keepP (m.objs.take i) s).length) (c' := 1) (K := fun t H' => J [t] H') hR (by simp; omega) (by rw [hkz]; simp only [maxLen, List.length_singleton]; omega) (by rw [hkz]; simp only [List.length_singleton]; omega) fun H3 h1 h2 h3 hk3 => by
    rw [← ek]
    rw [← ek] at h1
    have up : ∀ {α : Type} {n : Nat} {enc : α → List Value} {e : TypeId} {B : Option Addr} {ys : List α}, e ≠ 121 → Ow n enc e H0.next G B ys → Ow n enc e H0.next H3 B ys := by
      intro α n enc e B ys he hO
      refine hO.at (by rw [h2]; simp; omega) fun y hy => ?_
      obtain ⟨_, _, hy2, ds, hds⟩ := hO.blkOf hy
      rw [h3 y.block (by simp; omega) ?_, AHeap.at_alloc_ne _ _ (by omega)]
      rintro o' z hLL
      exact hO.ne hL2 he hy hLL rfl
    refine hJ H3 _ ⟨hk2.trans ?_, up (by decide) hC2, up (by decide) hQ2, h1⟩
    refine Keep.trans ?_ hk3
    exact (Keep.refl _ _).alloc hn2 _
  simp [encO, hkz] at this ⊢
  exact this
end Go.Proofs.Ytngldjajfpbmbaa.A

set_option linter.unusedVariables false
set_option linter.unusedSimpArgs false
namespace Go.Proofs.Ytngldjajfpbmbaa.A
open Go Go.Abs

theorem mid_len (xs : List V) (f : V → V) (i : Nat) (h : i ≤ xs.length) : ((xs.take i).map f ++ xs.drop i).length = xs.length := by simp; omega
theorem mid_same {xs : List V} {f : V → V} {i : Nat} (h : i < xs.length) (hf : f xs[i] = xs[i]) : (xs.take i).map f ++ xs.drop i = (xs.take (i + 1)).map f ++ xs.drop (i + 1) := by
  rw [List.drop_eq_getElem_cons h, List.take_succ_eq_append_getElem h, List.map_append]
  simp [hf]
theorem mv_seven {pl : List Int} {v : V} (h7 : v.1 = 7) (hv : v.2.toNat < pl.length) : mv pl v = (7, pl[v.2.toNat]) := by
  unfold mv
  rw [if_pos h7, List.getD_eq_getElem?_getD, List.getElem?_eq_getElem hv]
  rfl
theorem mv_else {pl : List Int} {v : V} (h7 : ¬ v.1 = 7) : mv pl v = v := by unfold mv; rw [if_neg h7]

/-- A value of a row, moved where it lies. -/
theorem mvRow {H : AHeap} {lo : Nat} {Q a : Option Addr} {pl : List Int} {xs : List V} {i : Nat} (hQ : Ow 1 eI 3 lo H Q pl) (hO : Ow 2 eV 28 0 H a ((xs.take i).map (mv pl) ++ xs.drop i)) (hi : i < xs.length) (hx : xs[i].1 = 7 → 0 ≤ xs[i].2 ∧ xs[i].2 < pl.length) :
    ∃ b, a = some ⟨b, 0, none⟩ ∧ aIdxAddr 2 (.slice a xs.length xs.length) (.int .i64 i) = some (.pointer (some ⟨b, i * 2, none⟩)) ∧ aLdCell (.pointer (some ⟨b, i * 2, none⟩)) H = some (.int .i64 xs[i].1) ∧ aLdCell (.pointer (some ⟨b, i * 2 + 1, none⟩)) H = some (.int .i64 xs[i].2) ∧
      (xs[i].1 = 7 → ∃ z q x, aIdxAddr 1 (.slice Q pl.length pl.length) (.int .i64 xs[i].2) = some q ∧ aLdCell q H = some (.int .i64 z) ∧ aSt 1 (.pointer (some ⟨b, i * 2 + 1, none⟩)) (.int .i64 z) H = some (H.upd b x) ∧ Ow 2 eV 28 0 (H.upd b x) a ((xs.take (i + 1)).map (mv pl) ++ xs.drop (i + 1))) ∧
      (¬ xs[i].1 = 7 → Ow 2 eV 28 0 H a ((xs.take (i + 1)).map (mv pl) ++ xs.drop (i + 1))) := by
  have hml := mid_len xs (mv pl) i (by omega)
  have hlt : i < ((xs.take i).map (mv pl) ++ xs.drop i).length := by omega
  have hm? : ((xs.take i).map (mv pl) ++ xs.drop i)[i]? = some xs[i] := mid_at hi
  obtain ⟨b, hb, hsb, hcb, _, hbl⟩ := hO.cell hm?
  have i1 := hO.rd.idx (k := .i64) (j := (i : Int)) (c := xs.length) (by omega) (by omega)
  rw [hml, Int.toNat_natCast, hsb] at i1
  refine ⟨b, hb, i1, hcb 0 (by omega), hcb 1 (by omega), fun h7 => ?_, fun h7 => ?_⟩
  · obtain ⟨v0, v1⟩ := hx h7
    have hv : xs[i].2.toNat < pl.length := by omega
    have i2 := hQ.rd.idx (k := .i64) (j := xs[i].2) (c := pl.length) v0 v1
    have l2 := hQ.rd.ld (enc := Value.int .i64) hv
    have hm := mv_seven (pl := pl) h7 hv
    obtain ⟨b', hb', _, _, x, hst, hO2, _⟩ := hO.st (j := i) (k := 1) (l := 1) (off := i * 2 + 1) (v := .int .i64 pl[xs[i].2.toNat]) (y := mv pl xs[i]) hlt rfl (by simp) (by simp) (by omega) (by
      have : ((xs.take i).map (mv pl) ++ xs.drop i)[i] = xs[i] := by
        rw [List.getElem?_eq_getElem hlt] at hm?
        exact Option.some.inj hm?
      rw [this, hm]
      simp [h7])
    rw [hb] at hb'
    cases hb'
    rw [mid_set hi] at hO2
    exact ⟨_, _, x, i2, l2, hst, hO2⟩
  · rw [← mid_same hi (mv_else h7)]
    exact hO

theorem l59_195 {H : AHeap} {lo : Nat} {Q L a : Option Addr} {pl : List Int} {P : List (Ob × Option Addr)} {k i : Nat} {o : Ob} {vi : Value} (hL : Ow 10 encO 121 lo H L P) (hQ : Ow 1 eI 3 lo H Q pl) (hk : P[k]? = some (o, a)) (hO : Ow 2 eV 28 0 H a ((o.slots.take i).map (mv pl) ++ o.slots.drop i)) (hi : i < o.slots.length) (hl : o.slots.length ≤ 1048576)
    (hx : o.slots[i].1 = 7 → 0 ≤ o.slots[i].2 ∧ o.slots[i].2 < pl.length) {again : List Value → AHeap → Prop}
    (ha : ∀ H', Ow 2 eV 28 0 H' a ((o.slots.take (i + 1)).map (mv pl) ++ o.slots.drop (i + 1)) → H'.next = H.next → (∀ c, (∀ x, a = some x → x.block ≠ c) → H'.at_ c = H.at_ c) → again [.int .i64 ((i + 1 : Nat) : Int)] H') :
    S59_195 (.slice Q pl.length pl.length) [.slice L P.length P.length, vi] [.int .i64 k] [.int .i64 i] H again := by
  unfold S59_195
  rw [aJoin_eq]
  have hkl : k < P.length := (List.getElem?_eq_some_iff.1 hk).1
  have w1 := wrap64 (x := (i : Int) + 1) (by omega) (by omega)
  obtain ⟨bL, hLb, hLs, hLc, _, _⟩ := hL.cell hk
  have i1 := hL.rd.idx (k := .i64) (j := (k : Int)) (c := P.length) (by omega) (by omega)
  rw [Int.toNat_natCast, hLs] at i1
  have l1 : aLdCell (.pointer (some ⟨bL, k * 10 + 1, none⟩)) H = some (.slice a o.slots.length o.slots.length) := hLc 1 (by omega)
  obtain ⟨b, hb, i2, l2, l3, g7, g8⟩ := mvRow hQ hO hi hx
  simp only [nth_zero, i1, bnd_some', aAdd_ptr, l1, i2, Nat.add_zero, l2, aBin_eql]
  refine aCond_of (fun hd => ?_) fun hd => ?_
  · have h7 : o.slots[i].1 = 7 := of_decide_eq_true hd
    obtain ⟨z, q, x, i3, l4, hst, hO2⟩ := g7 h7
    unfold S59_194
    simp only [nth_zero, i1, bnd_some', aAdd_ptr, l1, i2, l3, i3, l4, hst, aBin_add, w1]
    exact ha _ hO2 rfl fun c hc => AHeap.at_upd_ne _ _ fun e => hc _ hb (by rw [e])
  · have h7 : ¬ o.slots[i].1 = 7 := of_decide_eq_false hd
    simp only [nth_zero, aBin_add, bnd_some', w1]
    exact ha _ (g8 h7) rfl fun c _ => rfl

/-- The values that are answered, moved. -/
theorem l59_out {H : AHeap} {lo : Nat} {Q a : Option Addr} {pl : List Int} {xs : List V} (hQ : Ow 1 eI 3 lo H Q pl) (hO : Ow 2 eV 28 0 H a xs) (hl : xs.length ≤ 2097152) (hx : ∀ v ∈ xs, v.1 = 7 → 0 ≤ v.2 ∧ v.2 < pl.length) {R : Value → AHeap → Prop}
    (hR : ∀ H', Ow 2 eV 28 0 H' a (xs.map (mv pl)) → H'.next = H.next → (∀ c, (∀ x, a = some x → x.block ≠ c) → H'.at_ c = H.at_ c) → R (.tuple #[.slice a xs.length xs.length, .int .i64 0]) H') :
    aLoop [.int .i64 0] H fun vs H again => S59_233 R (.slice Q pl.length pl.length) (.slice a xs.length xs.length) vs H again := by
  refine aLoop_st xs.length (fun i => [.int .i64 i]) (fun i H' => Ow 2 eV 28 0 H' a ((xs.take i).map (mv pl) ++ xs.drop i) ∧ H'.next = H.next ∧ ∀ c, (∀ x, a = some x → x.block ≠ c) → H'.at_ c = H.at_ c) rfl ⟨by simpa using hO, rfl, fun _ _ => rfl⟩ ?_
  rintro i H' again hi ⟨hO', hn, hat⟩ ha
  unfold S59_233
  simp only [aLenSl_slice, bnd_some', nth_zero, aBin_lss]
  by_cases hlt : i < xs.length
  · have hlt' : (i : Int) < xs.length := by omega
    have w1 := wrap64 (x := (i : Int) + 1) (by omega) (by omega)
    simp only [decide_eq_true hlt', aCond_true]
    unfold S59_232
    rw [aJoin_eq]
    have hQ' : Ow 1 eI 3 lo H' Q pl := hQ.at (by omega) fun y hy => hat _ fun x hx => (hO.ne hQ (by decide) hx hy)
    obtain ⟨b, hb, i2, l2, l3, g7, g8⟩ := mvRow hQ' hO' hlt (hx _ (List.getElem_mem hlt))
    simp only [nth_zero, i2, bnd_some', aAdd_ptr, Nat.add_zero, l2, aBin_eql]
    refine aCond_of (fun hd => ?_) fun hd => ?_
    · have h7 : xs[i].1 = 7 := of_decide_eq_true hd
      obtain ⟨z, q, x, i3, l4, hst, hO2⟩ := g7 h7
      unfold S59_231
      simp only [nth_zero, bnd_some', aAdd_ptr, i2, l3, i3, l4, hst, aBin_add, w1]
      exact ha _ hlt ⟨hO2, hn, fun c hc => by rw [AHeap.at_upd_ne _ _ fun e => hc _ hb (by rw [e])]; exact hat c hc⟩
    · have h7 : ¬ xs[i].1 = 7 := of_decide_eq_false hd
      simp only [nth_zero, aBin_add, bnd_some', w1]
      exact ha _ hlt ⟨g8 h7, hn, hat⟩
  · have hie : i = xs.length := by omega
    have hlt' : ¬ (i : Int) < xs.length := by omega
    subst hie
    simp only [decide_eq_false hlt', aCond_false]
    simp at hO'
    exact hR H' hO' hn hat

/-- The second loop. -/
structure M2 (m : Sm) (H0 : AHeap) (p : Nat) (F : Nat → Prop) (u : Int) (A NA : Option Addr) (Q : Option Addr) (pl : List Int) (P : List (Ob × Option Addr)) (k : Nat) (H : AHeap) (L : Option Addr) : Prop where
  nx : H0.next ≤ H.next
  hQ : Ow 1 eI 3 H0.next H Q pl
  hp : H.at_ p = .cells [.int .i64 m.lim, .int .i64 u, .slice A m.objs.length m.objs.length, .slice NA m.names.length m.names.length] .var 64
  hL : Ow 10 encO 121 H0.next H L P
  hS : ∀ (j : Nat) (o : Ob) (a : Option Addr), P[j]? = some (o, a) → Ow 2 eV 28 0 H a (if j < k then o.slots.map (mv pl) else o.slots)
  hN : Ow 1 eS 9 0 H NA m.names
  fr : ∀ b, b < H0.next → ¬ F b → H.at_ b = H0.at_ b
structure RF (m : Sm) (H0 : AHeap) (p : Nat) (F : Nat → Prop) (NA : Option Addr) (P : List (Ob × Option Addr)) : Prop where
  lt : ∀ b, F b → b < H0.next
  fp : F p
  fN : ∀ a, NA = some a → F a.block
  fo : ∀ (i : Nat) (o : Ob) (a : Addr), P[i]? = some (o, some a) → F a.block
  dist : ∀ (i j : Nat) (o o' : Ob) (a b : Addr), P[i]? = some (o, some a) → P[j]? = some (o', some b) → a.block = b.block → i = j

theorem M2.move {m : Sm} {H0 : AHeap} {p : Nat} {F : Nat → Prop} {u : Int} {A NA : Option Addr} {Q : Option Addr} {pl : List Int} {P : List (Ob × Option Addr)} {k : Nat} {H H' : AHeap} {L : Option Addr} (hF : RF m H0 p F NA P)
    (h : M2 m H0 p F u A NA Q pl P k H L) {o : Ob} {a : Option Addr} (hk : P[k]? = some (o, a)) (hO : Ow 2 eV 28 0 H' a (o.slots.map (mv pl))) (hn : H'.next = H.next) (hat : ∀ b, (∀ x, a = some x → x.block ≠ b) → H'.at_ b = H.at_ b) :
    M2 m H0 p F u A NA Q pl P (k + 1) H' L := by
  have hOk := h.hS k o a hk
  have ne : ∀ (c : Nat) (cs : List Value) (ui : Use) (t : TypeId), H.at_ c = .cells cs ui t → t ≠ 28 → ∀ x, a = some x → x.block ≠ c := by
    rintro c cs ui t hc ht x hx rfl
    obtain ⟨_, _, _, ds, hds⟩ := hOk.blkOf hx
    rw [hc] at hds
    cases hds
    exact ht rfl
  have hnx := h.nx
  refine ⟨by omega, ?_, ?_, ?_, ?_, ?_, ?_⟩
  · exact h.hQ.at (by omega) fun y hy => by
      obtain ⟨_, _, hy2, ds, hds⟩ := h.hQ.blkOf hy
      exact hat _ (ne _ _ _ _ hds (by decide))
  · rw [hat _ (ne _ _ _ _ h.hp (by decide))]; exact h.hp
  · exact h.hL.at (by omega) fun y hy => by
      obtain ⟨_, _, hy2, ds, hds⟩ := h.hL.blkOf hy
      exact hat _ (ne _ _ _ _ hds (by decide))
  · intro j o' a' hj
    by_cases e : j = k
    · subst e
      rw [hk] at hj
      cases hj
      rw [if_pos (by omega)]
      exact hO
    · have := h.hS j o' a' hj
      have e2 : j < k + 1 ↔ j < k := by omega
      simp only [e2]
      refine this.at (by omega) fun y hy => ?_
      refine hat _ ?_
      rintro x rfl hxy
      subst hy
      exact e (hF.dist k j o o' x y hk hj hxy).symm
  · exact h.hN.at (by omega) fun y hy => by
      obtain ⟨_, _, hy2, ds, hds⟩ := h.hN.blkOf hy
      exact hat _ (ne _ _ _ _ hds (by decide))
  · intro b hb hf
    rw [hat b]
    · exact h.fr b hb hf
    · rintro x rfl e
      exact hf (e ▸ hF.fo k o x hk)

/-- One object's row, moved. -/
theorem l59_197 {m : Sm} {H0 : AHeap} {p : Nat} {F : Nat → Prop} {u : Int} {A NA : Option Addr} {Q : Option Addr} {pl : List Int} {P : List (Ob × Option Addr)} {k : Nat} {H : AHeap} {L : Option Addr} {vi : Value} (hF : RF m H0 p F NA P)
    (h : M2 m H0 p F u A NA Q pl P k H L) (hk : k < P.length) (hPl : P.length ≤ 1048576) (hs : ∀ z ∈ P, z.1.slots.length ≤ 1048576) (hx : ∀ z ∈ P, ∀ v ∈ z.1.slots, v.1 = 7 → 0 ≤ v.2 ∧ v.2 < pl.length) {again : List Value → AHeap → Prop}
    (ha : ∀ H', M2 m H0 p F u A NA Q pl P (k + 1) H' L → again [.int .i64 ((k + 1 : Nat) : Int)] H') :
    aLoop [.int .i64 0] H fun vs H again2 => S59_197 (.slice Q pl.length pl.length) [.slice L P.length P.length, vi] [.int .i64 k] again vs H again2 := by
  obtain ⟨o, a, hoa⟩ : ∃ o a, P[k] = (o, a) := ⟨_, _, rfl⟩
  have hk? : P[k]? = some (o, a) := by rw [List.getElem?_eq_getElem hk, hoa]
  have hm : (o, a) ∈ P := List.mem_of_getElem? hk?
  have hOk := h.hS k o a hk?
  rw [if_neg (by omega)] at hOk
  have hol := hs _ hm
  dsimp only at hol
  refine aLoop_st o.slots.length (fun i => [.int .i64 i]) (fun i H' => Ow 2 eV 28 0 H' a ((o.slots.take i).map (mv pl) ++ o.slots.drop i) ∧ H'.next = H.next ∧ ∀ c, (∀ x, a = some x → x.block ≠ c) → H'.at_ c = H.at_ c) rfl ⟨by simpa using hOk, rfl, fun _ _ => rfl⟩ ?_
  rintro i H' again2 hi ⟨hO', hn, hat⟩ ha2
  unfold S59_197
  have hL' : Ow 10 encO 121 H0.next H' L P := h.hL.at (by omega) fun y hy => hat _ fun x hx => (hOk.ne h.hL (by decide) hx hy)
  have hQ' : Ow 1 eI 3 H0.next H' Q pl := h.hQ.at (by omega) fun y hy => hat _ fun x hx => (hOk.ne h.hQ (by decide) hx hy)
  obtain ⟨bL, hLb, hLs, hLc, _, _⟩ := hL'.cell hk?
  have i1 := hL'.rd.idx (k := .i64) (j := (k : Int)) (c := P.length) (by omega) (by omega)
  rw [Int.toNat_natCast, hLs] at i1
  have l1 : aLdCell (.pointer (some ⟨bL, k * 10 + 1, none⟩)) H' = some (.slice a o.slots.length o.slots.length) := hLc 1 (by omega)
  simp only [nth_zero, i1, bnd_some', aAdd_ptr, l1, aLenSl_slice, aBin_lss]
  by_cases hlt : i < o.slots.length
  · have hlt' : (i : Int) < o.slots.length := by omega
    simp only [decide_eq_true hlt', aCond_true]
    exact l59_195 hL' hQ' hk? hO' hlt hol (hx _ hm _ (List.getElem_mem hlt)) fun H2 g1 g2 g3 => ha2 H2 hlt ⟨g1, by omega, fun c hc => (g3 c hc).trans (hat c hc)⟩
  · have hie : i = o.slots.length := by omega
    have hlt' : ¬ (i : Int) < o.slots.length := by omega
    have w1 := wrap64 (x := (k : Int) + 1) (by omega) (by omega)
    simp only [decide_eq_false hlt', aCond_false, nth_zero, aBin_add, bnd_some', w1]
    subst hie
    simp at hO'
    exact ha H' (h.move hF hk? hO' hn hat)
end Go.Proofs.Ytngldjajfpbmbaa.A

set_option linter.unusedVariables false
set_option linter.unusedSimpArgs false
namespace Go.Proofs.Ytngldjajfpbmbaa.A
open Go Go.Abs

/-- What Collect of the reference leaves. -/
def rcollPost (H0 : AHeap) (p : Nat) (F : Nat → Prop) (m : Sm) (xs : List V) (s : List Bool) (r : Value) (H' : AHeap) : Prop :=
  ∃ C F', r = .tuple #[.slice C xs.length xs.length, .int .i64 0] ∧ Ow 2 eV 28 H0.next H' C (xs.map (mv (place m s))) ∧ RS H' p (m.collect s) F' ∧ Fr F H0 F' H' ∧ ∀ x, C = some x → ¬ F' x.block

theorem l59_234 {m : Sm} {H0 : AHeap} {p : Nat} {F : Nat → Prop} {u : Int} {A NA : Option Addr} {Q : Option Addr} {s : List Bool} {os : List (Option Addr)} {H : AHeap} {L : Option Addr} {lo : Nat} {B : Option Addr} {xs : List V} {vi : Value} {R : Value → AHeap → Prop} (hRR : ∀ r H', rcollPost H0 p F m xs s r H' → R r H')
    (hI : Inv m) (hos : os.length = m.objs.length) (hs1 : ∀ o ∈ m.objs, o.slots.length ≤ 1048576) (hF : RF m H0 p F NA (keepP (Zs m os) s)) (h : M2 m H0 p F u A NA Q (place m s) (keepP (Zs m os) s) (keepP (Zs m os) s).length H L)
    (hlo : lo ≤ H0.next) (hB : Rd 2 eV lo H0 B xs) (hn : xs.length ≤ 2097152) (hx : ∀ v ∈ xs, okIx m v) (hBF : ∀ x, B = some x → ¬ F x.block) :
    S59_234 (Pt p) (.slice B xs.length xs.length) R (.slice Q (place m s).length (place m s).length) [.slice L (keepP (Zs m os) s).length (keepP (Zs m os) s).length, vi] H := by
  have hplen : (place m s).length = m.objs.length := placeTo_len _ _ _
  have eP : (keepP (Zs m os) s).map (·.1) = keepP m.objs s := by
    rw [← keepP_map]
    congr 1
    exact List.map_fst_zip (by omega)
  have hPl : (keepP (Zs m os) s).length = (keepP m.objs s).length := by rw [← eP, List.length_map]
  have hmem : ∀ z ∈ keepP (Zs m os) s, z.1 ∈ m.objs := fun z hz => (List.of_mem_zip (keepP_mem hz)).1
  obtain ⟨P, hP⟩ : ∃ P, P = keepP (Zs m os) s := ⟨_, rfl⟩
  rw [← hP] at hF h eP hPl hmem ⊢
  have htot : total (P.map (·.1)) ≤ 1048576 := by
    rw [eP]
    have := keepP_total m.objs s
    have := hI.sum
    have := hI.le
    have := hI.lim
    omega
  have hpl := hF.lt _ hF.fp
  have hnx := h.nx
  unfold S59_234
  simp only [aNilCheck_ptr, bnd_some', aAdd_ptr, Nat.zero_add, nth_zero]
  have st1 : aSt 1 (.pointer (some ⟨p, 2, none⟩)) (.slice L P.length P.length) H = some (H.upd p (.cells [.int .i64 m.lim, .int .i64 u, .slice L P.length P.length, .slice NA m.names.length m.names.length] .var 64)) := by simp [h.hp]
  rw [st1]
  simp only [bnd_some']
  clear st1
  obtain ⟨G, hG⟩ : ∃ X, X = H.upd p (.cells [.int .i64 m.lim, .int .i64 u, .slice L P.length P.length, .slice NA m.names.length m.names.length] .var 64) := ⟨_, rfl⟩
  rw [← hG]
  have gp : G.at_ p = .cells [.int .i64 m.lim, .int .i64 u, .slice L P.length P.length, .slice NA m.names.length m.names.length] .var 64 := by rw [hG]; simp
  have hatG : ∀ c, c ≠ p → G.at_ c = H.at_ c := fun c hc => by rw [hG]; exact AHeap.at_upd_ne _ _ hc
  have hnG : G.next = H.next := by rw [hG]; rfl
  clear hG
  have rowne : ∀ (c : Nat) (ds : List Value) (n : Nat) (t : TypeId), H.at_ c = .cells ds (.row n) t → c ≠ p := by
    rintro c ds n t hc rfl
    rw [h.hp] at hc
    cases hc
  have upG : ∀ {α : Type} {n : Nat} {enc : α → List Value} {e : TypeId} {lo : Nat} {A : Option Addr} {ys : List α}, Ow n enc e lo H A ys → Ow n enc e lo G A ys := fun {α n enc e lo A ys} ho => ho.at (by omega) fun y hy => by
    obtain ⟨_, _, hy2, ds, hds⟩ := ho.blkOf hy
    exact hatG _ (rowne _ _ _ _ hds)
  refine (c70 gp (upG (h.hL.lower (Nat.zero_le _))) htot fun z hz => hs1 _ (hmem z hz)).use ?_
  have st2 : aSt 1 (.pointer (some ⟨p, 1, none⟩)) (.int .i64 (total (P.map (·.1)) : Nat)) G = some (G.upd p (.cells [.int .i64 m.lim, .int .i64 (total (P.map (·.1)) : Nat), .slice L P.length P.length, .slice NA m.names.length m.names.length] .var 64)) := by simp [gp]
  simp only [aNilCheck_ptr, bnd_some', aAdd_ptr, Nat.zero_add, st2, aBuildSlice_eq]
  clear st2
  obtain ⟨K, hK⟩ : ∃ X, X = G.upd p (.cells [.int .i64 m.lim, .int .i64 (total (P.map (·.1)) : Nat), .slice L P.length P.length, .slice NA m.names.length m.names.length] .var 64) := ⟨_, rfl⟩
  rw [← hK]
  have kp : K.at_ p = .cells [.int .i64 m.lim, .int .i64 (total (P.map (·.1)) : Nat), .slice L P.length P.length, .slice NA m.names.length m.names.length] .var 64 := by rw [hK]; simp
  have hatK : ∀ c, c ≠ p → K.at_ c = H.at_ c := fun c hc => by rw [hK, AHeap.at_upd_ne _ _ hc]; exact hatG c hc
  have hnK : K.next = H.next := by rw [hK]; exact hnG
  clear hK gp hatG upG hnG
  have upK : ∀ {α : Type} {n : Nat} {enc : α → List Value} {e : TypeId} {lo : Nat} {A : Option Addr} {ys : List α}, Ow n enc e lo H A ys → Ow n enc e lo K A ys := fun {α n enc e lo A ys} ho => ho.at (by omega) fun y hy => by
    obtain ⟨_, _, hy2, ds, hds⟩ := ho.blkOf hy
    exact hatK _ (rowne _ _ _ _ hds)
  have hBK : Rd 2 eV H0.next K B xs := hB.at hlo fun x hx => by
    have hxl : x.block < lo := by
      rcases hB.2 with ⟨h1, _⟩ | ⟨b, o, cs, k, t, h1, h2, _⟩
      · rw [h1] at hx; cases hx
      · rw [h1] at hx; cases hx; exact h2
    rw [hatK _ (by rintro e; exact hBF x hx (e ▸ hF.fp))]
    exact h.fr _ (by omega) (hBF x hx)
  simp
  refine appN (by omega) hBK hn fun H2 C hC hk2 => ?_
  have hn2 := hk2.next
  have up2 : ∀ {α : Type} {n : Nat} {enc : α → List Value} {e : TypeId} {lo : Nat} {A : Option Addr} {ys : List α}, Ow n enc e lo H A ys → Ow n enc e lo H2 A ys := fun {α n enc e lo A ys} ho => (upK ho).kept hk2
  refine l59_out (up2 h.hQ) (hC.lower (Nat.zero_le _)) hn (fun v hv h7 => by rw [hplen]; exact hx v hv h7) fun H3 hO hn3 hat3 => ?_
  have hCb : ∀ x, C = some x → K.next ≤ x.block := fun x hx => (hC.blkOf hx).2.1
  have hat : ∀ c, c < K.next → H3.at_ c = K.at_ c := fun c hc => by
    rw [hat3 c fun x hx => by have := hCb x hx; omega]
    exact hk2.at_ c hc
  have up : ∀ {α : Type} {n : Nat} {enc : α → List Value} {e : TypeId} {lo : Nat} {A : Option Addr} {ys : List α}, Ow n enc e lo H A ys → Ow n enc e lo H3 A ys := fun {α n enc e lo A ys} ho => ho.at (by omega) fun y hy => by
    obtain ⟨_, _, hy2, ds, hds⟩ := ho.blkOf hy
    rw [hat _ (by omega), hatK _ (rowne _ _ _ _ hds)]
  have hO0 : Ow 2 eV 28 H0.next H3 C (xs.map (mv (place m s))) := ⟨hO.1, hO.2.imp id fun ⟨b, cs, h1, _, h3⟩ => ⟨b, cs, h1, by have := hCb _ h1; dsimp only at this; omega, h3⟩⟩
  have hLF : ∀ x, L = some x → H0.next ≤ x.block ∧ x.block < H.next := fun x hx => ⟨(h.hL.blkOf hx).2.1, (h.hL.blkOf hx).2.2.1⟩
  refine hRR _ _ ⟨C, fun b => F b ∨ ∃ x, L = some x ∧ x.block = b, rfl, hO0, ⟨L, P.map (·.2), NA, ?_⟩, ⟨by omega, ?_, ?_⟩, ?_⟩
  · have eo : ∀ (i : Nat) (o : Ob) (a : Option Addr), ((keepP m.objs s).map (mvOb (place m s)))[i]? = some o → (P.map (·.2))[i]? = some a → ∃ o', P[i]? = some (o', a) ∧ o = mvOb (place m s) o' := by
      intro i o a h1 h2
      rw [← eP] at h1
      simp only [List.getElem?_map, Option.map_eq_some_iff] at h1 h2
      obtain ⟨z, hz, rfl⟩ := h2
      obtain ⟨o1, ⟨z1, hz1, rfl⟩, rfl⟩ := h1
      rw [hz] at hz1
      cases hz1
      exact ⟨z.1, hz, rfl⟩
    have ea : ∀ (i : Nat) (a : Addr), (P.map (·.2))[i]? = some (some a) → ∃ o, P[i]? = some (o, some a) := by
      intro i a h2
      simp only [List.getElem?_map, Option.map_eq_some_iff] at h2
      obtain ⟨z, hz, hz2⟩ := h2
      exact ⟨z.1, by rw [hz, ← hz2]⟩
    refine ⟨by simp [Sm.collect, hPl], ?_, ?_, ?_, ?_, up h.hN, .inl hF.fp, fun a ha => .inr ⟨a, ha, rfl⟩, ?_, fun a ha => .inl (hF.fN a ha), ?_⟩
    · rw [hat _ (by omega), kp]
      simp [Sm.collect, hPl, eP]
    · refine (up (h.hL.lower (Nat.zero_le _))).congr (fun z => (mvOb (place m s) z.1, z.2)) ?_ fun z => encO_mv _ _ _
      simp only [Sm.collect]
      rw [← eP, List.map_map, List.zip_map']
      rfl
    · intro i o a h1 h2
      obtain ⟨o', h3, rfl⟩ := eo i o a h1 h2
      have hlt : i < P.length := (List.getElem?_eq_some_iff.1 h3).1
      have := h.hS i o' a h3
      rw [if_pos hlt] at this
      exact up this
    · intro i j a b h1 h2 h3
      obtain ⟨o, h4⟩ := ea i a h1
      obtain ⟨o', h5⟩ := ea j b h2
      exact hF.dist i j o o' a b h4 h5 h3
    · intro i a h1
      obtain ⟨o, h4⟩ := ea i a h1
      exact .inl (hF.fo i o a h4)
    · rintro b (hb | ⟨x, hx, rfl⟩)
      · have := hF.lt b hb; omega
      · have := hLF x hx; omega
  · intro b hb hf
    rw [hat b (by omega), hatK b (by rintro rfl; exact hf hF.fp)]
    exact h.fr b hb hf
  · rintro b (hb | ⟨x, hx, rfl⟩)
    · exact .inl hb
    · exact .inr (hLF x hx).1
  · rintro x hx (hb | ⟨y, hy, e⟩)
    · have := hF.lt _ hb; have := hCb x hx; omega
    · have := hLF y hy; have := hCb x hx; omega

theorem l59_237 {m : Sm} {H0 : AHeap} {p : Nat} {F : Nat → Prop} {s : List Bool} {H : AHeap} {C : Option Addr} {lo : Nat} {B : Option Addr} {xs : List V} {R : Value → AHeap → Prop} (hRR : ∀ r H', rcollPost H0 p F m xs s r H' → R r H')
    (hS : RS H0 p m F) (hI : Inv m) (hV : Vd m) (hn : Sn H0 H C s) (hsl : s.length = m.objs.length)
    (hlo : lo ≤ H0.next) (hB : Rd 2 eV lo H0 B xs) (hxl : xs.length ≤ 2097152) (hx : ∀ v ∈ xs, okIx m v) (hBF : ∀ x, B = some x → ¬ F x.block) :
    S59_237 (Pt p) (.slice B xs.length xs.length) R (.slice C m.objs.length m.objs.length) H := by
  unfold S59_237
  obtain ⟨A, os, NA, hX0⟩ := hS
  have hlen := hI.len
  have hs1 := slots_le hI hV
  have hX : RX H p m F A os NA := hX0.frame hn.keep.next fun b hb => hn.keep.at_ b (hX0.lt b hb)
  have lp : aLdCell (.pointer (some ⟨p, 2, none⟩)) H = some (.slice A m.objs.length m.objs.length) := by simp [hX.hp]
  simp only [aNilCheck_ptr, bnd_some', aAdd_ptr, Nat.zero_add, lp, aLenSl_slice]
  simp [aMakeSlice]
  refine ⟨by omega, ?_⟩
  simp only [Int.toNat_natCast, List.getD_cons_zero]
  obtain ⟨G, hG⟩ : ∃ X, X = H.alloc (.cells (List.replicate m.objs.length (.int .i64 0)) (.row 1) 3) := ⟨_, rfl⟩
  rw [← hG]
  have hkG : Keep H.next H G := hG ▸ (Keep.refl _ _).alloc (Nat.le_refl _) _
  have hnG : G.next = H.next + 1 := by rw [hG]; simp
  have gQ : G.at_ H.next = .cells (List.replicate m.objs.length (.int .i64 0)) (.row 1) 3 := by rw [hG]; simp
  clear hG
  have hnn := hn.keep.next
  have hQ0 : Ow 1 eI 3 H0.next G (some ⟨H.next, 0, none⟩) (placeTo m s 0) := by
    rw [placeTo_zero]
    refine ⟨by simp, .inr ⟨H.next, _, rfl, by omega, by omega, gQ, by simp, ?_⟩⟩
    rw [← flat_zero]
    simp
  have hM1 : M1 m H0 os (some ⟨H.next, 0, none⟩) C s 0 G none := ⟨hn.keep.trans (hkG.lower hnn), (hn.kept hkG).row, hQ0, by rw [List.take_zero, keepP_nil]; exact Ow.nil _ _ _ _ _⟩
  have hzl : (Zs m os).length = m.objs.length := hX0.zlen
  refine aLoop_vs m.objs.length (fun i vs H' => ∃ L, vs = [.slice L (keepP ((Zs m os).take i) s).length (keepP ((Zs m os).take i) s).length, .int .i64 i] ∧ M1 m H0 os (some ⟨H.next, 0, none⟩) C s i H' L) ⟨none, by rw [List.take_zero, keepP_nil]; rfl, hM1⟩ ?_
  clear hM1 hQ0 gQ hkG hnG
  rintro i vs H' again hi ⟨L, rfl, hL⟩ ha
  unfold S59_236
  have hX' : RX H' p m F A os NA := hX0.frame hL.keep.next fun b hb => hL.keep.at_ b (hX0.lt b hb)
  have lp' : aLdCell (.pointer (some ⟨p, 2, none⟩)) H' = some (.slice A m.objs.length m.objs.length) := by simp [hX'.hp]
  simp only [aNilCheck_ptr, bnd_some', aAdd_ptr, Nat.zero_add, lp', aLenSl_slice, nth_zero, nth_1, aBin_lss]
  by_cases hlt : i < m.objs.length
  · have hlt' : (i : Int) < m.objs.length := by omega
    have w1 := wrap64 (x := (i : Int) + 1) (by omega) (by omega)
    have his : i < s.length := by omega
    simp only [decide_eq_true hlt', aCond_true]
    unfold S59_155
    rw [aJoin_eq]
    have i2 := hL.hC.rd.idx (k := .i64) (j := (i : Int)) (c := m.objs.length) (by omega) (by omega)
    rw [Int.toNat_natCast, hsl] at i2
    have l2 := hL.hC.rd.ld (enc := Value.bool) his
    have hgs : s.getD i false = s[i] := by rw [List.getD_eq_getElem?_getD, List.getElem?_eq_getElem his]; rfl
    simp only [nth_zero, nth_1, i2, l2, bnd_some']
    cases hsi : s[i] with
    | true =>
      simp only [aCond_true]
      refine l59_154 hX0 hlen hL hlt (by rw [hgs, hsi]) fun H'' L' hL' => ?_
      simp only [nth_zero, aBin_add, bnd_some', w1]
      exact ha _ H'' hlt ⟨L', rfl, hL'⟩
    | false =>
      simp only [aCond_false, nth_zero, aBin_add, bnd_some', w1]
      obtain ⟨o, ho⟩ : ∃ o, m.objs[i]? = some o := ⟨_, List.getElem?_eq_getElem hlt⟩
      obtain ⟨a, hao⟩ : ∃ a, os[i]? = some a := ⟨_, List.getElem?_eq_getElem (by rw [hX0.len]; exact hlt)⟩
      have hz : (Zs m os)[i]? = some (o, a) := zip_at ho hao
      have ek : keepP ((Zs m os).take (i + 1)) s = keepP ((Zs m os).take i) s := by rw [keepP_take _ _ _ _ hz, hgs, hsi]; simp
      have ep := placeTo_succ m s i hlt
      rw [hgs, hsi, if_neg (by decide)] at ep
      exact ha _ H' hlt ⟨L, by rw [ek]; rfl, ⟨hL.keep, hL.hC, by rw [ep]; exact hL.hQ, by rw [ek]; exact hL.hL⟩⟩
  · have hie : i = m.objs.length := by omega
    have hlt' : ¬ (i : Int) < m.objs.length := by omega
    subst hie
    simp only [decide_eq_false hlt', aCond_false]
    have ez : (Zs m os).take m.objs.length = Zs m os := by rw [← hzl, List.take_length]
    rw [ez]
    have key : ∀ (i : Nat) (o : Ob) (a : Option Addr), (keepP (Zs m os) s)[i]? = some (o, a) → ∃ j, m.objs[j]? = some o ∧ os[j]? = some a ∧ (keepP ((Zs m os).take j) s).length = i := by
      intro i o a hi
      obtain ⟨j, h1, h2, h3⟩ := keepP_idx _ _ _ _ hi
      refine ⟨j, ?_, ?_, h3⟩
      · have := congrArg (Option.map (·.1)) h1
        rw [← List.getElem?_map, List.map_fst_zip (by rw [hX0.len]; exact Nat.le_refl _)] at this
        exact this
      · have := congrArg (Option.map (·.2)) h1
        rw [← List.getElem?_map, List.map_snd_zip (by rw [hX0.len]; exact Nat.le_refl _)] at this
        exact this
    have hF : RF m H0 p F NA (keepP (Zs m os) s) := by
      refine ⟨hX0.lt, hX0.fp, hX0.fN, fun i o a hi => ?_, fun i j o o' a b h1 h2 h3 => ?_⟩
      · obtain ⟨j, _, h2, _⟩ := key i o _ hi
        exact hX0.fo j a h2
      · obtain ⟨i', _, h4, h5⟩ := key i o _ h1
        obtain ⟨j', _, h6, h7⟩ := key j o' _ h2
        have := hX0.dist i' j' a b h4 h6 h3
        subst this
        omega
    have hL2 : M2 m H0 p F m.used A NA (some ⟨H.next, 0, none⟩) (place m s) (keepP (Zs m os) s) 0 H' L := by
      refine ⟨hL.keep.next, hL.hQ, hX'.hp, ?_, fun j o a hj => ?_, hX'.names, fun b hb _ => hL.keep.at_ b hb⟩
      · have := hL.hL
        rwa [ez] at this
      · rw [if_neg (by omega)]
        obtain ⟨i, e1, e2, _⟩ := key j o a hj
        exact hX'.slots i o a e1 e2
    have hplen : (place m s).length = m.objs.length := placeTo_len _ _ _
    have hkl : (keepP (Zs m os) s).length ≤ m.objs.length := hzl ▸ keepP_len_le (Zs m os) s
    have hmem : ∀ z ∈ keepP (Zs m os) s, z.1 ∈ m.objs := fun z hz => (List.of_mem_zip (keepP_mem hz)).1
    rw [← hplen]
    refine aLoop_st (keepP (Zs m os) s).length (fun k => [.int .i64 k]) (fun k H'' => M2 m H0 p F m.used A NA (some ⟨H.next, 0, none⟩) (place m s) (keepP (Zs m os) s) k H'' L) rfl hL2 ?_
    rintro k H'' again2 hk hL2' ha2
    unfold S59_235
    simp only [aLenSl_slice, bnd_some', nth_zero, aBin_lss]
    by_cases hlk : k < (keepP (Zs m os) s).length
    · have hlk' : (k : Int) < (keepP (Zs m os) s).length := by omega
      simp only [decide_eq_true hlk', aCond_true]
      exact l59_197 hF hL2' hlk (by omega) (fun z hz => hs1 _ (hmem z hz)) (fun z hz v hv h7 => by rw [hplen]; exact hV.ok _ (hmem z hz) v hv h7) fun H3 h3 => ha2 H3 hlk h3
    · have hke : k = (keepP (Zs m os) s).length := by omega
      have hlk' : ¬ (k : Int) < (keepP (Zs m os) s).length := by omega
      subst hke
      simp only [decide_eq_false hlk', aCond_false]
      exact l59_234 hRR hI hX0.len hs1 hF hL2' hlo hB hxl hx hBF
end Go.Proofs.Ytngldjajfpbmbaa.A

set_option linter.unusedVariables false
set_option linter.unusedSimpArgs false
namespace Go.Proofs.Ytngldjajfpbmbaa.A
open Go Go.Abs

theorem l59_240 {H : AHeap} {p : Nat} {m : Sm} {F : Nat → Prop} (hS : RS H p m F) (hI : Inv m) (hV : Vd m) {lo : Nat} {B : Option Addr} {xs : List V} (hlo : lo ≤ H.next) (hB : Rd 2 eV lo H B xs) (hxl : xs.length ≤ 2097152) (hx : ∀ v ∈ xs, okIx m v) (hBF : ∀ x, B = some x → ¬ F x.block) {R : Value → AHeap → Prop}
    (hRR : ∀ r H' s, s.length = m.objs.length → (∀ i, s.getD i false = true ↔ Reach m xs i) → rcollPost H p F m xs s r H' → R r H') : S59_240 (Pt p) (.slice B xs.length xs.length) R H := by
  unfold S59_240
  obtain ⟨A, os, NA, hX⟩ := id hS
  have hlen := hI.len
  have lp : aLdCell (.pointer (some ⟨p, 2, none⟩)) H = some (.slice A m.objs.length m.objs.length) := by simp [hX.hp]
  simp only [aNilCheck_ptr, bnd_some', aAdd_ptr, Nat.zero_add, lp, aLenSl_slice]
  simp [aMakeSlice]
  refine ⟨by omega, ?_⟩
  simp only [Int.toNat_natCast, List.getD_cons_zero]
  obtain ⟨G, hG⟩ : ∃ X, X = H.alloc (.cells (List.replicate m.objs.length (.bool false)) (.row 1) 4) := ⟨_, rfl⟩
  rw [← hG]
  have hn0 : Sn H G (some ⟨H.next, 0, none⟩) (List.replicate m.objs.length false) := by
    refine ⟨hG ▸ (Keep.refl _ _).alloc (Nat.le_refl _) _, ?_⟩
    rw [hG]; exact Ow.new H _ (by simp) (flat_rep _)
  clear hG
  have e0 : ∀ i, (List.replicate m.objs.length false).getD i false = false := fun i => by
    rw [List.getD_eq_getElem?_getD, List.getElem?_replicate]; split <;> rfl
  refine aLoop_vs xs.length (fun i vs H' => vs = [.int .i64 i] ∧ ∃ s, Sn H H' (some ⟨H.next, 0, none⟩) s ∧ s.length = m.objs.length ∧ (∀ i, s.getD i false = true → Reach m xs i) ∧ ∀ v ∈ xs.take i, v.1 = 7 → s.getD v.2.toNat false = true) ⟨rfl, _, hn0, by simp, fun i hi => (by rw [e0] at hi; cases hi), by simp⟩ ?_
  clear hn0 e0
  rintro i vs H' again hi ⟨rfl, s, hn, hsl, hrs, hrt⟩ ha
  unfold S59_239
  simp only [aLenSl_slice, bnd_some', nth_zero, aBin_lss]
  by_cases hlt : i < xs.length
  · have hlt' : (i : Int) < xs.length := by omega
    have w1 := wrap64 (x := (i : Int) + 1) (by omega) (by omega)
    have hB' : Rd 2 eV lo H' B xs := hB.kept (hn.keep.lower hlo)
    obtain ⟨b, o, cs, k, t, hAb, _, hat, hl, hc⟩ := hB'.elem hlt
    have i1 := hB'.idx (k := .i64) (j := (i : Int)) (c := xs.length) (by omega) (by omega)
    have hsb : slot 2 B i = .pointer (some ⟨b, o + i * 2, none⟩) := by rw [hAb]; rfl
    rw [Int.toNat_natCast, hsb] at i1
    have hcc : ∀ f, f < 2 → aLdCell (.pointer (some ⟨b, o + i * 2 + f, none⟩)) H' = (eV xs[i])[f]? := fun f hf => by
      rw [← hc, List.getElem?_take, if_pos hf, List.getElem?_drop, aLdCell_ptr, hat, blkCell_cells]
    have l0 : aLdCell (.pointer (some ⟨b, o + i * 2, none⟩)) H' = some (.int .i64 xs[i].1) := hcc 0 (by omega)
    have l1 : aLdCell (.pointer (some ⟨b, o + i * 2 + 1, none⟩)) H' = some (.int .i64 xs[i].2) := hcc 1 (by omega)
    have tk : ∀ {v}, v ∈ xs.take (i + 1) → v ∈ xs.take i ∨ v = xs[i] := by
      intro v hv
      rw [List.take_succ_eq_append_getElem hlt, List.mem_append, List.mem_singleton] at hv
      exact hv
    simp only [decide_eq_true hlt', aCond_true]
    unfold S59_36
    rw [aJoin_eq]
    simp only [nth_zero, i1, bnd_some', aAdd_ptr, Nat.add_zero, l0, aBin_eql]
    refine aCond_of (fun hd => ?_) fun hd => ?_
    · have h7 : xs[i].1 = 7 := of_decide_eq_true hd
      obtain ⟨v0, v1⟩ := hx _ (List.getElem_mem hlt) h7
      have hlt2 : xs[i].2.toNat < s.length := by omega
      have i2 := hn.row.rd.idx (k := .i64) (j := xs[i].2) (c := m.objs.length) v0 (by omega)
      rw [hsl] at i2
      obtain ⟨c, x, hst, hn2⟩ := hn.set hlt2
      simp only [i2, bnd_some', aAdd_ptr, l1, hst, nth_zero, aBin_add, w1]
      refine ha _ _ hlt ⟨rfl, _, hn2, by rw [List.length_set]; exact hsl, fun j hj => ?_, fun v hv h7' => ?_⟩
      · rw [getD_set _ _ _ hlt2] at hj
        split at hj
        · rename_i e; rw [e]; exact .root (List.getElem_mem hlt) h7
        · exact hrs j hj
      · rcases tk hv with hv | rfl
        · exact getD_mono hlt2 (hrt v hv h7')
        · rw [getD_set _ _ _ hlt2, if_pos rfl]
    · have h7 : ¬ xs[i].1 = 7 := of_decide_eq_false hd
      simp only [nth_zero, aBin_add, bnd_some', w1]
      refine ha _ _ hlt ⟨rfl, s, hn, hsl, hrs, fun v hv h7' => ?_⟩
      rcases tk hv with hv | rfl
      · exact hrt v hv h7'
      · exact absurd h7' h7
  · have hie : i = xs.length := by omega
    have hlt' : ¬ (i : Int) < xs.length := by omega
    subst hie
    rw [List.take_length] at hrt
    simp only [decide_eq_false hlt', aCond_false]
    refine l59_238 hS hV (slots_le hI hV) hlen hn ⟨hsl, hrs, hrt⟩ fun H2 s2 hn2 hsl2 hR2 => ?_
    exact l59_237 (fun r H3 h => hRR r H3 s2 hsl2 hR2 h) hS hI hV hn2 hsl2 hlo hB hxl hx hBF

theorem c59 {H : AHeap} {p : Nat} {m : Sm} {F : Nat → Prop} (h : RS H p m F) (hI : Inv m) (hV : Vd m) {lo : Nat} {B : Option Addr} {xs : List V} (hlo : lo ≤ H.next) (hB : Rd 2 eV lo H B xs) (hn : xs.length ≤ 2097152) (hBF : ∀ x, B = some x → ¬ F x.block) :
    ACalls Try.prog 59 [Pt p, .slice B xs.length xs.length] H fun r H' => if xs.all m.sound = true then (∃ s : List Bool, s.length = m.objs.length ∧ (∀ i, s.getD i false = true ↔ Reach m xs i) ∧ rcollPost H p F m xs s r H')
      else r = .tuple #[.slice none 0 0, .int .i64 2] ∧ Keep H.next H H' := by
  refine S59_calls ?_
  unfold S59
  refine aLoop_st xs.length (fun i => [.int .i64 i]) (fun i H' => H' = H ∧ ∀ v ∈ xs.take i, m.sound v = true) rfl ⟨rfl, by simp⟩ ?_
  rintro i H' again hi ⟨rfl, hg⟩ ha
  unfold S59_241
  simp only [aLenSl_slice, bnd_some', nth_zero, aBin_lss]
  by_cases hlt : i < xs.length
  · have hlt' : (i : Int) < xs.length := by omega
    have w1 := wrap64 (x := (i : Int) + 1) (by omega) (by omega)
    have i1 := hB.idx (k := .i64) (j := (i : Int)) (c := xs.length) (by omega) (by omega)
    rw [Int.toNat_natCast] at i1
    have l1 := hB.agg hlt
    simp only [decide_eq_true hlt', aCond_true]
    unfold S59_11
    simp only [nth_zero, i1, l1, bnd_some']
    refine (c31 h xs[i]).use ?_
    simp only [aUn_not, bnd_some']
    cases hs : m.sound xs[i] with
    | false =>
      have : ¬ xs.all m.sound = true := by
        rw [List.all_eq_true]
        intro hh
        rw [hh _ (List.getElem_mem hlt)] at hs
        cases hs
      rw [if_neg this]
      simp only [Bool.not_false, aCond_true]
      exact ⟨trivial, Keep.refl _ _⟩
    | true =>
      simp only [Bool.not_true, aCond_false, aBin_add, bnd_some', w1]
      refine ha _ hlt ⟨rfl, fun v hv => ?_⟩
      rw [List.take_succ_eq_append_getElem hlt, List.mem_append, List.mem_singleton] at hv
      rcases hv with hv | rfl
      · exact hg v hv
      · exact hs
  · have hie : i = xs.length := by omega
    have hlt' : ¬ (i : Int) < xs.length := by omega
    subst hie
    rw [List.take_length] at hg
    simp only [decide_eq_false hlt', aCond_false]
    refine l59_240 h hI hV hlo hB hn (fun v hv => sound_ix (hg v hv)) hBF fun r H2 s g1 g2 g3 => ?_
    rw [if_pos (List.all_eq_true.2 hg)]
    exact ⟨s, g1, g2, g3⟩

theorem seen_unique {m : Sm} {xs : List V} {s s' : List Bool} (h1 : s.length = m.objs.length) (h2 : s'.length = m.objs.length) (h3 : ∀ i, s.getD i false = true ↔ Reach m xs i) (h4 : ∀ i, s'.getD i false = true ↔ Reach m xs i) : s = s' := by
  refine List.ext_getElem (by omega) fun i g1 g2 => ?_
  have e := (h3 i).trans (h4 i).symm
  rw [List.getD_eq_getElem?_getD, List.getD_eq_getElem?_getD, List.getElem?_eq_getElem g1, List.getElem?_eq_getElem g2] at e
  simp only [Option.getD_some] at e
  cases hs : s[i] <;> cases hs' : s'[i] <;> simp [hs, hs'] at e <;> rfl
theorem Kd.collect {m : Sm} (h : Kd m) (s : List Bool) : Kd (m.collect s) := by
  intro o ho
  simp only [Sm.collect] at ho
  obtain ⟨o', h1, rfl⟩ := List.mem_map.1 ho
  exact h o' (keepP_mem h1)
end Go.Proofs.Ytngldjajfpbmbaa.A
