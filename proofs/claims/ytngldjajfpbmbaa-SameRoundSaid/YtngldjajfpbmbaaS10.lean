/- Contracts of functions that the statement reaches; each theorem carries its own conditions, the last theorem of the claim has none. -/
import Derived.Test.YtngldjajfpbmbaaS9
set_option linter.unusedVariables false
set_option linter.unusedSimpArgs false
namespace Go.Proofs.Ytngldjajfpbmbaa.A
open Go Go.Abs

theorem c43 {H : AHeap} {p q : Nat} {m : Sm} {F : Nat → Prop} (h : St H p m F) (hq : H.at_ q = .cells [Pt p] .var 22) (hl : q < H.next) (v : V) : ACalls Try.prog 43 [vV v, Pt q] H fun r H' => r = .bool (!m.sound v) ∧ H' = H := by
  refine ACalls.eq (S43_calls ?_) rfl
  unfold S43
  have hne : q ≠ H.next := by omega
  simp [at_alloc, hne, hq]
  refine (c30 (h.alloc _) v).use ?_
  simp [Keep.alloc]

/-- The store's objects and their rows, as pairs. -/
abbrev Zs (m : Sm) (os : List (Option Addr)) : List (Ob × Option Addr) := m.objs.zip os
def at_used (m : Sm) (u : Int) : Sm := ⟨m.lim, u, m.objs, m.names⟩

/-- The first loop of Collect. -/
structure L1 (m : Sm) (H0 : AHeap) (p : Nat) (F : Nat → Prop) (A : Option Addr) (os : List (Option Addr)) (NA : Option Addr) (mb : Nat) (t7 : Nat) (Q C : Option Addr) (s : List Bool) (i : Nat) (H : AHeap) (L : Option Addr) : Prop where
  n1 : t7 < H.next
  n0 : H0.next < t7
  t2 : H.at_ H0.next = .cells [Pt p] .var 22
  t7 : H.at_ t7 = .cells [.slice Q m.objs.length m.objs.length] .var 77
  hQ : Ow 1 eI 3 H0.next H Q (placeTo m s i)
  hC : Ow 1 eB 4 H0.next H C s
  hX : StX H p (at_used m (total (keepP (m.objs.take i) s) : Nat)) F A os NA mb
  hL : Ow 10 encO 94 H0.next H L (keepP ((Zs m os).take i) s)
  fr : ∀ b, b < H0.next → ¬ F b → H.at_ b = H0.at_ b
theorem L1.kept {m : Sm} {H0 : AHeap} {p : Nat} {F : Nat → Prop} {A : Option Addr} {os : List (Option Addr)} {NA : Option Addr} {mb t7 : Nat} {Q C : Option Addr} {s : List Bool} {i : Nat} {H H' : AHeap} {L : Option Addr}
    (h : L1 m H0 p F A os NA mb t7 Q C s i H L) (hk : Keep H.next H H') : L1 m H0 p F A os NA mb t7 Q C s i H' L where
  n1 := Nat.lt_of_lt_of_le h.n1 hk.next
  n0 := h.n0
  t2 := by rw [hk.at_ _ (Nat.lt_trans h.n0 h.n1)]; exact h.t2
  t7 := by rw [hk.at_ _ h.n1]; exact h.t7
  hQ := h.hQ.kept hk
  hC := h.hC.kept hk
  hX := h.hX.frame hk.next fun b hb => hk.at_ b (h.hX.lt b hb)
  hL := h.hL.kept hk
  fr b hb hf := by rw [hk.at_ b (by have := h.n0; have := h.n1; omega)]; exact h.fr b hb hf

theorem zs_take {m : Sm} {os : List (Option Addr)} (h : os.length = m.objs.length) (i : Nat) : ((Zs m os).take i).map (·.1) = m.objs.take i := by
  rw [List.map_take]
  congr 1
  exact List.map_fst_zip (by omega)
theorem keepZ_len {m : Sm} {os : List (Option Addr)} (h : os.length = m.objs.length) (i : Nat) (s : List Bool) : (keepP ((Zs m os).take i) s).length = (keepP (m.objs.take i) s).length := by
  rw [← zs_take h, keepP_map, List.length_map]

theorem l64 {m : Sm} {H0 : AHeap} {p : Nat} {F : Nat → Prop} {A : Option Addr} {os : List (Option Addr)} {NA : Option Addr} {mb t7 : Nat} {Q C : Option Addr} {s : List Bool} {i : Nat} {H : AHeap} {L : Option Addr}
    (hI : Inv m) (hF0 : ∀ b, F b → b < H0.next) (h : L1 m H0 p F A os NA mb t7 Q C s i H L) (hi : i < m.objs.length) {o : Ob} {a : Option Addr} (ho : m.objs[i]? = some o) (ha : os[i]? = some a) {t10 : Nat} (hs : s.getD i false = true)
    (ht10 : H.at_ t10 = .cells (encO (o, a)) .var 94) (hl10 : t10 < H.next) (hso : o.slots.length ≤ 1048576) {J : List Value → AHeap → Prop}
    (hJ : ∀ H' L', L1 m H0 p F A os NA mb t7 Q C s (i + 1) H' L' → J [.slice L' (keepP ((Zs m os).take (i + 1)) s).length (keepP ((Zs m os).take (i + 1)) s).length] H') :
    S16_64 (Pt H0.next) (Pt t7) [.slice L (keepP ((Zs m os).take i) s).length (keepP ((Zs m os).take i) s).length, .int .i64 i] J (Pt t10) H := by
  have hlen := hI.len
  have hz : (Zs m os)[i]? = some (o, a) := zip_at ho ha
  have hkz := keepZ_len (m := m) h.hX.len i s
  have hkl : (keepP (m.objs.take i) s).length ≤ m.objs.length := Nat.le_trans (keepP_len_le _ _) (by simp; omega)
  have hlim := hI.lim
  have hsum := hI.sum
  have hle := hI.le
  have htk : total (keepP (m.objs.take (i + 1)) s) ≤ total m.objs := Nat.le_trans (keepP_total _ _) (by
    conv => rhs; rw [← List.take_append_drop (i + 1) m.objs]
    rw [total_append]; omega)
  have hts : total (keepP (m.objs.take (i + 1)) s) = total (keepP (m.objs.take i) s) + o.cells := by
    rw [keepP_take _ _ _ _ ho, hs, total_append]; simp [total]
  have hpne : ∀ (b : Nat) (cs : List Value) (n : Nat) (t : TypeId), H.at_ b = .cells cs (.row n) t → b ≠ p ∧ b ≠ H0.next ∧ b ≠ t7 ∧ b ≠ t10 := by
    intro b cs n t hb
    refine ⟨?_, ?_, ?_, ?_⟩
    · rintro rfl; rw [h.hX.hp] at hb; cases hb
    · rintro rfl; rw [h.t2] at hb; cases hb
    · rintro rfl; rw [h.t7] at hb; cases hb
    · rintro rfl; rw [ht10] at hb; cases hb
  unfold S16_64
  have l1 : aLdCell (Pt t7) H = some (.slice Q m.objs.length m.objs.length) := by simp [h.t7]
  have i1 := h.hQ.rd.idx (k := .i64) (j := (i : Int)) (c := m.objs.length) (by omega) (by rw [placeTo_len]; omega)
  rw [placeTo_len, Int.toNat_natCast] at i1
  obtain ⟨b, hb, hb1, hb2, x, hst, hQ2, cs, hcs⟩ := h.hQ.st (j := i) (k := 0) (l := 1) (off := i) (v := .int .i64 ((keepP (m.objs.take i) s).length : Int)) (y := ((keepP (m.objs.take i) s).length : Int)) (by rw [placeTo_len]; exact hi) (by omega) (by simp) (by simp) (by omega) (by simp)
  have hst' : aSt 1 (slot 1 Q i) (.int .i64 ((keepP (m.objs.take i) s).length : Int)) H = some (H.upd b x) := by rw [hb]; simpa [slot] using hst
  have e := placeTo_succ m s i hi
  rw [if_pos hs] at e
  rw [← e] at hQ2
  simp only [nth_zero, nth_1, l1, bnd_some', aLenSl_slice, hkz, i1, hst']
  obtain ⟨G, hG⟩ : ∃ X, X = H.upd b x := ⟨_, rfl⟩
  rw [← hG] at hQ2 ⊢
  have hnG : G.next = H.next := by rw [hG]; rfl
  have hatG : ∀ c, c ≠ b → G.at_ c = H.at_ c := fun c hc => by rw [hG]; exact AHeap.at_upd_ne _ _ hc
  have hbp := hpne b cs _ _ hcs
  clear hG hst hst'
  have g10 : G.at_ t10 = .cells (encO (o, a)) .var 94 := by rw [hatG _ (Ne.symm hbp.2.2.2)]; exact ht10
  have g2 : G.at_ H0.next = .cells [Pt p] .var 22 := by rw [hatG _ (Ne.symm hbp.2.1)]; exact h.t2
  have g7 : G.at_ t7 = .cells [.slice Q m.objs.length m.objs.length] .var 77 := by rw [hatG _ (Ne.symm hbp.2.2.1)]; exact h.t7
  have gX : StX G p (at_used m (total (keepP (m.objs.take i) s) : Nat)) F A os NA mb := h.hX.frame (by omega) fun c hc => hatG c (by have := hF0 c hc; omega)
  have gL : Ow 10 encO 94 H0.next G L (keepP ((Zs m os).take i) s) := h.hL.at (by omega) fun y hy => hatG _ (by
    obtain ⟨_, _, _, ds, hds⟩ := h.hL.blkOf hy
    intro e; rw [e, hcs] at hds; cases hds)
  have gC : Ow 1 eB 4 H0.next G C s := h.hC.at (by omega) fun y hy => hatG _ (by
    obtain ⟨_, _, _, ds, hds⟩ := h.hC.blkOf hy
    intro e; rw [e, hcs] at hds; cases hds)
  have gfr : ∀ c, c < H0.next → ¬ F c → G.at_ c = H0.at_ c := fun c hc hf => by rw [hatG _ (by omega)]; exact h.fr c hc hf
  have l10 : aLdAgg 10 (Pt t10) G = some (.agg (encO (o, a)).toArray) := by simp [g10, encO]
  simp only [l10, bnd_some']
  simp [encO]
  have w2 := wrap64 (x := ((total (keepP (m.objs.take i) s) : Nat) : Int) + o.cells) (by omega) (by omega)
  have hR : Rd 10 encO (G.next + 1) (G.alloc (.cells (encO (o, a)) (.row 10) 94)) (some ⟨G.next, 0, none⟩) [(o, a)] := Rd.mk' (by simp [encO]) (by omega) (AHeap.at_alloc_new _ _) (by simp) (by simp) (by simp [encO])
  have hLa := gL.alloc (.cells (encO (o, a)) (.row 10) 94)
  have := hLa.append (bytes := 168) (c := (keepP (m.objs.take i) s).length) (c' := 1) (K := fun t56_50 H_51 =>
    bnd (aLdCell (Pt H0.next) H_51) fun t57_52 =>
      bnd (aNilCheck t57_52) fun t58_53 =>
        bnd (aAdd 1 t58_53) fun t59_54 =>
          bnd (aLdCell t59_54 H_51) fun t60_55 =>
            ACalls Try.prog 45 [Pt t10] H_51 fun t61_56 H_57 =>
              ((bnd (aLdCell (Pt H0.next) H_57) fun t57_62 => t57_62 = t57_52) ∧ bnd (aLdCell t59_54 H_57) fun t60_63 => t60_63 = t60_55) ∧
                bnd (aBin BinOp.add EK.no t60_55 t61_56) fun t62_58 =>
                  bnd (aNilCheck t57_52) fun t63_59 =>
                    bnd (aAdd 1 t63_59) fun t64_60 => bnd (aSt 1 t64_60 t62_58 H_57) fun H_61 => J [t56_50] H_61) hR (by simp; have := h.n0; have := h.n1; omega) (by simp only [maxLen, List.length_singleton]; omega) (by simp only [List.length_singleton]; omega) ?_
  · rw [hkz, List.length_singleton] at this
    exact this
  · intro H5 hO5 hn5 hat5 _
    have hat6 : ∀ c, c < G.next → (∀ y, L = some y → y.block ≠ c) → H5.at_ c = G.at_ c := by
      intro c hc hL
      rw [hat5 c (by simp; omega) (fun o s hh => hL _ hh rfl), AHeap.at_alloc_ne _ _ (by omega)]
    have hLk : ∀ y, L = some y → H0.next ≤ y.block ∧ ∃ ds, G.at_ y.block = .cells ds (.row 10) 94 := fun y hy => by
      obtain ⟨_, h1, _, ds, hds⟩ := gL.blkOf hy
      exact ⟨h1, ds, hds⟩
    have notL : ∀ (c : Nat) (ds : List Value) (u : Use) (t : TypeId), G.at_ c = .cells ds u t → t ≠ 94 ∨ u = .var → ∀ y, L = some y → y.block ≠ c := by
      rintro c ds u t hc hu y hy rfl
      obtain ⟨_, es, hes⟩ := hLk y hy
      rw [hc] at hes
      cases hes
      rcases hu with h1 | h1
      · exact h1 rfl
      · cases h1
    have hpl := gX.lt p gX.fp
    have k10 : H5.at_ t10 = .cells (encO (o, a)) .var 94 := by rw [hat6 _ (by omega) (notL _ _ _ _ g10 (.inr rfl))]; exact g10
    have k2 : H5.at_ H0.next = .cells [Pt p] .var 22 := by rw [hat6 _ (by have := h.n0; have := h.n1; omega) (notL _ _ _ _ g2 (.inr rfl))]; exact g2
    have k7 : H5.at_ t7 = .cells [.slice Q m.objs.length m.objs.length] .var 77 := by rw [hat6 _ (by have := h.n1; omega) (notL _ _ _ _ g7 (.inr rfl))]; exact g7
    have kF : ∀ c, F c → H5.at_ c = G.at_ c := fun c hc => hat6 c (by have := hF0 c hc; have := h.n0; have := h.n1; omega) fun y hy => by have := (hLk y hy).1; have := hF0 c hc; omega
    have kX := gX.frame (H' := H5) (by simp at hn5; omega) kF
    have kC : Ow 1 eB 4 H0.next H5 C s := gC.at (by simp at hn5; omega) fun y hy => by
      obtain ⟨_, _, hy2, ds, hds⟩ := gC.blkOf hy
      exact hat6 _ hy2 (notL _ _ _ _ hds (.inl (by decide)))
    have kQ : Ow 1 eI 3 H0.next H5 Q (placeTo m s (i + 1)) := hQ2.at (by simp at hn5; omega) fun y hy => by
      obtain ⟨_, _, hy2, ds, hds⟩ := hQ2.blkOf hy
      exact hat6 _ hy2 (notL _ _ _ _ hds (.inl (by decide)))
    have kp := kX.hp
    simp [k2, kp]
    refine (c45 (q := t10) (o := 0) (x := (o, a)) (k := .var) (t := 94) (cs := encO (o, a)) k10 (fun j _ => by rw [Nat.zero_add]) hso).use ?_
    simp [k2, kp, at_used, w2]
    have e10 : keepP ((Zs m os).take (i + 1)) s = keepP ((Zs m os).take i) s ++ [(o, a)] := by rw [keepP_take _ _ _ _ hz, hs]; simp
    have := hJ (H5.upd p (.cells [.int .i64 m.lim, .int .i64 ((total (keepP (m.objs.take (i + 1)) s) : Nat) : Int), .slice A m.objs.length m.objs.length, .slice NA m.names.length m.names.length, .map (some mb)] .var 88)) (some ⟨G.next + 1, 0, none⟩) ?_
    · rw [e10, List.length_append, hkz, List.length_singleton] at this
      rw [hts] at this
      simpa [hkz] using this
    · have gp : G.at_ p = _ := gX.hp
      have un : ∀ c, c ≠ p → (H5.upd p (.cells [.int .i64 m.lim, .int .i64 ((total (keepP (m.objs.take (i + 1)) s) : Nat) : Int), .slice A m.objs.length m.objs.length, .slice NA m.names.length m.names.length, .map (some mb)] .var 88)).at_ c = H5.at_ c := fun c hc => AHeap.at_upd_ne _ _ hc
      have rowne : ∀ (c : Nat) (ds : List Value) (n : Nat) (t : TypeId), H5.at_ c = .cells ds (.row n) t → c ≠ p := by
        rintro c ds n t hc rfl
        rw [kp] at hc
        cases hc
      have hp0 : p < H0.next := hF0 p gX.fp
      refine ⟨by simp at hn5 ⊢; have := h.n1; omega, h.n0, ?_, ?_, ?_, ?_, ?_, ?_, ?_⟩
      · rw [un _ (by omega)]; exact k2
      · rw [un _ (by have := h.n0; omega)]; exact k7
      · exact kQ.at (Nat.le_refl _) fun y hy => un _ (by obtain ⟨_, _, _, ds, hds⟩ := kQ.blkOf hy; exact rowne _ _ _ _ hds)
      · exact kC.at (Nat.le_refl _) fun y hy => un _ (by obtain ⟨_, _, _, ds, hds⟩ := kC.blkOf hy; exact rowne _ _ _ _ hds)
      · refine ⟨kX.len, ?_, ?_, ?_, kX.dist, ?_, ?_, kX.fp, kX.fA, kX.fo, kX.fN, kX.fm, fun c hc => kX.lt c hc⟩
        · simp [at_used]
        · exact kX.objs.at (Nat.le_refl _) fun y hy => un _ (by obtain ⟨_, _, _, ds, hds⟩ := kX.objs.blkOf hy; exact rowne _ _ _ _ hds)
        · intro j o' a' h1 h2
          exact (kX.slots j o' a' h1 h2).at (Nat.le_refl _) fun y hy => un _ (by obtain ⟨_, _, _, ds, hds⟩ := (kX.slots j o' a' h1 h2).blkOf hy; exact rowne _ _ _ _ hds)
        · exact kX.names.at (Nat.le_refl _) fun y hy => un _ (by obtain ⟨_, _, _, ds, hds⟩ := kX.names.blkOf hy; exact rowne _ _ _ _ hds)
        · rw [un]
          · exact kX.map
          · rintro rfl
            have := kX.map
            rw [kp] at this
            cases this
      · rw [e10]
        have : Ow 10 encO 94 H0.next H5 (some ⟨G.next + 1, 0, none⟩) (keepP ((Zs m os).take i) s ++ [(o, a)]) := by simpa using hO5
        exact this.at (Nat.le_refl _) fun y hy => un _ (by obtain ⟨_, _, _, ds, hds⟩ := this.blkOf hy; exact rowne _ _ _ _ hds)
      · intro c hc hf
        rw [un c (by rintro rfl; exact hf gX.fp), hat6 c (by have := h.n0; have := h.n1; omega) fun y hy => by have := (hLk y hy).1; omega]
        exact gfr c hc hf
end Go.Proofs.Ytngldjajfpbmbaa.A
