/- Contracts of functions that the statement reaches; each theorem carries its own conditions, the last theorem of the claim has none. -/
import Derived.Test.YtngldjajfpbmbaaS10
set_option linter.unusedVariables false
set_option linter.unusedSimpArgs false
namespace Go.Proofs.Ytngldjajfpbmbaa.A
open Go Go.Abs

theorem _root_.Go.Abs.Rd.at {α : Type} {n : Nat} {enc : α → List Value} {lo lo' : Nat} {H H' : AHeap} {A : Option Addr} {xs : List α} (h : Rd n enc lo H A xs) (hl : lo ≤ lo') (hk : ∀ a, A = some a → H'.at_ a.block = H.at_ a.block) : Rd n enc lo' H' A xs := by
  refine ⟨h.1, h.2.imp id ?_⟩
  rintro ⟨b, o, cs, k, t, h1, h2, h3, h4, h5⟩
  exact ⟨b, o, cs, k, t, h1, by omega, ⟨(hk _ h1).trans h3.1, h3.2⟩, h4, h5⟩
theorem _root_.Go.Abs.Ow.congr {α : Type} {n : Nat} {enc : α → List Value} {e : TypeId} {lo : Nat} {H : AHeap} {A : Option Addr} {xs ys : List α} (h : Ow n enc e lo H A xs) (f : α → α) (hy : ys = xs.map f) (hf : ∀ x, enc (f x) = enc x) : Ow n enc e lo H A ys := by
  subst hy
  have e1 : (xs.map f).flatMap enc = xs.flatMap enc := by
    rw [List.flatMap_map]
    congr 1
    funext x
    exact hf x
  refine ⟨?_, ?_⟩
  · intro x hx
    obtain ⟨y, hy, rfl⟩ := List.mem_map.1 hx
    rw [hf]
    exact h.1 y hy
  · rcases h.2 with ⟨h1, rfl⟩ | ⟨b, cs, h1, h2, h3, h4, h5, h6⟩
    · exact .inl ⟨h1, rfl⟩
    · exact .inr ⟨b, cs, h1, h2, h3, h4, by rw [List.length_map]; exact h5, by rw [List.length_map, e1]; exact h6⟩

/-- The second loop. -/
structure L2 (m : Sm) (H0 : AHeap) (p : Nat) (F : Nat → Prop) (u : Int) (A NA : Option Addr) (mb t7 : Nat) (Q : Option Addr) (pl : List Int) (P : List (Ob × Option Addr)) (k : Nat) (H : AHeap) (L : Option Addr) : Prop where
  n1 : t7 < H.next
  n0 : H0.next < t7
  t2 : H.at_ H0.next = .cells [Pt p] .var 22
  t7 : H.at_ t7 = .cells [.slice Q pl.length pl.length] .var 77
  hQ : Ow 1 eI 3 H0.next H Q pl
  hp : H.at_ p = .cells [.int .i64 m.lim, .int .i64 u, .slice A m.objs.length m.objs.length, .slice NA m.names.length m.names.length, .map (some mb)] .var 88
  hL : Ow 10 encO 94 H0.next H L P
  hS : ∀ (j : Nat) (o : Ob) (a : Option Addr), P[j]? = some (o, a) → Ow 2 eV 28 0 H a (if j < k then o.slots.map (mv pl) else o.slots)
  hN : Ow 1 eS 9 0 H NA m.names
  hM : H.at_ mb = .map (entries m.names)
  fr : ∀ b, b < H0.next → ¬ F b → H.at_ b = H0.at_ b
/-- Where things are told once. -/
structure LF (m : Sm) (H0 : AHeap) (p : Nat) (F : Nat → Prop) (NA : Option Addr) (mb : Nat) (P : List (Ob × Option Addr)) : Prop where
  lt : ∀ b, F b → b < H0.next
  fp : F p
  fN : ∀ a, NA = some a → F a.block
  fm : F mb
  fo : ∀ (i : Nat) (o : Ob) (a : Addr), P[i]? = some (o, some a) → F a.block
  dist : ∀ (i j : Nat) (o o' : Ob) (a b : Addr), P[i]? = some (o, some a) → P[j]? = some (o', some b) → a.block = b.block → i = j

theorem L2.kept {m : Sm} {H0 : AHeap} {p : Nat} {F : Nat → Prop} {u : Int} {A NA : Option Addr} {mb t7 : Nat} {Q : Option Addr} {pl : List Int} {P : List (Ob × Option Addr)} {k : Nat} {H H' : AHeap} {L : Option Addr} (hF : LF m H0 p F NA mb P)
    (h : L2 m H0 p F u A NA mb t7 Q pl P k H L) (hk : Keep H.next H H') : L2 m H0 p F u A NA mb t7 Q pl P k H' L where
  n1 := Nat.lt_of_lt_of_le h.n1 hk.next
  n0 := h.n0
  t2 := by rw [hk.at_ _ (Nat.lt_trans h.n0 h.n1)]; exact h.t2
  t7 := by rw [hk.at_ _ h.n1]; exact h.t7
  hQ := h.hQ.kept hk
  hp := by rw [hk.at_ _ (by have := hF.lt _ hF.fp; have := h.n0; have := h.n1; omega)]; exact h.hp
  hL := h.hL.kept hk
  hS j o a hj := (h.hS j o a hj).kept hk
  hN := h.hN.kept hk
  hM := by rw [hk.at_ _ (by have := hF.lt _ hF.fm; have := h.n0; have := h.n1; omega)]; exact h.hM
  fr b hb hf := by rw [hk.at_ b (by have := h.n0; have := h.n1; omega)]; exact h.fr b hb hf

theorem L2.move {m : Sm} {H0 : AHeap} {p : Nat} {F : Nat → Prop} {u : Int} {A NA : Option Addr} {mb t7 : Nat} {Q : Option Addr} {pl : List Int} {P : List (Ob × Option Addr)} {k : Nat} {H H' : AHeap} {L : Option Addr} (hF : LF m H0 p F NA mb P)
    (h : L2 m H0 p F u A NA mb t7 Q pl P k H L) {o : Ob} {a : Option Addr} (hk : P[k]? = some (o, a)) (hO : Ow 2 eV 28 0 H' a (o.slots.map (mv pl))) (hn : H.next ≤ H'.next) (hat : ∀ b, b < H.next → (∀ x, a = some x → x.block ≠ b) → H'.at_ b = H.at_ b) :
    L2 m H0 p F u A NA mb t7 Q pl P (k + 1) H' L := by
  have hOk := h.hS k o a hk
  have ne : ∀ (c : Nat) (cs : List Value) (ui : Use) (t : TypeId), H.at_ c = .cells cs ui t → t ≠ 28 → ∀ x, a = some x → x.block ≠ c := by
    rintro c cs ui t hc ht x hx rfl
    obtain ⟨_, _, _, ds, hds⟩ := hOk.blkOf hx
    rw [hc] at hds
    cases hds
    exact ht rfl
  have hpl := hF.lt _ hF.fp
  have hn0 := h.n0
  have hn1 := h.n1
  refine ⟨by omega, h.n0, ?_, ?_, ?_, ?_, ?_, ?_, ?_, ?_, ?_⟩
  · rw [hat _ (by omega) (ne _ _ _ _ h.t2 (by decide))]; exact h.t2
  · rw [hat _ (by omega) (ne _ _ _ _ h.t7 (by decide))]; exact h.t7
  · exact h.hQ.at hn fun y hy => by
      obtain ⟨_, _, hy2, ds, hds⟩ := h.hQ.blkOf hy
      exact hat _ hy2 (ne _ _ _ _ hds (by decide))
  · rw [hat _ (by omega) (ne _ _ _ _ h.hp (by decide))]; exact h.hp
  · exact h.hL.at hn fun y hy => by
      obtain ⟨_, _, hy2, ds, hds⟩ := h.hL.blkOf hy
      exact hat _ hy2 (ne _ _ _ _ hds (by decide))
  · intro j o' a' hj
    by_cases e : j = k
    · subst e
      rw [hk] at hj
      cases hj
      rw [if_pos (by omega)]
      exact hO
    · have := h.hS j o' a' hj
      have e2 : j < k + 1 ↔ j < k := by omega
      simp only [e2]
      refine this.at hn fun y hy => ?_
      obtain ⟨_, _, hy2, ds, hds⟩ := this.blkOf hy
      refine hat _ hy2 ?_
      rintro x rfl hxy
      subst hy
      exact e (hF.dist k j o o' x y hk hj hxy).symm
  · exact h.hN.at hn fun y hy => by
      obtain ⟨_, _, hy2, ds, hds⟩ := h.hN.blkOf hy
      exact hat _ hy2 (ne _ _ _ _ hds (by decide))
  · rw [hat _ (by have := hF.lt _ hF.fm; omega)]
    · exact h.hM
    · rintro x hx e
      obtain ⟨_, _, _, ds, hds⟩ := hOk.blkOf hx
      rw [e, h.hM] at hds
      cases hds
  · intro b hb hf
    rw [hat b (by omega)]
    · exact h.fr b hb hf
    · rintro x rfl e
      exact hf (e ▸ hF.fo k o x hk)

/-- What Collect leaves. -/
def collPost (H0 : AHeap) (p : Nat) (F : Nat → Prop) (m : Sm) (xs : List V) (s : List Bool) (r : Value) (H' : AHeap) : Prop :=
  ∃ C F', r = .tuple #[.slice C xs.length xs.length, .int .i64 0] ∧ Ow 2 eV 28 H0.next H' C (xs.map (mv (place m s))) ∧ St H' p (m.collect s) F' ∧ Fr F H0 F' H' ∧ ∀ x, C = some x → ¬ F' x.block
theorem l91 {m : Sm} {H0 : AHeap} {p : Nat} {F : Nat → Prop} {A NA : Option Addr} {mb t7 : Nat} {Q : Option Addr} {s : List Bool} {os : List (Option Addr)} {k : Nat} {H : AHeap} {L : Option Addr} {lo : Nat} {B : Option Addr} {xs : List V} {again : List Value → AHeap → Prop} {R : Value → AHeap → Prop} (hRR : ∀ r H', collPost H0 p F m xs s r H' → R r H')
    (hlen : m.objs.length ≤ 1048576) (hos : os.length = m.objs.length) (hV : Vd m) (hs1 : ∀ o ∈ m.objs, o.slots.length ≤ 1048576) (hF : LF m H0 p F NA mb (keepP (Zs m os) s)) (h : L2 m H0 p F (total (keepP m.objs s) : Nat) A NA mb t7 Q (place m s) (keepP (Zs m os) s) k H L) (hk : k ≤ (keepP (Zs m os) s).length)
    (hlo : lo ≤ H0.next) (hB : Rd 2 eV lo H0 B xs) (hn : xs.length ≤ 1048576) (he : xs = [] → B = none) (hx : ∀ v ∈ xs, okIx m v) (hBF : ∀ x, B = some x → ¬ F x.block)
    (ha : ∀ H', k < (keepP (Zs m os) s).length → L2 m H0 p F (total (keepP m.objs s) : Nat) A NA mb t7 Q (place m s) (keepP (Zs m os) s) (k + 1) H' L → again [.int .i64 ((k + 1 : Nat) : Int)] H') :
    S16_91 (.slice B xs.length xs.length) R (Pt H0.next) (Pt t7) [.slice L (keepP (Zs m os) s).length (keepP (Zs m os) s).length, .int .i64 m.objs.length] (.int .i64 (keepP (Zs m os) s).length) [.int .i64 k] H again := by
  have hplen : (place m s).length = m.objs.length := placeTo_len _ _ _
  have hzl : (Zs m os).length = m.objs.length := by simp [Zs, hos]
  have hkl : (keepP (Zs m os) s).length ≤ m.objs.length := hzl ▸ keepP_len_le (Zs m os) s
  have hmem : ∀ (j : Nat) (o : Ob) (a : Option Addr), (keepP (Zs m os) s)[j]? = some (o, a) → o ∈ m.objs := by
    intro j o a hj
    obtain ⟨i, hi, _⟩ := keepP_idx _ _ _ _ hj
    exact (List.of_mem_zip (List.mem_of_getElem? hi)).1
  have hn0 := h.n0
  have hn1 := h.n1
  unfold S16_91
  by_cases hlt : k < (keepP (Zs m os) s).length
  · simp [hlt]
    unfold S16_81
    have w1 := wrap64 (x := (k : Int) + 1) (by omega) (by omega)
    obtain ⟨o, a, hoa⟩ : ∃ o a, (keepP (Zs m os) s)[k] = (o, a) := ⟨_, _, rfl⟩
    have hk? : (keepP (Zs m os) s)[k]? = some (o, a) := by rw [List.getElem?_eq_getElem hlt, hoa]
    have ho := hmem k o a hk?
    have i1 := h.hL.rd.idx (k := .i64) (j := (k : Int)) (c := (keepP (Zs m os) s).length) (by omega) (by omega)
    rw [Int.toNat_natCast] at i1
    have l1 := h.hL.rd.agg hlt
    rw [hoa] at l1
    simp only [nth_zero, i1, l1, bnd_some', aAlloc_eq]
    simp [encO, at_alloc, -aLdAgg_ptr]
    refine ⟨good46, ?_⟩
    obtain ⟨G, hG⟩ : ∃ X, X = ((H.alloc (.cells [.int .i64 0, .slice none 0 0, .int .i64 0, .string ⟨#[]⟩, .bool false, .slice none 0 0, .slice none 0 0, .int .i64 0, .slice none 0 0, .slice none 0 0] .var 94)).upd H.next (.cells [.int .i64 o.kind, .slice a o.slots.length o.slots.length, .int .i64 o.sk, .string o.text, .bool false, .slice none 0 0, .slice none 0 0, .int .i64 0, .slice none 0 0, .slice none 0 0] .var 94)) := ⟨_, rfl⟩
    simp only [← hG]
    have hkG : Keep H.next H G := hG ▸ ((Keep.refl _ _).alloc (Nat.le_refl _) _).upd (Nat.le_refl _) _
    clear hG
    have hG2 := h.kept hF hkG
    have hOk := hG2.hS k o a hk?
    rw [if_neg (by omega)] at hOk
    refine (c46 hG2.t7 hG2.n1 (hG2.hQ.lower (Nat.zero_le _)) hOk (hs1 o ho) fun v hv h7 => ?_).mono fun r H' ⟨hr, hO, hn', hat⟩ => ?_
    · rw [hplen]; exact hV.ok o ho v hv h7
    · subst hr
      simp [w1]
      exact ha H' hlt (hG2.move hF hk? hO hn' hat)
  · have hke : k = (keepP (Zs m os) s).length := by omega
    subst hke
    simp
    unfold S16_90
    have hpl := hF.lt _ hF.fp
    simp [h.t2, h.hp]
    obtain ⟨G, hG⟩ : ∃ X, X = H.upd p (.cells [.int .i64 m.lim, .int .i64 (total (keepP m.objs s) : Nat), .slice L (keepP (Zs m os) s).length (keepP (Zs m os) s).length, .slice NA m.names.length m.names.length, .map (some mb)] .var 88) := ⟨_, rfl⟩
    simp only [← hG]
    have hatG : ∀ c, c ≠ p → G.at_ c = H.at_ c := fun c hc => by rw [hG]; exact AHeap.at_upd_ne _ _ hc
    have hnG : G.next = H.next := by rw [hG]; rfl
    have gp : G.at_ p = .cells [.int .i64 m.lim, .int .i64 (total (keepP m.objs s) : Nat), .slice L (keepP (Zs m os) s).length (keepP (Zs m os) s).length, .slice NA m.names.length m.names.length, .map (some mb)] .var 88 := by rw [hG]; simp
    clear hG
    have rowne : ∀ (c : Nat) (ds : List Value) (n : Nat) (t : TypeId), H.at_ c = .cells ds (.row n) t → c ≠ p := by
      rintro c ds n t hc rfl
      rw [h.hp] at hc
      cases hc
    have hBG : Rd 2 eV H0.next G B xs := hB.at hlo fun x hx => by
      have hxl : x.block < lo := by
        rcases hB.2 with ⟨h1, _⟩ | ⟨b, o, cs, k, t, h1, h2, _⟩
        · rw [h1] at hx; cases hx
        · rw [h1] at hx; cases hx; exact h2
      rw [hatG _ (by rintro e; exact hBF x hx (e ▸ hF.fp))]
      exact h.fr _ (by omega) (hBF x hx)
    refine (c42 (by omega) hBG hn he).mono fun r H2 ⟨C, hr, hC, hk2⟩ => ?_
    subst hr
    have g7 : H2.at_ t7 = .cells [.slice Q (place m s).length (place m s).length] .var 77 := by
      rw [hk2.at_ _ (by omega), hatG _ (by omega)]; exact h.t7
    have gQ : Ow 1 eI 3 0 H2 Q (place m s) := (h.hQ.lower (Nat.zero_le _)).at (by have := hk2.next; omega) fun y hy => by
      obtain ⟨_, _, hy2, ds, hds⟩ := h.hQ.blkOf hy
      rw [hk2.at_ _ (by omega), hatG _ (rowne _ _ _ _ hds)]
    simp
    refine ⟨good46, (c46 g7 (by have := hk2.next; omega) gQ (hC.lower (Nat.zero_le _)) hn fun v hv h7 => ?_).mono fun r H3 ⟨hr, hO, hn3, hat3⟩ => ?_⟩
    · rw [hplen]; exact hx v hv h7
    subst hr
    have hCb : ∀ x, C = some x → G.next ≤ x.block := fun x hx => (hC.blkOf hx).2.1
    have hat : ∀ c, c < G.next → H3.at_ c = G.at_ c := fun c hc => by
      rw [hat3 c (by have := hk2.next; omega) fun x hx => by have := hCb x hx; omega]
      exact hk2.at_ c hc
    have hn2 := hk2.next
    have up : ∀ {α : Type} {n : Nat} {enc : α → List Value} {e : TypeId} {lo : Nat} {A : Option Addr} {ys : List α}, Ow n enc e lo H A ys → Ow n enc e lo H3 A ys := fun {α n enc e lo A ys} ho => ho.at (by omega) fun y hy => by
      obtain ⟨_, _, hy2, ds, hds⟩ := ho.blkOf hy
      rw [hat _ (by omega), hatG _ (rowne _ _ _ _ hds)]
    have hO0 : Ow 2 eV 28 H0.next H3 C (xs.map (mv (place m s))) := ⟨hO.1, hO.2.imp id fun ⟨b, cs, h1, _, h3⟩ => ⟨b, cs, h1, by have := hCb _ h1; dsimp only at this; omega, h3⟩⟩
    have eP : (keepP (Zs m os) s).map (·.1) = keepP m.objs s := by
      rw [← keepP_map]
      congr 1
      exact List.map_fst_zip (by omega)
    have hPl : (keepP (Zs m os) s).length = (keepP m.objs s).length := by rw [← eP, List.length_map]
    have hLF : ∀ x, L = some x → H0.next ≤ x.block ∧ x.block < H.next := fun x hx => ⟨(h.hL.blkOf hx).2.1, (h.hL.blkOf hx).2.2.1⟩
    refine hRR _ _ ⟨C, fun b => F b ∨ ∃ x, L = some x ∧ x.block = b, rfl, hO0, ⟨L, (keepP (Zs m os) s).map (·.2), NA, mb, ?_⟩, ⟨by omega, ?_, ?_⟩, ?_⟩
    · have eo : ∀ (i : Nat) (o : Ob) (a : Option Addr), ((keepP m.objs s).map (mvOb (place m s)))[i]? = some o → ((keepP (Zs m os) s).map (·.2))[i]? = some a → ∃ o', (keepP (Zs m os) s)[i]? = some (o', a) ∧ o = mvOb (place m s) o' := by
        intro i o a h1 h2
        rw [← eP] at h1
        simp only [List.getElem?_map, Option.map_eq_some_iff] at h1 h2
        obtain ⟨z, hz, rfl⟩ := h2
        obtain ⟨o1, ⟨z1, hz1, rfl⟩, rfl⟩ := h1
        rw [hz] at hz1
        cases hz1
        exact ⟨z.1, hz, rfl⟩
      have ea : ∀ (i : Nat) (a : Addr), ((keepP (Zs m os) s).map (·.2))[i]? = some (some a) → ∃ o, (keepP (Zs m os) s)[i]? = some (o, some a) := by
        intro i a h2
        simp only [List.getElem?_map, Option.map_eq_some_iff] at h2
        obtain ⟨z, hz, hz2⟩ := h2
        exact ⟨z.1, by rw [hz, ← hz2]⟩
      refine ⟨by simp [Sm.collect, hPl], ?_, ?_, ?_, ?_, up h.hN, ?_, .inl hF.fp, fun a ha => .inr ⟨a, ha, rfl⟩, ?_, fun a ha => .inl (hF.fN a ha), .inl hF.fm, ?_⟩
      · rw [hat _ (by omega), gp]
        simp [Sm.collect, hPl]
      · refine (up (h.hL.lower (Nat.zero_le _))).congr (fun z => (mvOb (place m s) z.1, z.2)) ?_ fun z => encO_mv _ _ _
        simp only [Sm.collect]
        rw [← eP, List.map_map, List.zip_map', ]
        rfl
      · intro i o a h1 h2
        obtain ⟨o', h3, rfl⟩ := eo i o a h1 h2
        have hlt : i < (keepP (Zs m os) s).length := (List.getElem?_eq_some_iff.1 h3).1
        have := h.hS i o' a h3
        rw [if_pos hlt] at this
        exact up this
      · intro i j a b h1 h2 h3
        obtain ⟨o, h4⟩ := ea i a h1
        obtain ⟨o', h5⟩ := ea j b h2
        exact hF.dist i j o o' a b h4 h5 h3
      · have hmb := hF.lt _ hF.fm
        rw [hat _ (by omega), hatG _ ?_]
        · exact h.hM
        · rintro rfl
          have := h.hM
          rw [h.hp] at this
          cases this
      · intro i a h1
        obtain ⟨o, h4⟩ := ea i a h1
        exact .inl (hF.fo i o a h4)
      · rintro b (hb | ⟨x, hx, rfl⟩)
        · have := hF.lt b hb; omega
        · have := hLF x hx; omega
    · intro b hb hf
      rw [hat b (by omega), hatG b (by rintro rfl; exact hf hF.fp)]
      exact h.fr b hb hf
    · rintro b (hb | ⟨x, hx, rfl⟩)
      · exact .inl hb
      · exact .inr (hLF x hx).1
    · rintro x hx (hb | ⟨y, hy, e⟩)
      · have := hF.lt _ hb; have := hCb x hx; omega
      · have := hLF y hy; have := hCb x hx; omega
end Go.Proofs.Ytngldjajfpbmbaa.A
