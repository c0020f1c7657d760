/- Contracts of functions that the statement reaches; each theorem carries its own conditions, the last theorem of the claim has none. -/
import Derived.Test.YtngldjajfpbmbaaS11
set_option linter.unusedVariables false
set_option linter.unusedSimpArgs false
namespace Go.Proofs.Ytngldjajfpbmbaa.A
open Go Go.Abs

theorem mem_le_sum {n : Nat} : ∀ {l : List Nat}, n ∈ l → n ≤ l.sum
  | [], h => by simp at h
  | x :: l, h => by
    rcases List.mem_cons.1 h with rfl | h
    · simp
    · have := mem_le_sum h; simp; omega
theorem slots_le {m : Sm} (hI : Inv m) (hV : Vd m) : ∀ o ∈ m.objs, o.slots.length ≤ 1048576 := by
  intro o ho
  have h1 : o.cells ≤ total m.objs := by
    unfold total
    exact mem_le_sum (List.mem_map_of_mem ho)
  have h2 : o.slots.length ≤ o.cells := by
    unfold Ob.cells
    split
    · rename_i hk; rw [hV.syn o ho hk]; simp
    · omega
  have := hI.sum
  have := hI.le
  have := hI.lim
  omega
theorem flat_zero (n : Nat) : List.replicate n (Value.int .i64 0) = (List.replicate n (0 : Int)).flatMap eI := by
  induction n with
  | zero => rfl
  | succ n ih => simp [List.replicate_succ, ih]

theorem c16 {H : AHeap} {p : Nat} {m : Sm} {F : Nat → Prop} (h : St H p m F) (hI : Inv m) (hV : Vd m) {lo : Nat} {B : Option Addr} {xs : List V} (hlo : lo ≤ H.next) (hB : Rd 2 eV lo H B xs) (hn : xs.length ≤ 1048576) (he : xs = [] → B = none) (hBF : ∀ x, B = some x → ¬ F x.block) :
    ACalls Try.prog 16 [Pt p, .slice B xs.length xs.length] H fun r H' => if xs.all m.sound = true then (∃ s : List Bool, s.length = m.objs.length ∧ (∀ i, s.getD i false = true ↔ Reach m xs i) ∧ collPost H p F m xs s r H')
      else r = .tuple #[.slice none 0 0, .int .i64 2] ∧ Keep H.next H H' := by
  refine S16_calls ?_
  unfold S16
  have hk1 : Keep H.next H (H.alloc (.cells [Pt p] .var 22)) := (Keep.refl _ _).alloc (Nat.le_refl _) _
  simp
  unfold S16_94
  obtain ⟨H1, hH1⟩ : ∃ X, X = H.alloc (.cells [Pt p] .var 22) := ⟨_, rfl⟩
  simp only [← hH1]
  rw [← hH1] at hk1
  have e1 : H1.at_ H.next = .cells [Pt p] .var 22 := by rw [hH1]; simp [at_alloc]
  have hn1 : H1.next = H.next + 1 := by rw [hH1]; simp
  clear hH1
  have h1 := h.kept hk1
  have hB1 : Rd 2 eV lo H1 B xs := hB.keep fun b hb => hk1.at_ b (by omega)
  refine (c39 h1 e1 (by omega) hB1 (by omega) 43 good43 fun v => c43 h1 e1 (by omega) v).use ?_
  cases hal : xs.all m.sound with
  | false => simp; exact hk1
  | true =>
  rw [List.all_eq_true] at hal
  have hx : ∀ v ∈ xs, okIx m v := fun v hv => sound_ix (hal v hv)
  simp [e1]
  refine (c44 h1 hI hV (by omega) hB1 hn he hx).mono fun r H3 ⟨C, s, hr, hsl, hC, hk3, hR⟩ => ?_
  subst hr
  have hlen := hI.len
  obtain ⟨A, os, NA, mb, hX⟩ := id h
  unfold S16_93
  have hn3 := hk3.next
  have e3 : H3.at_ H.next = .cells [Pt p] .var 22 := by rw [hk3.at_ _ (by omega)]; exact e1
  have hX3 : StX H3 p m F A os NA mb := hX.frame (by omega) fun b hb => by have := hX.lt b hb; rw [hk3.at_ _ (by omega), hk1.at_ _ this]
  have hpl := hX.lt p hX.fp
  have hne : p ≠ H3.next ∧ p ≠ H3.next + 1 := by omega
  have hne2 : H.next ≠ H3.next ∧ H.next ≠ H3.next + 1 ∧ H.next ≠ p := by omega
  have hne3 : H3.next ≠ p ∧ H3.next + 1 ≠ p := by omega
  simp [e3, hX3.hp, aMakeSlice]
  refine ⟨by omega, ?_⟩
  simp [at_alloc, at_upd, hne, hne2, hne3, e3, hX3.hp]
  obtain ⟨L0, hL0⟩ : ∃ X, X = (((H3.alloc (.cells (List.replicate m.objs.length (.int .i64 0)) (.row 1) 3)).alloc (.cells [.slice none 0 0] .var 77)).upd (H3.next + 1) (.cells [.slice (some ⟨H3.next, 0, none⟩) m.objs.length m.objs.length] .var 77)).upd p (.cells [.int .i64 m.lim, .int .i64 0, .slice A m.objs.length m.objs.length, .slice NA m.names.length m.names.length, .map (some mb)] .var 88) := ⟨_, rfl⟩
  simp only [← hL0]
  have un : ∀ c, c < H3.next → c ≠ p → L0.at_ c = H3.at_ c := fun c hc hcp => by
    rw [hL0]
    have : c ≠ H3.next ∧ c ≠ H3.next + 1 := by omega
    simp [at_alloc, at_upd, this, hcp]
  have hnL : L0.next = H3.next + 2 := by rw [hL0]; simp
  have ep : L0.at_ p = .cells [.int .i64 m.lim, .int .i64 0, .slice A m.objs.length m.objs.length, .slice NA m.names.length m.names.length, .map (some mb)] .var 88 := by rw [hL0]; simp
  have e7 : L0.at_ (H3.next + 1) = .cells [.slice (some ⟨H3.next, 0, none⟩) m.objs.length m.objs.length] .var 77 := by rw [hL0]; simp [at_upd, hne3]
  have eQ : L0.at_ H3.next = .cells (List.replicate m.objs.length (.int .i64 0)) (.row 1) 3 := by rw [hL0]; simp [at_upd, at_alloc, hne3]
  clear hL0
  have rowne : ∀ (c : Nat) (ds : List Value) (n : Nat) (t : TypeId), H3.at_ c = .cells ds (.row n) t → c ≠ p := by
    rintro c ds n t hc rfl
    rw [hX3.hp] at hc
    cases hc
  have up : ∀ {α : Type} {n : Nat} {enc : α → List Value} {e : TypeId} {lo : Nat} {A : Option Addr} {ys : List α}, Ow n enc e lo H3 A ys → Ow n enc e lo L0 A ys := fun {α n enc e lo A ys} ho => ho.at (by omega) fun y hy => by
    obtain ⟨_, _, hy2, ds, hds⟩ := ho.blkOf hy
    exact un _ hy2 (rowne _ _ _ _ hds)
  have hQ0 : Ow 1 eI 3 H.next L0 (some ⟨H3.next, 0, none⟩) (placeTo m s 0) := by
    rw [placeTo_zero]
    refine ⟨by simp, .inr ⟨H3.next, _, rfl, by omega, by omega, eQ, by simp, ?_⟩⟩
    rw [← flat_zero]
    simp
  have hz0 : total (keepP (m.objs.take 0) s) = 0 := by simp [keepP_nil, total]
  have hLL : L1 m H p F A os NA mb (H3.next + 1) (some ⟨H3.next, 0, none⟩) C s 0 L0 none := by
    refine ⟨by omega, by omega, ?_, e7, hQ0, up (hC.lower (by omega)), ?_, by rw [List.take_zero, keepP_nil]; exact Ow.nil _ _ _ _ _, fun b hb hf => ?_⟩
    · rw [un _ (by omega) (by omega)]; exact e3
    · rw [hz0]
      refine ⟨hX3.len, ep, up hX3.objs, fun i o a h1 h2 => up (hX3.slots i o a h1 h2), hX3.dist, up hX3.names, ?_, hX3.fp, hX3.fA, hX3.fo, hX3.fN, hX3.fm, fun b hb => by have := hX3.lt b hb; omega⟩
      rw [un _ (hX3.lt _ hX3.fm)]
      · exact hX3.map
      · rintro rfl
        have := hX3.map
        rw [hX3.hp] at this
        cases this
    · rw [un b (by omega) (by rintro rfl; exact hf hX3.fp), hk3.at_ b (by omega)]
      exact hk1.at_ b hb
  have hzl : (Zs m os).length = m.objs.length := hX.zlen
  refine aLoop_vs m.objs.length (fun i vs H' => ∃ L, vs = [.slice L (keepP ((Zs m os).take i) s).length (keepP ((Zs m os).take i) s).length, .int .i64 i] ∧ L1 m H p F A os NA mb (H3.next + 1) (some ⟨H3.next, 0, none⟩) C s i H' L) ⟨none, by rw [List.take_zero, keepP_nil]; rfl, hLL⟩ ?_
  rintro i vs H' again hi ⟨L, rfl, hL⟩ ha
  unfold S16_92
  by_cases hlt : i < m.objs.length
  · simp [hlt]
    unfold S16_65
    rw [aJoin_eq]
    have w1 := wrap64 (x := (i : Int) + 1) (by omega) (by omega)
    have i1 := hL.hX.idx (k := .i64) (j := (i : Int)) (c := m.objs.length) (by omega) (by simp [at_used]; omega)
    rw [Int.toNat_natCast] at i1
    have hlt2 : i < ((at_used m (total (keepP (m.objs.take i) s) : Nat)).objs.zip os).length := by rw [hL.hX.zlen]; exact hlt
    have l1 := hL.hX.objs.rd.agg hlt2
    obtain ⟨o, a, ho, hao, hoa⟩ : ∃ o a, m.objs[i]? = some o ∧ os[i]? = some a ∧ ((at_used m (total (keepP (m.objs.take i) s) : Nat)).objs.zip os)[i] = (o, a) := by
      refine ⟨m.objs[i], os[i]'(by rw [hX.len]; exact hlt), List.getElem?_eq_getElem _, List.getElem?_eq_getElem _, by simp [at_used]⟩
    rw [hoa] at l1
    have i2 := hL.hC.rd.idx (k := .i64) (j := (i : Int)) (c := s.length) (by omega) (by omega)
    rw [Int.toNat_natCast] at i2
    have his : i < s.length := by omega
    simp only [at_used] at i1
    simp only [nth_zero, nth_1, i1, l1, bnd_some', aAlloc_eq]
    simp [encO, at_alloc, -aLdAgg_ptr, -aLdCell_ptr, i2]
    obtain ⟨G, hG⟩ : ∃ X, X = ((H'.alloc (.cells [.int .i64 0, .slice none 0 0, .int .i64 0, .string ⟨#[]⟩, .bool false, .slice none 0 0, .slice none 0 0, .int .i64 0, .slice none 0 0, .slice none 0 0] .var 94)).upd H'.next (.cells [.int .i64 o.kind, .slice a o.slots.length o.slots.length, .int .i64 o.sk, .string o.text, .bool false, .slice none 0 0, .slice none 0 0, .int .i64 0, .slice none 0 0, .slice none 0 0] .var 94)) := ⟨_, rfl⟩
    simp only [← hG]
    have hkG : Keep H'.next H' G := hG ▸ ((Keep.refl _ _).alloc (Nat.le_refl _) _).upd (Nat.le_refl _) _
    have g10 : G.at_ H'.next = .cells (encO (o, a)) .var 94 := by rw [hG]; simp [encO]
    have hnG : G.next = H'.next + 1 := by rw [hG]; simp
    clear hG
    have hLG := hL.kept hkG
    have l2 := hLG.hC.rd.ld (enc := Value.bool) his
    simp [l2, -aLdCell_ptr]
    have hgs : s.getD i false = s[i] := by rw [List.getD_eq_getElem?_getD, List.getElem?_eq_getElem his]; rfl
    cases hsi : s[i] with
    | true =>
      simp
      refine l64 hI (fun b hb => hX.lt b hb) hLG hlt ho hao (by rw [hgs, hsi]) g10 (by omega) (slots_le hI hV o (List.mem_of_getElem? ho)) fun H'' L' hL' => ?_
      simp [w1]
      exact ha _ H'' hlt ⟨L', rfl, hL'⟩
    | false =>
      simp [w1]
      have hz : (Zs m os)[i]? = some (o, a) := zip_at ho hao
      have ek : keepP ((Zs m os).take (i + 1)) s = keepP ((Zs m os).take i) s := by rw [keepP_take _ _ _ _ hz, hgs, hsi]; simp
      have eo : keepP (m.objs.take (i + 1)) s = keepP (m.objs.take i) s := by rw [keepP_take _ _ _ _ ho, hgs, hsi]; simp
      refine ha _ G hlt ⟨L, by rw [ek]; rfl, ?_⟩
      have ep := placeTo_succ m s i hlt
      rw [hgs, hsi, if_neg (by decide)] at ep
      exact ⟨hLG.n1, hLG.n0, hLG.t2, hLG.t7, by rw [ep]; exact hLG.hQ, hLG.hC, by rw [eo]; exact hLG.hX, by rw [ek]; exact hLG.hL, hLG.fr⟩
  · have hie : i = m.objs.length := by omega
    subst hie
    simp
    have ez : (Zs m os).take m.objs.length = Zs m os := by rw [← hzl, List.take_length]
    rw [ez]
    have hLX := hL.hX
    have hF : LF m H p F NA mb (keepP (Zs m os) s) := by
      have key : ∀ (i : Nat) (o : Ob) (a : Option Addr), (keepP (Zs m os) s)[i]? = some (o, a) → ∃ j, m.objs[j]? = some o ∧ os[j]? = some a ∧ (keepP ((Zs m os).take j) s).length = i := by
        intro i o a hi
        obtain ⟨j, h1, h2, h3⟩ := keepP_idx _ _ _ _ hi
        refine ⟨j, ?_, ?_, h3⟩
        · have := congrArg (Option.map (·.1)) h1
          rw [← List.getElem?_map, List.map_fst_zip (by rw [hX.len]; exact Nat.le_refl _)] at this
          exact this
        · have := congrArg (Option.map (·.2)) h1
          rw [← List.getElem?_map, List.map_snd_zip (by rw [hX.len]; exact Nat.le_refl _)] at this
          exact this
      refine ⟨hX.lt, hX.fp, hX.fN, hX.fm, fun i o a hi => ?_, fun i j o o' a b h1 h2 h3 => ?_⟩
      · obtain ⟨j, _, h2, _⟩ := key i o _ hi
        exact hX.fo j a h2
      · obtain ⟨i', _, h4, h5⟩ := key i o _ h1
        obtain ⟨j', _, h6, h7⟩ := key j o' _ h2
        have := hX.dist i' j' a b h4 h6 h3
        subst this
        omega
    have ht : m.objs.take m.objs.length = m.objs := List.take_length
    have hL2 : L2 m H p F (total (keepP m.objs s) : Nat) A NA mb (H3.next + 1) (some ⟨H3.next, 0, none⟩) (place m s) (keepP (Zs m os) s) 0 H' L := by
      refine ⟨hL.n1, hL.n0, hL.t2, ?_, hL.hQ, ?_, ?_, fun j o a hj => ?_, hLX.names, hLX.map, hL.fr⟩
      · have := hL.t7
        rwa [← placeTo_len m s m.objs.length] at this
      · have := hLX.hp
        rw [ht] at this
        exact this
      · have := hL.hL
        rwa [ez] at this
      · rw [if_neg (by omega)]
        obtain ⟨i, h1, _, _⟩ := keepP_idx _ _ _ _ hj
        have e1 := congrArg (Option.map (·.1)) h1
        rw [← List.getElem?_map, List.map_fst_zip (by rw [hX.len]; exact Nat.le_refl _)] at e1
        have e2 := congrArg (Option.map (·.2)) h1
        rw [← List.getElem?_map, List.map_snd_zip (by rw [hX.len]; exact Nat.le_refl _)] at e2
        exact hLX.slots i o a e1 e2
    refine aLoop_st (keepP (Zs m os) s).length (fun k => [.int .i64 k]) (fun k H'' => L2 m H p F (total (keepP m.objs s) : Nat) A NA mb (H3.next + 1) (some ⟨H3.next, 0, none⟩) (place m s) (keepP (Zs m os) s) k H'' L) rfl hL2 ?_
    rintro k H'' again2 hk hL2' ha2
    exact l91 (fun r H' hr => ⟨s, hsl, hR, hr⟩) hlen hX.len hV (slots_le hI hV) hF hL2' hk hlo hB hn he hx hBF fun H4 hlt hL4 => ha2 H4 hlt hL4
end Go.Proofs.Ytngldjajfpbmbaa.A
