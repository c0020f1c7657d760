/- Contracts of functions that the statement reaches; each theorem carries its own conditions, the last theorem of the claim has none. -/
import Derived.Test.YtngldjajfpbmbaaS7
set_option linter.unusedVariables false
set_option linter.unusedSimpArgs false
namespace Go.Proofs.Ytngldjajfpbmbaa.A
open Go Go.Abs

/-- The state of the search. -/
structure Dfs (m : Sm) (roots todo : List V) (s : List Bool) : Prop where
  len : s.length = m.objs.length
  ix : ∀ v ∈ todo, okIx m v
  rt : ∀ v ∈ todo, v.1 = 7 → Reach m roots v.2.toNat
  rs : ∀ i, s.getD i false = true → Reach m roots i
  c1 : ∀ v ∈ roots, v.1 = 7 → s.getD v.2.toNat false = true ∨ v ∈ todo
  c2 : ∀ (i : Nat) (o : Ob), s.getD i false = true → m.objs[i]? = some o → ∀ v ∈ o.slots, v.1 = 7 → s.getD v.2.toNat false = true ∨ v ∈ todo
theorem Dfs.skip {m : Sm} {roots todo : List V} {v : V} {s : List Bool} (h : Dfs m roots (todo ++ [v]) s) (hv : v.1 = 7 → s.getD v.2.toNat false = true) : Dfs m roots todo s where
  len := h.len
  ix w hw := h.ix w (by simp [hw])
  rt w hw := h.rt w (by simp [hw])
  rs := h.rs
  c1 w hw h7 := by
    rcases h.c1 w hw h7 with h1 | h1
    · exact .inl h1
    · rcases List.mem_append.1 h1 with h1 | h1
      · exact .inr h1
      · simp at h1; subst h1; exact .inl (hv h7)
  c2 i o hi ho w hw h7 := by
    rcases h.c2 i o hi ho w hw h7 with h1 | h1
    · exact .inl h1
    · rcases List.mem_append.1 h1 with h1 | h1
      · exact .inr h1
      · simp at h1; subst h1; exact .inl (hv h7)
theorem Dfs.mark {m : Sm} {roots todo : List V} {v : V} {s : List Bool} (h : Dfs m roots (todo ++ [v]) s) (hV : Vd m) (h7 : v.1 = 7) {o : Ob} (ho : m.objs[v.2.toNat]? = some o) : Dfs m roots (todo ++ o.slots) (s.set v.2.toNat true) := by
  have hlt : v.2.toNat < s.length := by rw [h.len]; exact (List.getElem?_eq_some_iff.1 ho).1
  have hr := h.rt v (by simp) h7
  have mono : ∀ i, s.getD i false = true → (s.set v.2.toNat true).getD i false = true := fun i hi => by rw [getD_set _ _ _ hlt]; split <;> first | rfl | exact hi
  have me : (s.set v.2.toNat true).getD v.2.toNat false = true := by rw [getD_set _ _ _ hlt, if_pos rfl]
  have go : ∀ w, s.getD w.2.toNat false = true ∨ w ∈ todo ++ [v] → (s.set v.2.toNat true).getD w.2.toNat false = true ∨ w ∈ todo ++ o.slots := by
    rintro w (h1 | h1)
    · exact .inl (mono _ h1)
    · rcases List.mem_append.1 h1 with h1 | h1
      · exact .inr (by simp [h1])
      · simp at h1; subst h1; exact .inl me
  refine ⟨by simp [h.len], fun w hw => ?_, fun w hw hw7 => ?_, fun i hi => ?_, fun w hw hw7 => go w (h.c1 w hw hw7), fun i o' hi ho' w hw hw7 => ?_⟩
  · rcases List.mem_append.1 hw with h1 | h1
    · exact h.ix w (by simp [h1])
    · exact hV.ok o (List.mem_of_getElem? ho) w h1
  · rcases List.mem_append.1 hw with h1 | h1
    · exact h.rt w (by simp [h1]) hw7
    · exact .step hr ho h1 hw7
  · rw [getD_set _ _ _ hlt] at hi
    split at hi
    · rename_i e; subst e; exact hr
    · exact h.rs i hi
  · rw [getD_set _ _ _ hlt] at hi
    split at hi
    · rename_i e; subst e
      rw [ho] at ho'
      cases ho'
      exact .inr (by simp [hw])
    · exact go w (h.c2 i o' hi ho' w hw hw7)
theorem Dfs.done {m : Sm} {roots : List V} {s : List Bool} (h : Dfs m roots [] s) (i : Nat) : s.getD i false = true ↔ Reach m roots i := by
  refine ⟨h.rs i, fun hr => ?_⟩
  induction hr with
  | @root v hv h7 => exact (h.c1 v hv h7).resolve_right (by simp)
  | @step i o v _ ho hv h7 ih => exact (h.c2 i o ih ho v hv h7).resolve_right (by simp)
theorem Dfs.start {m : Sm} {roots : List V} (hx : ∀ v ∈ roots, okIx m v) : Dfs m roots roots (List.replicate m.objs.length false) := by
  have e : ∀ i, (List.replicate m.objs.length false).getD i false = false := fun i => by
    rw [List.getD_eq_getElem?_getD, List.getElem?_replicate]; split <;> rfl
  refine ⟨by simp, hx, fun v hv h7 => .root hv h7, fun i hi => (by rw [e] at hi; cases hi), fun v hv _ => .inr hv, fun i o hi => (by rw [e] at hi; cases hi)⟩

theorem flat_rep (n : Nat) : List.replicate n (Value.bool false) = (List.replicate n false).flatMap eB := by
  induction n with
  | zero => rfl
  | succ n ih => simp [List.replicate_succ, ih]

theorem c44 {H : AHeap} {p : Nat} {m : Sm} {F : Nat → Prop} (h : St H p m F) (hI : Inv m) (hV : Vd m) {lo : Nat} {B : Option Addr} {xs : List V} (hlo : lo ≤ H.next) (hB : Rd 2 eV lo H B xs) (hn : xs.length ≤ 1048576) (he : xs = [] → B = none) (hx : ∀ v ∈ xs, okIx m v) :
    ACalls Try.prog 44 [Pt p, .slice B xs.length xs.length] H fun r H' => ∃ C s, r = .slice C s.length s.length ∧ s.length = m.objs.length ∧ Ow 1 eB 4 H.next H' C s ∧ Keep H.next H H' ∧ ∀ i, s.getD i false = true ↔ Reach m xs i := by
  refine S44_calls ?_
  unfold S44
  have hlen := hI.len
  obtain ⟨A, os, NA, mb, hX⟩ := id h
  simp [hX.hp, aMakeSlice]
  refine ⟨by omega, ?_⟩
  simp only [Int.toNat_natCast, List.getD_cons_zero]
  obtain ⟨H1, hH1⟩ : ∃ X, X = H.alloc (.cells (List.replicate m.objs.length (.bool false)) (.row 1) 4) := ⟨_, rfl⟩
  rw [← hH1]
  have hk1 : Keep H.next H H1 := hH1 ▸ (Keep.refl _ _).alloc (Nat.le_refl _) _
  have hn1 : H1.next = H.next + 1 := by rw [hH1]; simp
  have hS1 : Ow 1 eB 4 H.next H1 (some ⟨H.next, 0, none⟩) (List.replicate m.objs.length false) := by
    rw [hH1]; exact Ow.new H _ (by simp) (flat_rep _)
  clear hH1
  have hB1 : Rd 2 eV lo H1 B xs := hB.keep fun b hb => hk1.at_ b (by omega)
  refine (c42 (by omega) hB1 hn he).mono fun r H2 ⟨T, hr, hT, hk2⟩ => ?_
  subst hr
  have htot : total m.objs ≤ 1048576 := by have := hI.sum; have := hI.le; have := hI.lim; omega
  refine aLoop_inv (fun μ vs H' => ∃ T todo s, vs = [.slice T todo.length todo.length] ∧ Ow 2 eV 28 H.next H' T todo ∧ Ow 1 eB 4 H.next H' (some ⟨H.next, 0, none⟩) s ∧ Keep H.next H H' ∧ μ = pend m.objs s + todo.length ∧ μ ≤ 2097152 ∧ Dfs m xs todo s)
    (pend m.objs (List.replicate m.objs.length false) + xs.length) ⟨T, xs, _, rfl, hT.lower (by omega), hS1.kept hk2, hk1.trans (hk2.lower (by omega)), rfl, ?_, Dfs.start hx⟩ ?_
  · have := pend_le m.objs (List.replicate m.objs.length false) hV.syn
    omega
  rintro μ vs H' again ⟨T, todo, s, rfl, hT, hS, hk, hμ, hμ2, hD⟩ ha
  have hsl := hD.len
  unfold S44_72
  by_cases hz : todo.length = 0
  · have : todo = [] := List.eq_nil_of_length_eq_zero hz
    subst this
    simp
    refine ⟨_, s, ⟨rfl, ?_⟩, hsl, hS, hk, fun i => hD.done i⟩
    omega
  · have hpos : 0 < todo.length := by omega
    simp [hpos]
    obtain ⟨todo', v, rfl⟩ : ∃ t v, todo = t ++ [v] := ⟨todo.dropLast, todo.getLast (by intro e; simp [e] at hz), (List.dropLast_concat_getLast _).symm⟩
    have hlen2 : (todo' ++ [v]).length = todo'.length + 1 := by simp
    have hlt : todo'.length < (todo' ++ [v]).length := by omega
    have w1 := wrap64 (x := (todo'.length : Int)) (by omega) (by omega)
    have i1 := hT.rd.idx (k := .i64) (j := (todo'.length : Int)) (c := (todo' ++ [v]).length) (by omega) (by omega)
    rw [Int.toNat_natCast] at i1
    have l1 := hT.rd.agg hlt
    have ev : (todo' ++ [v])[todo'.length] = v := by simp
    rw [ev] at l1
    have c1 := hT.rd.sliceHi (k := .i64) (j := (todo'.length : Int)) (by omega) (by omega)
    rw [adv_zero, Int.toNat_natCast] at c1
    have hT' : Ow 2 eV 28 H.next H' T todo' := by
      have := hT.take todo'.length (by omega)
      rwa [List.take_left] at this
    rw [hlen2] at i1 c1 hμ
    unfold S44_71
    simp [hlen2, w1, i1, l1, at_alloc, -aLdAgg_ptr, c1]
    obtain ⟨G, hG⟩ : ∃ X, X = ((H'.alloc (.cells [.int .i64 0, .int .i64 0] .var 28)).upd H'.next (.cells [.int .i64 v.1, .int .i64 v.2] .var 28)) := ⟨_, rfl⟩
    simp only [← hG]
    have hkG : Keep H'.next H' G := hG ▸ ((Keep.refl _ _).alloc (Nat.le_refl _) _).upd (Nat.le_refl _) _
    have hnG : G.next = H'.next + 1 := by rw [hG]; simp
    have eG : G.at_ H'.next = .cells [.int .i64 v.1, .int .i64 v.2] .var 28 := by rw [hG]; simp [at_upd]
    clear hG
    have hnk := hk.next
    have hTG := hT'.kept hkG
    have hSG := hS.kept hkG
    by_cases h7 : v.1 = 7
    · obtain ⟨v0, v1⟩ := hD.ix v (by simp) h7
      have hlt2 : v.2.toNat < s.length := by omega
      have i2 := hSG.rd.idx (k := .i64) (j := v.2) (c := s.length) (by omega) (by omega)
      rw [hsl] at i2
      have l2 := hSG.rd.ld (enc := Value.bool) hlt2
      have l3 : aLdCell (.pointer (some ⟨H'.next, 1, none⟩)) G = some (.int .i64 v.2) := by simp [eG]
      have l4 : aLdCell (.pointer (some ⟨H'.next, 0, none⟩)) G = some (.int .i64 v.1) := by simp [eG]
      simp [h7, l3, i2, l2, -aLdCell_ptr]
      cases hs : s[v.2.toNat] with
      | true =>
        simp
        have hD' := hD.skip fun _ => by rw [List.getD_eq_getElem?_getD, List.getElem?_eq_getElem hlt2, hs]; rfl
        refine ha (pend m.objs s + todo'.length) _ _ (by omega) ⟨T, todo', s, rfl, hTG, hSG, hk.trans (hkG.lower (by omega)), rfl, by omega, hD'⟩
      | false =>
        simp
        unfold S44_70
        obtain ⟨b, hb, _, _, x, hst, hS2, cs, hcs⟩ := hSG.st (j := v.2.toNat) (k := 0) (l := 1) (off := v.2.toNat) (v := .bool true) (y := true) hlt2 (by omega) (by simp) (by simp) (by omega) (by simp)
        cases hb
        have hok : okRef m v = true := okRef_iff.2 ⟨h7, v0, v1⟩
        have hkk : Keep H.next H (G.upd H.next x) := (hk.trans (hkG.lower (by omega))).upd (Nat.le_refl _) _
        have hX2 : StX (G.upd H.next x) p m F A os NA mb := hX.frame hkk.next fun b hb => hkk.at_ b (hX.lt b hb)
        obtain ⟨a, b, cs2, ho, ha2, hs2, hb, hat, hl, hc, hsl2⟩ := hX2.look hok
        have l5 : aLdCell (.pointer (some ⟨b, v.2.toNat * 10 + 1, none⟩)) (G.upd H.next x) = some (.slice a (m.ob v).slots.length (m.ob v).slots.length) := by
          simp [hat, hc 1 (by omega), encO]
        have l6 : aLdCell (.pointer (some ⟨H'.next, 1, none⟩)) (G.upd H.next x) = some (.int .i64 v.2) := by
          have : H'.next ≠ H.next := by
            rcases hS.2 with ⟨h1, _⟩ | ⟨c, ds, h1, _, h2, _⟩
            · cases h1
            · cases h1; omega
          simp [at_upd, this, eG]
        have l7 : aLdCell (.pointer (some ⟨p, 2, none⟩)) (G.upd H.next x) = some (.slice A m.objs.length m.objs.length) := by
          simp [hX2.hp]
        have i3 := hX2.idx (k := .i64) (c := m.objs.length) v0 v1
        have hst' : aSt 1 (slot 1 (some ⟨H.next, 0, none⟩) v.2.toNat) (.bool true) G = some (G.upd H.next x) := by simpa [slot] using hst
        simp [l3, i2, hst', l7, l6, i3, hs2, l5, -aLdCell_ptr, -aSt_ptr]
        have hT2 : Ow 2 eV 28 H.next (G.upd H.next x) T todo' := by
          refine hTG.at (Nat.le_refl _) ?_
          rintro y rfl
          rw [AHeap.at_upd_ne]
          rintro e
          rcases hTG.2 with ⟨h1, _⟩ | ⟨c, ds, h1, _, _, h2, _⟩
          · cases h1
          · cases h1
            dsimp only at e
            rw [e, hcs] at h2
            cases h2
        have hpe := pend_set m.objs s v.2.toNat (m.ob v) ho (by rw [List.getElem?_eq_getElem hlt2, hs])
        refine hT2.append (lo' := (G.upd H.next x).next) (hsl2.rd) (by simp; omega) (by simp only [maxLen]; omega) (by omega) fun H3 hO3 hn3 hat3 hk3 => ?_
        have hS3 : Ow 1 eB 4 H.next H3 (some ⟨H.next, 0, none⟩) (s.set v.2.toNat true) := by
          refine hS2.at (by omega) ?_
          rintro y hy
          cases hy
          refine hat3 _ (by simp; omega) ?_
          rintro o' s' rfl
          rcases hTG.2 with ⟨h1, _⟩ | ⟨c, ds, h1, _, _, h2, _⟩
          · cases h1
          · cases h1
            rw [hcs] at h2
            cases h2
        refine ha (pend m.objs (s.set v.2.toNat true) + (todo' ++ (m.ob v).slots).length) _ _ (by rw [List.length_append]; omega) ⟨_, todo' ++ (m.ob v).slots, _, rfl, hO3, hS3, hkk.trans (hk3.lower (Nat.le_refl _)), rfl, by rw [List.length_append]; omega, hD.mark hV h7 ho⟩
    · have l4 : aLdCell (.pointer (some ⟨H'.next, 0, none⟩)) G = some (.int .i64 v.1) := by simp [eG]
      simp [h7]
      have hD' := hD.skip fun h => absurd h h7
      refine ha (pend m.objs s + todo'.length) _ _ (by omega) ⟨T, todo', s, rfl, hTG, hSG, hk.trans (hkG.lower (by omega)), rfl, by omega, hD'⟩
end Go.Proofs.Ytngldjajfpbmbaa.A
