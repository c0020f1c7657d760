/- Contracts of functions that the statement reaches; each theorem carries its own conditions, the last theorem of the claim has none. -/
import Derived.Test.YtngldjajfpbmbaaS16
set_option linter.unusedVariables false
set_option linter.unusedSimpArgs false
namespace Go.Proofs.Ytngldjajfpbmbaa.A
open Go Go.Abs

theorem flat_set {α : Type} {enc : α → List Value} {y : α} : ∀ (xs : List α) (j : Nat), (∀ x, xs[j]? = some x → enc y = enc x) → (xs.set j y).flatMap enc = xs.flatMap enc
  | [], j, _ => by simp
  | x :: xs, 0, h => by simp [h x (by simp)]
  | x :: xs, j + 1, h => by
    simp only [List.set_cons_succ, List.flatMap_cons]
    rw [flat_set xs j fun z hz => h z (by simpa using hz)]
theorem zip_set {α β : Type} : ∀ (xs : List α) (ys : List β) (j : Nat) (x : α) (y : β), ys[j]? = some y → (xs.set j x).zip ys = (xs.zip ys).set j (x, y)
  | [], ys, j, x, y, _ => by simp
  | _ :: _, [], j, x, y, h => by simp at h
  | a :: xs, b :: ys, 0, x, y, h => by simp at h; subst h; rfl
  | a :: xs, b :: ys, j + 1, x, y, h => by
    have := zip_set xs ys j x y (by simpa using h)
    simp [this]
def setOb (o : Ob) (i : Nat) (x : V) : Ob := ⟨o.kind, o.slots.set i x, o.sk, o.text⟩
theorem c19 {H : AHeap} {p : Nat} {m : Sm} {F : Nat → Prop} (h : St H p m F) (v : V) (i : Int) (x : V) :
    ACalls Try.prog 19 [Pt p, vV v, .int .i64 i, vV x] H fun r H' => r = .int .i64 (m.set v i x).1 ∧ St H' p (m.set v i x).2 F ∧ Fr F H F H' := by
  refine S19_calls ?_
  obtain ⟨A, os, NA, mb, h⟩ := h
  unfold S19
  have hk2 : ∀ x y, Keep H.next H ((H.alloc x).alloc y) := fun x y => ((Keep.refl _ _).alloc (Nat.le_refl _) _).alloc (by simp) _
  have hx : ∀ x y, StX ((H.alloc x).alloc y) p m F A os NA mb := fun x y => h.frame (hk2 x y).next fun b hb => (hk2 x y).at_ b (h.lt b hb)
  simp [at_alloc]
  have hk3 := hk2 (.cells [.int .i64 v.1, .int .i64 v.2] .var 28) (.cells [.int .i64 x.1, .int .i64 x.2] .var 28)
  cases hv : okRef m v with
  | false =>
    refine (c47 (hx _ _) v i none (by rw [hv]; intro h; cases h)).use ?_
    simp [slotRes, hv, Sm.set]
    exact ⟨⟨A, os, NA, mb, hx _ _⟩, Fr.keep hk3⟩
  | true =>
    obtain ⟨a, b, cs, ho, ha, hs, hb, hat, hl, hc, hsl⟩ := h.look hv
    refine (c47 (hx _ _) v i a (fun _ => ha)).use ?_
    by_cases h3 : 0 ≤ i ∧ i < (m.ob v).slots.length
    · simp [slotRes, hv, h3, Sm.set]
      unfold S19_17
      simp [at_alloc]
      refine (c30 ⟨A, os, NA, mb, hx _ _⟩ x).use ?_
      cases hsd : m.sound x with
      | false =>
        simp
        exact ⟨⟨A, os, NA, mb, hx _ _⟩, Fr.keep hk3⟩
      | true =>
        have hO := hsl.kept hk3
        obtain ⟨c, hac, _, hcl, y, hst, hO2, ds, hds⟩ := hO.st (j := i.toNat) (k := 0) (l := 2) (off := i.toNat * 2) (v := vV x) (y := x) (by omega) (by omega) (by simp) (by simp) (by omega) (by simp)
        have hst' : aSt 2 (slot 2 a i.toNat) (vV x) ((H.alloc (.cells [.int .i64 v.1, .int .i64 v.2] .var 28)).alloc (.cells [.int .i64 x.1, .int .i64 x.2] .var 28)) = some (((H.alloc (.cells [.int .i64 v.1, .int .i64 v.2] .var 28)).alloc (.cells [.int .i64 x.1, .int .i64 x.2] .var 28)).upd c y) := by rw [hac]; simpa [slot] using hst
        have hnc : aNilCheck (slot 2 a i.toNat) = some (slot 2 a i.toNat) := by rw [hac]; rfl
        have hFc : F c := h.fo _ ⟨c, 0, none⟩ (by rw [ha, hac])
        have hcH := h.lt c hFc
        simp [at_alloc, hnc, hst', -aSt_ptr]
        have h2 := hx (.cells [.int .i64 v.1, .int .i64 v.2] .var 28) (.cells [.int .i64 x.1, .int .i64 x.2] .var 28)
        generalize hG : ((H.alloc (.cells [.int .i64 v.1, .int .i64 v.2] .var 28)).alloc (.cells [.int .i64 x.1, .int .i64 x.2] .var 28)) = G at *
        have un : ∀ d, d ≠ c → (G.upd c y).at_ d = G.at_ d := fun d hd => AHeap.at_upd_ne _ _ hd
        have nc : ∀ (d : Nat) (es : List Value) (u : Use) (t : TypeId), G.at_ d = .cells es u t → t ≠ 28 → d ≠ c := by
          rintro d es u t hd ht rfl
          rw [hds] at hd
          cases hd
          exact ht rfl
        refine ⟨⟨A, os, NA, mb, ?_⟩, ⟨?_, fun b hb hf => ?_, fun b hb => .inl hb⟩⟩
        · refine ⟨by simp [h2.len], ?_, ?_, ?_, h2.dist, ?_, ?_, h2.fp, h2.fA, h2.fo, h2.fN, h2.fm, h2.lt⟩
          · rw [un _ (nc _ _ _ _ h2.hp (by decide)), h2.hp]
            simp
          · have hz := zip_at ho ha
            have e1 : (m.objs.set v.2.toNat (setOb (m.ob v) i.toNat x)).zip os = (m.objs.zip os).set v.2.toNat (setOb (m.ob v) i.toNat x, a) := zip_set _ _ _ _ _ ha
            have hOO := h2.objs.at (H' := G.upd c y) (Nat.le_refl _) fun z hz => un _ (by
              obtain ⟨_, _, _, es, hes⟩ := h2.objs.blkOf hz
              exact nc _ _ _ _ hes (by decide))
            show Ow 10 encO 94 0 (G.upd c y) A ((m.objs.set v.2.toNat (setOb (m.ob v) i.toNat x)).zip os)
            rw [e1]
            have e2 : ((m.objs.zip os).set v.2.toNat (setOb (m.ob v) i.toNat x, a)).flatMap encO = (m.objs.zip os).flatMap encO := flat_set _ _ fun z hz' => by
              rw [hz] at hz'
              cases hz'
              simp [encO, setOb]
            refine ⟨fun _ _ => rfl, ?_⟩
            rcases hOO.2 with ⟨g1, g2⟩ | ⟨b, cs, g1, g2, g3, g4, g5, g6⟩
            · rw [g2]; exact .inl ⟨g1, rfl⟩
            · exact .inr ⟨b, cs, g1, g2, g3, g4, by rw [List.length_set]; exact g5, by rw [List.length_set, e2]; exact g6⟩
          · intro j o' a' h1 h2'
            have h1' : (m.objs.set v.2.toNat (setOb (m.ob v) i.toNat x))[j]? = some o' := h1
            rw [List.getElem?_set] at h1'
            by_cases e : v.2.toNat = j
            · subst e
              rw [if_pos rfl] at h1'
              split at h1'
              · cases h1'
                rw [ha] at h2'
                cases h2'
                exact hO2
              · cases h1'
            · rw [if_neg e] at h1'
              have := h2.slots j o' a' h1' h2'
              refine this.at (Nat.le_refl _) ?_
              rintro z rfl
              refine un _ ?_
              intro ez
              exact e (h2.dist _ _ ⟨c, 0, none⟩ z (by rw [ha, hac]) h2' ez.symm)
          · exact h2.names.at (Nat.le_refl _) fun z hz => un _ (by
              obtain ⟨_, _, _, es, hes⟩ := h2.names.blkOf hz
              exact nc _ _ _ _ hes (by decide))
          · rw [un]
            · exact h2.map
            · rintro rfl
              have := h2.map
              rw [hds] at this
              cases this
        · have := hk3.next; simpa using this
        · rw [un b (by rintro rfl; exact hf hFc)]
          exact hk3.at_ b hb
    · simp [slotRes, hv, h3, Sm.set]
      exact ⟨⟨A, os, NA, mb, hx _ _⟩, Fr.keep hk3⟩
theorem total_set : ∀ (xs : List Ob) (j : Nat) (o o' : Ob), xs[j]? = some o → o'.cells = o.cells → total (xs.set j o') = total xs
  | [], j, o, o', h, _ => by simp at h
  | x :: xs, 0, o, o', h, e => by simp at h; subst h; simp [total, e]
  | x :: xs, j + 1, o, o', h, e => by
    have := total_set xs j o o' (by simpa using h) e
    simp [total] at *
    exact this
theorem ob_at {m : Sm} {v : V} (hv : okRef m v = true) : m.objs[v.2.toNat]? = some (m.ob v) := by
  obtain ⟨h1, h2, h3⟩ := okRef_iff.1 hv
  have hlt : v.2.toNat < m.objs.length := by omega
  simp [Sm.ob, List.getD_eq_getElem?_getD, hlt]
theorem Inv.set {m : Sm} (h : Inv m) (v : V) (i : Int) (x : V) : Inv (m.set v i x).2 := by
  unfold Sm.set
  split
  · rename_i hv
    split
    · split
      · refine ⟨?_, h.le, h.lim⟩
        have hv' : okRef m v = true := hv
        have : total (m.objs.set v.2.toNat (setOb (m.ob v) i.toNat x)) = total m.objs := total_set _ _ _ _ (ob_at hv') (by simp [setOb, Ob.cells])
        simp only [setOb] at this
        simp only [this]
        exact h.sum
      · exact h
    · exact h
  · exact h
theorem Vd.set {m : Sm} (h : Vd m) (v : V) (i : Int) (x : V) : Vd (m.set v i x).2 := by
  unfold Sm.set
  split
  · rename_i hv
    have hv' : okRef m v = true := hv
    have hm : m.ob v ∈ m.objs := List.mem_of_getElem? (ob_at hv')
    split
    · split
      · rename_i hs
        refine ⟨fun o ho w hw h7 => ?_, fun o ho h10 => ?_⟩
        · simp only [List.length_set] at ho ⊢
          rcases List.mem_or_eq_of_mem_set ho with ho | rfl
          · exact h.ok o ho w hw h7
          · simp only at hw
            rcases List.mem_or_eq_of_mem_set hw with hw | rfl
            · exact h.ok _ hm w hw h7
            · exact sound_ix hs h7
        · simp only at ho
          rcases List.mem_or_eq_of_mem_set ho with ho | rfl
          · exact h.syn o ho h10
          · simp only at h10 ⊢
            rw [h.syn _ hm h10]; rfl
      · exact h
    · exact h
  · exact h
end Go.Proofs.Ytngldjajfpbmbaa.A
