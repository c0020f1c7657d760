/- Regions whose order is drawn: the proof, its end. -/
import Derived.Test.YtliakckflcoffaaDoorAbsO
set_option linter.unusedVariables false
set_option linter.unusedSimpArgs false
namespace Go.Abs
open Go

section
variable {P : Program} {ops : Array Oper} {pl : List (Nat × List Nat)} {n N B : Nat} {φ0 : Phi} {H0 : AHeap} {w0 : World}

theorem ATRel.pois_put (hok : dstOk n ops = true) {L : List Nat} {l : Lst} {a : ATmps} {act : Act} {φ : Phi} (h : ATRel φ n (pois ops L l a) act) {i : Nat} {o : Oper} (ho : ops[i]? = some o) (hi : i < l.size)
    (hap : ∀ j ∈ L, j ≠ i → ∀ d, odst ops j = some d → odst ops i ≠ some d) {a' : ATmps} (haa : ∀ t, o.dst ≠ some t → a' t = a t) {u : Value} (hu : ∀ d, o.dst = some d → VRel φ (a' d) u) : ATRel φ n (pois ops L (l.setIfInBounds i true) a') (act.put o.dst u) := by
  have hlt : ∀ j d, odst ops j = some d → d < n := by
    intro j d hd
    unfold odst at hd
    obtain ⟨oj, hj, hd⟩ := Option.bind_eq_some_iff.1 hd
    exact dstOk_at hok hj hd
  have hodst : odst ops i = o.dst := by simp [odst, ho]
  have hpo : ∀ (l : Lst) (a : ATmps) t, n ≤ t → pois ops L l a t = a t := by
    intro l a t ht
    unfold pois
    rw [if_neg]
    rintro ⟨j, _, _, hd⟩
    exact absurd (hlt j t hd) (Nat.not_lt.2 ht)
  have hother : ∀ t, odst ops i ≠ some t → (pois ops L (l.setIfInBounds i true) a' t = pois ops L l a t) := by
    intro t ht
    unfold pois
    rw [haa t (by rw [← hodst]; exact ht)]
    have : (∃ j, j ∈ L ∧ lon (l.setIfInBounds i true) j = false ∧ odst ops j = some t) ↔ (∃ j, j ∈ L ∧ lon l j = false ∧ odst ops j = some t) := by
      constructor
      · rintro ⟨j, hj, h1, h2⟩
        rw [lon_set l i j hi] at h1
        split at h1
        · cases h1
        · exact ⟨j, hj, h1, h2⟩
      · rintro ⟨j, hj, h1, h2⟩
        refine ⟨j, hj, ?_, h2⟩
        rw [lon_set l i j hi, if_neg]
        · exact h1
        · intro e; subst e; exact ht h2
    by_cases hc : ∃ j, j ∈ L ∧ lon l j = false ∧ odst ops j = some t
    · rw [if_pos (this.2 hc), if_pos hc]
    · rw [if_neg (fun hh => hc (this.1 hh)), if_neg hc]
  refine ⟨?_, fun t ht => ?_, fun t ht => ?_, ?_⟩
  · unfold Act.put; cases o.dst <;> simp [h.size]
  · rw [hpo _ _ t ht, haa t (fun e => absurd (hlt i t (by rw [hodst]; exact e)) (Nat.not_lt.2 ht)), ← hpo l a t ht]; exact h.out t ht
  · by_cases e : o.dst = some t
    · have hp : pois ops L (l.setIfInBounds i true) a' t = a' t := by
        unfold pois
        rw [if_neg]
        rintro ⟨j, hj, h1, h2⟩
        rw [lon_set l i j hi] at h1
        split at h1
        · cases h1
        · rename_i hne
          exact hap j hj hne t h2 (by rw [hodst]; exact e)
      rw [hp]
      have : (act.put o.dst u).tmps.getD t undef = u := by
        rw [e]
        simp [Act.put, Array.getD_eq_getD_getElem?, Array.getElem?_setIfInBounds, h.size, ht]
      rw [this]
      exact hu t e
    · rw [hother t (by rw [hodst]; exact e)]
      have : (act.put o.dst u).tmps.getD t undef = act.tmps.getD t undef := by
        cases hd : o.dst with
        | none => rfl
        | some d =>
          rw [hd] at e
          have hne : d ≠ t := fun he => e (by rw [he])
          simp [Act.put, Array.getD_eq_getD_getElem?, Array.getElem?_setIfInBounds, hne]
      rw [this]
      exact h.rel t ht
  · unfold Act.put; cases o.dst <;> exact h.defers

theorem Step.realize {φ : Phi} {H : AHeap} {w : World} {G : Nat} (h : Step G B φ0 H0 w0 φ H w) (b : Nat) (hb : b < H.next) (hN : H0.next ≤ b) (hn : φ b = none) (o : Obj) (p : Place) (hp : p.blk = w.heap.size)
    (hB : BRel (φ.upd b (some (some p))) B (H.at_ b) p (w.alloc o)) : Step G B φ0 H0 w0 (φ.upd b (some (some p))) H (w.alloc o) where
  rel := h.rel.realize b hb hn o p hp hB
  next := h.next
  ext c hc := by rw [Phi.upd_ne _ _ (by omega)]; exact h.ext c hc
  os := h.os
  tape := h.tape
  output := h.output
  size := by simp; have := h.size; omega
  keep k hk hno := by
    rw [heap_alloc, if_neg (by have := h.size; omega)]
    exact h.keep k hk hno
  own k ho := by
    obtain ⟨c, q, h1, h2, h3⟩ := ho
    by_cases e : c = b
    · subst e
      rw [Phi.upd_same] at h1
      cases h1
      exact .inr (by have := h.size; omega)
    · rw [Phi.upd_ne _ _ e] at h1
      exact h.own k ⟨c, q, h1, h2, h3⟩

theorem at_of {pre suf : List (Nat × List Nat)} (hpg : planGo P ops [] pl = true) (hs : pl = pre ++ suf) {i : Nat} (hi : i ∈ pre.map (·.1)) :
    ∃ p1 R p2, pre = p1 ++ (i, R) :: p2 ∧ PlanFacts P ops (p1.map (·.1)) i R ((p2 ++ suf).map (·.1)) := by
  obtain ⟨p1, R, p2, rfl⟩ := split_at hi
  refine ⟨p1, R, p2, rfl, planFacts ?_⟩
  have := plan_at hpg p1 i R (p2 ++ suf) (by rw [hs]; simp)
  simpa using this

/-- Two different steps have different temporaries; none looks at one that is done behind it. -/
theorem apart_of {pre suf : List (Nat × List Nat)} (hpg : planGo P ops [] pl = true) (hs : pl = pre ++ suf) {i j : Nat} (hi : i ∈ pre.map (·.1)) (hj : j ∈ pre.map (·.1)) (hne : j ≠ i) : ∀ d, odst ops j = some d → odst ops i ≠ some d := by
  intro d hd he
  obtain ⟨p1, R, p2, rfl, F⟩ := at_of hpg hs hi
  simp only [List.map_append, List.map_cons, List.mem_append, List.mem_cons] at hj
  rcases hj with hj | rfl | hj
  · exact F.apart j hj d d hd he rfl
  · exact hne rfl
  · obtain ⟨q1, R', q2, rfl⟩ := split_at hj
    have F' := planFacts (plan_at hpg (p1 ++ (i, R) :: q1) j R' (q2 ++ suf) (by rw [hs]; simp))
    exact F'.apart i (by simp) d d he hd rfl

theorem look_on (hpg : planGo P ops [] pl = true) {pre suf : List (Nat × List Nat)} {l : Lst} {a : ATmps} {H : AHeap} {act : Act} {w : World} {φ : Phi} {nw : Nat → Prop} {bo : Nat → Nat}
    (D : DI P ops pl n N B φ0 H0 w0 pre suf l a H act w φ nw bo) {i : Nat} {R : List Nat} {p1 p2 : List (Nat × List Nat)} (F : PlanFacts P ops (p1.map (·.1)) i R (p2.map (·.1))) (hsub : ∀ j ∈ pre.map (·.1), j ∈ p1.map (·.1) ∨ j = i ∨ j ∈ p2.map (·.1))
    (hpr : ∀ p ∈ preds ops i, lon l p = true) : ∀ t ∈ olooks ops i, pois ops (pre.map (·.1)) l a t = a t := by
  intro t ht
  unfold pois
  rw [if_neg]
  rintro ⟨j, hj, h1, h2⟩
  rcases hsub j hj with h | h | h
  · have := reaches_on D.closed _ j i hpr (F.before j h t h2 ht)
    rw [h1] at this
    cases this
  · subst h
    exact F.self t h2 ht
  · have he := (F.looks j h t h2 ht).1
    have := D.effd j hj he
    rw [h1] at this
    cases this

theorem DI.setClosed {pre suf : List (Nat × List Nat)} {l : Lst} {i : Nat} (hi : i < l.size) (hcl : ∀ j, lon l j = true → ∀ p ∈ preds ops j, lon l p = true) (hpr : ∀ p ∈ preds ops i, lon l p = true) :
    ∀ j, lon (l.setIfInBounds i true) j = true → ∀ p ∈ preds ops j, lon (l.setIfInBounds i true) p = true := by
  intro j hj p hp
  rw [lon_set l i _ hi] at hj ⊢
  split
  · rfl
  · split at hj
    · rename_i e; subst e; exact hpr p hp
    · exact hcl j hj p hp

/-- A step that waits is done. -/
theorem exec_pend (hpg : planGo P ops [] pl = true) (hok : dstOk n ops = true) {pre suf : List (Nat × List Nat)} {l : Lst} {a : ATmps} {H : AHeap} {act : Act} {w : World} {φ : Phi} {nw : Nat → Prop} {bo : Nat → Nat}
    (D : DI P ops pl n N B φ0 H0 w0 pre suf l a H act w φ nw bo) {i : Nat} (hi : i ∈ pre.map (·.1)) (hil : i < ops.size) (hni : lon l i = false) (hpr : ∀ p ∈ preds ops i, lon l p = true) {next : Act → World → Prop} {Q : Exit → Act → World → Prop}
    (hk : ∀ act' w' φ', DI P ops pl n N B φ0 H0 w0 pre suf (l.setIfInBounds i true) a H act' w' φ' nw bo → next act' w') : wpOp P ops Q i next act w := by
  obtain ⟨p1, R, p2, hpre, F⟩ := at_of hpg D.split hi
  have his : i < l.size := by rw [D.size]; exact hil
  have hlook := look_on (p2 := p2 ++ suf) hpg D F (fun j hj => by
    rw [hpre] at hj
    simp only [List.map_append, List.map_cons, List.mem_append, List.mem_cons] at hj ⊢
    rcases hj with h | h | h
    · exact .inl h
    · exact .inr (.inl h)
    · exact .inr (.inr (.inl h))) hpr
  have hap : ∀ j ∈ pre.map (·.1), j ≠ i → ∀ d, odst ops j = some d → odst ops i ≠ some d := fun j hj hne => apart_of hpg D.split hi hj hne
  have hlon : ∀ j, lon (l.setIfInBounds i true) j = false → lon l j = false ∧ j ≠ i := by
    intro j hj
    rw [lon_set l i j his] at hj
    split at hj
    · cases hj
    · rename_i hne; exact ⟨hj, hne⟩
  by_cases hnw : nw i
  · -- it makes memory
    obtain ⟨⟨o, blk, v, ho, hc, hnew, h1, h2, h3⟩, hphi, hN, hbn⟩ := D.pendN i hi hni hnw
    have hG := looks_congr (a := a) (a' := pois ops (pre.map (·.1)) l a) ho (fun t ht => (hlook t ht).symm) (hnew ⟨bo i, H.at_⟩ rfl)
    unfold wpOp
    simp only [ho]
    have hat := D.tmps
    have main : ∀ (hK : aopK P o.op (pois ops (pre.map (·.1)) l a) ⟨bo i, H.at_⟩ fun u H' => u = v ∧ H' = (⟨bo i, H.at_⟩ : AHeap).alloc blk), o.wp P act w next Q := by
      intro hK
      obtain ⟨blk', val, ⟨e1, e2⟩, e3, e4, e5⟩ := new_out hc hK
      have hblk : blk' = blk := by
        have := congrArg (fun H : AHeap => H.at_ (bo i)) e2
        simpa [AHeap.alloc] using this
      subst hblk
      obtain ⟨u, ob, p, g1, g2, g3⟩ := e5 D.step.rel hat
      have hv : val (bo i) = v := e1
      obtain ⟨g4, g5⟩ := g3 (φ.upd (bo i) (some (some p))) (bo i) (Phi.upd_le hphi) (by simp)
      refine wp_val g1 (hk _ _ (φ.upd (bo i) (some (some p))) ?_)
      refine ⟨D.split, by simp [D.size], fun j hj => ?_, fun j hj he => ?_, DI.setClosed (pre := pre) (suf := suf) his D.closed hpr, fun j hj hjl hnj => D.pendQ j hj (hlon j hjl).1 hnj, fun j hj hjl hnj => ?_, fun j hj hjl hnj k hkk hkl hnk => D.uniq j hj (hlon j hjl).1 hnj k hkk (hlon k hkl).1 hnk, ?_, D.base, ?_⟩
      · rw [lon_set l i j his] at hj
        split at hj
        · rename_i e; subst e; exact hi
        · exact D.sub j hj
      · rw [lon_set l i j his]
        split
        · rfl
        · exact D.effd j hj he
      · obtain ⟨k1, k2, k3, k4⟩ := D.pendN j hj (hlon j hjl).1 hnj
        refine ⟨k1, ?_, k3, k4⟩
        rw [Phi.upd_ne _ _ (fun e => (hlon j hjl).2 (D.uniq j hj (hlon j hjl).1 hnj i hi hni hnw e))]
        exact k2
      · exact Step.realize D.step (bo i) hbn (by rw [← D.base]; exact hN) hphi ob p g2 (by rw [h1]; exact g5)
      · refine ATRel.pois_put hok (hat.mono (Phi.upd_le hphi)) ho his hap (fun _ _ => rfl) fun d hd => ?_
        rw [← h3 d hd, ← hv]
        exact g4
    unfold aopG at hG
    split at hG
    · rename_i hg
      have hw : Region.wanted o (yielded ops act.tmps) = true := by simp [Region.wanted, hg]
      rw [if_pos hw]
      exact .inl (main hG)
    · rename_i j want hg
      unfold aGuardK at hG
      split at hG
      · rename_i b hb
        have hy := gval_rel hat hok hb
        split at hG
        · rename_i hbw
          subst hbw
          have hw : Region.wanted o (yielded ops act.tmps) = true := by simp [Region.wanted, hg, hy]
          rw [if_pos hw]
          exact .inl (main hG)
        · have := congrArg AHeap.next hG.2
          simp [AHeap.alloc] at this
      · have := congrArg AHeap.next hG.2
        simp [AHeap.alloc] at this
      · exact hG.elim
  · obtain ⟨o, ho, hq⟩ := D.pendQ i hi hni hnw
    have hq' := looks_congr (a := a) (a' := pois ops (pre.map (·.1)) l a) ho (fun t ht => (hlook t ht).symm) hq
    refine opG_sound hok ho hq' D.step.rel D.tmps fun v H' φ' w' u hv hst hvr => ?_
    obtain ⟨rfl, hv⟩ := hv
    refine hk _ _ φ' ⟨D.split, by simp [D.size], fun j hj => ?_, fun j hj he => ?_, DI.setClosed (pre := pre) (suf := suf) his D.closed hpr, fun j hj hjl hnj => D.pendQ j hj (hlon j hjl).1 hnj, fun j hj hjl hnj => ?_, fun j hj hjl hnj k hkk hkl hnk => D.uniq j hj (hlon j hjl).1 hnj k hkk (hlon k hkl).1 hnk, D.step.trans hst, D.base, ?_⟩
    · rw [lon_set l i j his] at hj
      split at hj
      · rename_i e; subst e; exact hi
      · exact D.sub j hj
    · rw [lon_set l i j his]
      split
      · rfl
      · exact D.effd j hj he
    · obtain ⟨k1, k2, k3, k4⟩ := D.pendN j hj (hlon j hjl).1 hnj
      exact ⟨k1, (hst.ext _ k4).trans k2, k3, k4⟩
    · exact ATRel.pois_put hok (D.tmps.mono (hst.le D.step.rel)) ho his hap (fun _ _ => rfl) fun d hd => by rw [← hv d hd]; exact hvr
end
end Go.Abs
