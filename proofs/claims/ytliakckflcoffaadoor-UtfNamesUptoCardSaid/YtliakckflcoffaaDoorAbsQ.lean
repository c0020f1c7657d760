/- Regions whose order is drawn: effects, and the whole. -/
import Derived.Test.YtliakckflcoffaaDoorAbsP
set_option linter.unusedVariables false
set_option linter.unusedSimpArgs false
namespace Go.Abs
open Go

section
variable {P : Program} {ops : Array Oper} {pl : List (Nat × List Nat)} {n N B : Nat} {φ0 : Phi} {H0 : AHeap} {w0 : World}

theorem aput_ne {a : ATmps} {d : Option Tmp} {v : Value} {t : Tmp} (h : d ≠ some t) : aput a d v t = a t := by
  cases d with
  | none => rfl
  | some d => simp only [aput, beq_ne (fun e => h (by rw [e]) : t ≠ d)]
theorem aput_same {a : ATmps} {d : Tmp} {v : Value} : aput a (some d) v d = v := by
  have : Nat.beq d d = true := Nat.beq_refl d
  simp only [aput, this]

/-- What was done here and waits there, behind a step here. -/
theorem looks_before (hpg : planGo P ops [] pl = true) {pre suf : List (Nat × List Nat)} {i : Nat} {R : List Nat} (hs : pl = pre ++ (i, R) :: suf) {j : Nat} (hj : j ∈ pre.map (·.1)) {o : Oper} (ho : ops[i]? = some o) {a : ATmps} {v : Value} (hnp : isEff P ops i = true → reaches ops ops.size j i = true → False) :
    (∀ t ∈ olooks ops j, a t = aput a o.dst v t) ∧ ∀ d, odst ops j = some d → aput a o.dst v d = a d := by
  have hdi : odst ops i = o.dst := by simp [odst, ho]
  obtain ⟨p1, R', p2, rfl⟩ := split_at hj
  have F := planFacts (plan_at hpg p1 j R' (p2 ++ (i, R) :: suf) (by rw [hs]; simp))
  have F' := planFacts (plan_at hpg (p1 ++ (j, R') :: p2) i R suf (by rw [hs]))
  refine ⟨fun t ht => (aput_ne fun e => ?_).symm, fun d hd => aput_ne fun e => ?_⟩
  · obtain ⟨e1, e2⟩ := F.looks i (by simp) t (by rw [hdi]; exact e) ht
    exact hnp e1 e2
  · exact F'.apart j (by simp) d d hd (by rw [hdi]; exact e) rfl

theorem pois_snoc_on {L : List Nat} {l : Lst} {i : Nat} {a : ATmps} (h : lon l i = true) : pois ops (L ++ [i]) l a = pois ops L l a := by
  funext t
  unfold pois
  have : (∃ j, j ∈ L ++ [i] ∧ lon l j = false ∧ odst ops j = some t) ↔ (∃ j, j ∈ L ∧ lon l j = false ∧ odst ops j = some t) := by
    constructor
    · rintro ⟨j, hj, h1, h2⟩
      rcases List.mem_append.1 hj with hj | hj
      · exact ⟨j, hj, h1, h2⟩
      · simp at hj; subst hj; rw [h] at h1; cases h1
    · rintro ⟨j, hj, h1, h2⟩
      exact ⟨j, List.mem_append.2 (.inl hj), h1, h2⟩
  by_cases hc : ∃ j, j ∈ L ∧ lon l j = false ∧ odst ops j = some t
  · rw [if_pos (this.2 hc), if_pos hc]
  · rw [if_neg (fun hh => hc (this.1 hh)), if_neg hc]

/-- The effect that stands next is done. -/
theorem exec_eff (hpg : planGo P ops [] pl = true) (hok : dstOk n ops = true) {K : ATmps → AHeap → Prop} {pre suf : List (Nat × List Nat)} {i : Nat} {R : List Nat} {l : Lst} {a : ATmps} {H : AHeap} {act : Act} {w : World} {φ : Phi} {nw : Nat → Prop} {bo : Nat → Nat}
    (D : DI P ops pl n N B φ0 H0 w0 pre ((i, R) :: suf) l a H act w φ nw bo) (hcps : awpDraw P ops ((i, R) :: suf) a H K) (he : isEff P ops i = true) (hil : i < ops.size) (hpr : ∀ p ∈ preds ops i, lon l p = true) {next : Act → World → Prop} {Q : Exit → Act → World → Prop}
    (hk : ∀ v H' act' w' φ', awpDraw P ops suf (aput a (odst ops i) v) H' K → DI P ops pl n N B φ0 H0 w0 (pre ++ [(i, R)]) suf (l.setIfInBounds i true) (aput a (odst ops i) v) H' act' w' φ' nw bo → next act' w') : wpOp P ops Q i next act w := by
  have F := planFacts (plan_at hpg pre i R suf D.split)
  have his : i < l.size := by rw [D.size]; exact hil
  simp only [List.nil_append] at F
  have hlook := look_on (p1 := pre) (p2 := suf) hpg D F (fun j hj => .inl hj) hpr
  simp only [awpDraw] at hcps
  split at hcps
  · exact hcps.elim
  · rename_i o ho
    have hdi : odst ops i = o.dst := by simp [odst, ho]
    rw [hdi] at hk
    have hG : aopG P ops o a H fun v H' => (∀ q ∈ R, stable P ops q a H H') ∧ awpDraw P ops suf (aput a o.dst v) H' K := by
      have hm : ∀ (v : Value) (H' : AHeap), aStab P ops R a H H' (awpDraw P ops suf (aput a o.dst v) H' K) → (∀ q ∈ R, stable P ops q a H H') ∧ awpDraw P ops suf (aput a o.dst v) H' K := by
        intro v H' h
        obtain ⟨h1, h2⟩ := aStab_out h
        exact ⟨stables_mem h1, h2⟩
      unfold aopG at hcps ⊢
      split at hcps
      · exact aopK_mono hcps hm
      · unfold aGuardK at hcps ⊢
        split at hcps
        · rename_i b hb
          split at hcps
          · rename_i hbw; simp only [hb, if_pos hbw]; exact aopK_mono hcps hm
          · rename_i hbw; simp only [hb, if_neg hbw]; exact hm _ _ hcps
        · rename_i vs hb; simp only [hb]; exact hm _ _ hcps
        · exact hcps.elim
    have hG' := looks_congr (a := a) (a' := pois ops (pre.map (·.1)) l a) ho (fun t ht => (hlook t ht).symm) hG
    have hlon : ∀ j, lon (l.setIfInBounds i true) j = false → lon l j = false ∧ j ≠ i := by
      intro j hj
      rw [lon_set l i j his] at hj
      split at hj
      · cases hj
      · rename_i hne; exact ⟨hj, hne⟩
    refine opG_sound hok ho hG' D.step.rel D.tmps fun v H' φ' w' u hv hst hvr => ?_
    obtain ⟨hstab, hrest⟩ := hv
    have hpreR : ∀ j ∈ pre.map (·.1), lon l j = false → isEff P ops j = false := by
      intro j hj hl
      cases hje : isEff P ops j with
      | false => rfl
      | true => have := D.effd j hj hje; rw [hl] at this; cases this
    have hstable : ∀ j ∈ pre.map (·.1), lon l j = false → isReadNew P ops j = true → stable P ops j a H H' := by
      intro j hj hl hrn
      rcases F.again he j hj hrn with h | h
      · exact hstab j h
      · have := reaches_on D.closed _ j i hpr h
        rw [hl] at this
        cases this
    have hmem : ∀ j, j ∈ (pre ++ [(i, R)]).map (·.1) → lon (l.setIfInBounds i true) j = false → j ∈ pre.map (·.1) ∧ lon l j = false := by
      intro j hj hl
      obtain ⟨h1, h2⟩ := hlon j hl
      simp only [List.map_append, List.map_cons, List.map_nil, List.mem_append, List.mem_singleton] at hj
      rcases hj with hj | hj
      · exact ⟨hj, h1⟩
      · exact absurd hj h2
    refine hk v H' _ w' φ' hrest ⟨by rw [D.split]; simp, by simp [D.size], fun j hj => ?_, fun j hj hje => ?_, DI.setClosed (pre := pre) (suf := suf) his D.closed hpr, fun j hj hjl hnj => ?_, fun j hj hjl hnj => ?_, fun j hj hjl hnj k hkk hkl hnk => ?_, D.step.trans hst, D.base, ?_⟩
    · rw [lon_set l i j his] at hj
      simp only [List.map_append, List.map_cons, List.map_nil, List.mem_append, List.mem_singleton]
      split at hj
      · rename_i e; exact .inr e
      · exact .inl (D.sub j hj)
    · rw [lon_set l i j his]
      split
      · rfl
      · rename_i hne
        simp only [List.map_append, List.map_cons, List.map_nil, List.mem_append, List.mem_singleton] at hj
        rcases hj with hj | hj
        · exact D.effd j hj hje
        · exact absurd hj hne
    · obtain ⟨h1, h2⟩ := hmem j hj hjl
      obtain ⟨k1, k2⟩ := looks_before (v := v) (a := a) hpg D.split h1 ho (fun _ hre => by have := reaches_on D.closed _ j i hpr hre; rw [h2] at this; cases this)
      exact ((D.pendQ j h1 h2 hnj).eff (hpreR j h1 h2) (hstable j h1 h2)).put k1 k2
    · obtain ⟨h1, h2⟩ := hmem j hj hjl
      obtain ⟨g1, g2, g3, g4⟩ := D.pendN j h1 h2 hnj
      obtain ⟨k1, k2⟩ := looks_before (v := v) (a := a) hpg D.split h1 ho (fun _ hre => by have := reaches_on D.closed _ j i hpr hre; rw [h2] at this; cases this)
      have hrn : isReadNew P ops j = true := by
        obtain ⟨oj, _, _, hoj, hcj, _⟩ := g1
        simp [isReadNew, hoj, hcj]
      exact ⟨(g1.eff (hstable j h1 h2 hrn)).put k1 k2, (hst.ext _ g4).trans g2, g3, Nat.lt_of_lt_of_le g4 hst.next⟩
    · obtain ⟨h1, h2⟩ := hmem j hj hjl
      obtain ⟨h3, h4⟩ := hmem k hkk hkl
      exact D.uniq j h1 h2 hnj k h3 h4 hnk
    · simp only [List.map_append, List.map_cons, List.map_nil]
      rw [pois_snoc_on (by rw [lon_set l i i his, if_pos rfl])]
      refine ATRel.pois_put hok (D.tmps.mono (hst.le D.step.rel)) ho his (fun j hj hne d hd hd' => ?_) (fun t ht => aput_ne ht) fun d hd => ?_
      · exact F.apart j hj d d hd hd' rfl
      · rw [hd, aput_same]; exact hvr
end
end Go.Abs
