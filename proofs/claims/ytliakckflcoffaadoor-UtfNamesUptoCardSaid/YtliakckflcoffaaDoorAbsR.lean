/- Regions whose order is drawn: all of it. -/
import Derived.Test.YtliakckflcoffaaDoorAbsQ
set_option linter.unusedVariables false
set_option linter.unusedSimpArgs false
namespace Go.Abs
open Go

section
variable {P : Program} {ops : Array Oper} {pl : List (Nat × List Nat)} {n N B : Nat} {φ0 : Phi} {H0 : AHeap} {w0 : World}

theorem pois_snoc_off (hok : True) {L : List Nat} {l : Lst} {i : Nat} {o : Oper} (ho : ops[i]? = some o) (hi : lon l i = false) {a : ATmps} {v : Value} {φ : Phi} {act : Act} (hdst : dstOk n ops = true) (h : ATRel φ n (pois ops L l a) act) : ATRel φ n (pois ops (L ++ [i]) l (aput a o.dst v)) act := by
  have hdi : odst ops i = o.dst := by simp [odst, ho]
  have hlt : ∀ j d, odst ops j = some d → d < n := by
    intro j d hd
    unfold odst at hd
    obtain ⟨oj, hj, hd⟩ := Option.bind_eq_some_iff.1 hd
    exact dstOk_at hdst hj hd
  refine ⟨h.size, fun t ht => ?_, fun t ht => ?_, h.defers⟩
  · have h0 := h.out t ht
    unfold pois at h0 ⊢
    rw [if_neg (by rintro ⟨j, _, _, hd⟩; exact absurd (hlt j t hd) (Nat.not_lt.2 ht))] at h0
    rw [if_neg (by rintro ⟨j, _, _, hd⟩; exact absurd (hlt j t hd) (Nat.not_lt.2 ht)), aput_ne (fun e => absurd (hlt i t (by rw [hdi]; exact e)) (Nat.not_lt.2 ht))]
    exact h0
  · unfold pois
    split
    · exact .top
    · rename_i hno
      have hne : o.dst ≠ some t := fun e => hno ⟨i, by simp, hi, by rw [hdi]; exact e⟩
      rw [aput_ne hne]
      have := h.rel t ht
      unfold pois at this
      rw [if_neg] at this
      · exact this
      · rintro ⟨j, hj, h1, h2⟩
        exact hno ⟨j, List.mem_append.2 (.inl hj), h1, h2⟩

/-- Done here ahead: all that is quiet, up to the next effect. -/
theorem advance (hpg : planGo P ops [] pl = true) (hok : dstOk n ops = true) {K : ATmps → AHeap → Prop} : ∀ (suf pre : List (Nat × List Nat)) {l : Lst} {a : ATmps} {H : AHeap} {act : Act} {w : World} {φ : Phi} {nw : Nat → Prop} {bo : Nat → Nat},
    DI P ops pl n N B φ0 H0 w0 pre suf l a H act w φ nw bo → awpDraw P ops suf a H K →
    ∃ pre' suf' a' H' nw' bo', DI P ops pl n N B φ0 H0 w0 pre' suf' l a' H' act w φ nw' bo' ∧ awpDraw P ops suf' a' H' K ∧ (suf' = [] ∨ ∃ i R r, suf' = (i, R) :: r ∧ isEff P ops i = true)
  | [], pre, l, a, H, act, w, φ, nw, bo, D, h => ⟨pre, [], a, H, nw, bo, D, h, .inl rfl⟩
  | (i, R) :: suf, pre, l, a, H, act, w, φ, nw, bo, D, h => by
    cases he : isEff P ops i with
    | true => exact ⟨pre, (i, R) :: suf, a, H, nw, bo, D, h, .inr ⟨i, R, suf, rfl, he⟩⟩
    | false =>
      have F := planFacts (plan_at hpg pre i R suf D.split)
      simp only [List.nil_append] at F
      have hnl : lon l i = false := by
        cases hl : lon l i with
        | false => rfl
        | true => exact absurd (D.sub i hl) F.once
      simp only [awpDraw] at h
      split at h
      · exact h.elim
      · rename_i o ho
        have hdi : odst ops i = o.dst := by simp [odst, ho]
        have hne : cls P o.op ≠ .eff := not_eff ho he
        have hsplit : pl = (pre ++ [(i, R)]) ++ suf := by rw [D.split]; simp
        have hmem : ∀ j, j ∈ (pre ++ [(i, R)]).map (·.1) ↔ j ∈ pre.map (·.1) ∨ j = i := by intro j; simp
        have hlook : ∀ t ∈ olooks ops i, ∀ v, a t = aput a o.dst v t := fun t ht v => (aput_ne fun e => F.self t (by rw [hdi]; exact e) ht).symm
        have hni : ∀ j ∈ pre.map (·.1), j ≠ i := fun j hj e => F.once (e ▸ hj)
        have hpne : ∀ j ∈ pre.map (·.1), lon l j = false → isEff P ops j = false := by
          intro j hj hl
          cases hje : isEff P ops j with
          | false => rfl
          | true => have := D.effd j hj hje; rw [hl] at this; cases this
        -- nothing is made
        have quiet : ∀ v, awpDraw P ops suf (aput a o.dst v) H K → (∀ (K2 : Value → AHeap → Prop), K2 v H → aopG P ops o a H K2) →
            ∃ pre' suf' a' H' nw' bo', DI P ops pl n N B φ0 H0 w0 pre' suf' l a' H' act w φ nw' bo' ∧ awpDraw P ops suf' a' H' K ∧ (suf' = [] ∨ ∃ i R r, suf' = (i, R) :: r ∧ isEff P ops i = true) := by
          intro v hrest hop
          refine advance hpg hok suf (pre ++ [(i, R)]) (nw := fun j => j ≠ i ∧ nw j) (bo := bo) ⟨hsplit, D.size, fun j hj => (hmem j).2 (.inl (D.sub j hj)), fun j hj hje => ?_, D.closed, fun j hj hjl hnj => ?_, fun j hj hjl hnj => ?_, fun j hj hjl hnj k hkk hkl hnk => ?_, D.step, D.base, ?_⟩ hrest
          · rcases (hmem j).1 hj with hj | rfl
            · exact D.effd j hj hje
            · rw [he] at hje; cases hje
          · rcases (hmem j).1 hj with hj | rfl
            · obtain ⟨k1, k2⟩ := looks_before (v := v) (a := a) hpg D.split hj ho (fun hh => by rw [he] at hh; cases hh)
              exact (D.pendQ j hj hjl fun hh => hnj ⟨hni j hj, hh⟩).put k1 k2
            · exact ⟨o, ho, looks_congr ho (fun t ht => hlook t ht v) (hop _ ⟨rfl, fun d hd => by rw [hd, aput_same]⟩)⟩
          · rcases (hmem j).1 hj with hj | rfl
            · obtain ⟨g1, g2⟩ := D.pendN j hj hjl hnj.2
              obtain ⟨k1, k2⟩ := looks_before (v := v) (a := a) hpg D.split hj ho (fun hh => by rw [he] at hh; cases hh)
              exact ⟨g1.put k1 k2, g2⟩
            · exact absurd rfl hnj.1
          · rcases (hmem j).1 hj with hj | rfl
            · rcases (hmem k).1 hkk with hkk | rfl
              · exact D.uniq j hj hjl hnj.2 k hkk hkl hnk.2
              · exact absurd rfl hnk.1
            · exact absurd rfl hnj.1
          · simp only [List.map_append, List.map_cons, List.map_nil]
            exact pois_snoc_off trivial ho hnl hok D.tmps
        cases hc : cls P o.op with
        | eff => exact absurd hc hne
        | pure =>
          obtain ⟨v, h1, h2⟩ := aopG_quiet (by simp [hc]) (by simp [hc]) h
          exact quiet v (aStab_out h1).2 h2
        | read =>
          obtain ⟨v, h1, h2⟩ := aopG_quiet (by simp [hc]) (by simp [hc]) h
          exact quiet v (aStab_out h1).2 h2
        | new =>
          rcases aopG_new hc h with ⟨h1, h2⟩ | ⟨blk, val, h1, h2, h3⟩
          · exact quiet undef (aStab_out h1).2 (fun K2 hK2 => h2 H K2 hK2)
          · have hw := D.step.rel.wf H.next (Nat.le_refl _)
            have hfr : φ H.next = none := by
              cases e : φ H.next with
              | none => rfl
              | some q => have := D.step.rel.dom _ _ e; omega
            have hat : ∀ b, b < H.next → (H.alloc blk).at_ b = H.at_ b := fun b hb => AHeap.at_alloc_ne _ _ (Nat.ne_of_lt hb)
            refine advance hpg hok suf (pre ++ [(i, R)]) (nw := fun j => j = i ∨ nw j) (bo := fun j => if j = i then H.next else bo j) ⟨hsplit, D.size, fun j hj => (hmem j).2 (.inl (D.sub j hj)), fun j hj hje => ?_, D.closed, fun j hj hjl hnj => ?_, fun j hj hjl hnj => ?_, fun j hj hjl hnj k hkk hkl hnk e => ?_, D.step.trans (Step.reserve D.step.rel blk), D.base, ?_⟩ (aStab_out h1).2
            · rcases (hmem j).1 hj with hj | rfl
              · exact D.effd j hj hje
              · rw [he] at hje; cases hje
            · rcases (hmem j).1 hj with hj | rfl
              · obtain ⟨k1, k2⟩ := looks_before (v := val H.next) (a := a) hpg D.split hj ho (fun hh => by rw [he] at hh; cases hh)
                exact ((D.pendQ j hj hjl fun hh => hnj (.inr hh)).alloc hw blk (hpne j hj hjl)).put k1 k2
              · exact absurd (.inl rfl) hnj
            · rcases (hmem j).1 hj with hj | rfl
              · have hji := hni j hj
                have hnj' : nw j := by rcases hnj with h | h; exact absurd h hji; exact h
                obtain ⟨g1, g2, g3, g4⟩ := D.pendN j hj hjl hnj'
                obtain ⟨k1, k2⟩ := looks_before (v := val H.next) (a := a) hpg D.split hj ho (fun hh => by rw [he] at hh; cases hh)
                simp only [if_neg hji]
                refine ⟨PendN.put ?_ k1 k2, g2, g3, by simp; omega⟩
                obtain ⟨oj, bj, vj, q1, q2, q3, q4, q5, q6⟩ := g1
                exact ⟨oj, bj, vj, q1, q2, q3, by rw [hat _ g4]; exact q4, q5, q6⟩
              · simp only [if_pos rfl]
                refine ⟨⟨o, blk, val H.next, ho, hc, fun H2 hH2 => looks_congr ho (fun t ht => hlook t ht _) (h3 H2 _ ⟨by rw [hH2]; simp, rfl⟩), by simp, h2 _, fun d hd => by rw [hd, aput_same]⟩, hfr, by rw [D.base]; exact D.step.next, by simp⟩
            · have hcase : ∀ m, m ∈ (pre ++ [(i, R)]).map (·.1) → lon l m = false → (m = i ∨ nw m) → (m = i ∧ (if m = i then H.next else bo m) = H.next) ∨ (m ∈ pre.map (·.1) ∧ m ≠ i ∧ nw m ∧ (if m = i then H.next else bo m) = bo m ∧ bo m < H.next) := by
                intro m hm hml hnm
                rcases (hmem m).1 hm with hm1 | hm1
                · have hmi := hni m hm1
                  have hnm' : nw m := by rcases hnm with h | h; exact absurd h hmi; exact h
                  exact .inr ⟨hm1, hmi, hnm', if_neg hmi, (D.pendN m hm1 hml hnm').2.2.2⟩
                · exact .inl ⟨hm1, if_pos hm1⟩
              rcases hcase j hj hjl hnj with ⟨e1, e2⟩ | ⟨q1, q2, q3, q4, q5⟩ <;> rcases hcase k hkk hkl hnk with ⟨f1, f2⟩ | ⟨p1, p2, p3, p4, p5⟩
              · rw [e1, f1]
              · have e' : H.next = bo k := e2.symm.trans (e.trans p4)
                omega
              · have e' : bo j = H.next := q4.symm.trans (e.trans f2)
                omega
              · have e' : bo j = bo k := q4.symm.trans (e.trans p4)
                exact D.uniq j q1 hjl q3 k p1 hkl p3 e'
            · simp only [List.map_append, List.map_cons, List.map_nil]
              exact pois_snoc_off trivial ho hnl hok D.tmps

/-- How many are not done. -/
def unl (l : Lst) : Nat := l.toList.countP fun b => !b
theorem countP_set (l : List Bool) (i : Nat) (hi : l[i]? = some false) : (l.set i true).countP (fun b => !b) + 1 = l.countP fun b => !b := by
  induction l generalizing i with
  | nil => simp at hi
  | cons x l ih =>
    cases i with
    | zero =>
      simp only [List.getElem?_cons_zero, Option.some.injEq] at hi
      subst hi
      simp
    | succ i =>
      simp only [List.getElem?_cons_succ] at hi
      simp only [List.set_cons_succ, List.countP_cons]
      have := ih i hi
      omega
theorem unl_set {l : Lst} {i : Nat} (hi : i < l.size) (h : lon l i = false) : unl (l.setIfInBounds i true) + 1 = unl l := by
  unfold unl
  rw [Array.toList_setIfInBounds]
  refine countP_set l.toList i ?_
  unfold lon at h
  rw [Array.getD_eq_getD_getElem?, Array.getElem?_eq_getElem hi] at h
  rw [Array.getElem?_toList, Array.getElem?_eq_getElem hi]
  simpa using h
theorem unl_zero {l : Lst} (h : unl l = 0) {i : Nat} (hi : i < l.size) : lon l i = true := by
  unfold unl at h
  rw [List.countP_eq_zero] at h
  have := h l[i] (by simp)
  unfold lon
  rw [Array.getD_eq_getD_getElem?, Array.getElem?_eq_getElem hi]
  simpa using this

theorem planOk_facts (h : planOk P ops pl = true) : planGo P ops [] pl = true ∧ (∀ i, i < ops.size → i ∈ pl.map (·.1)) ∧ pl.length = ops.size := by
  simp only [planOk, Bool.and_eq_true, List.all_eq_true, List.contains_iff_mem, beq_iff_eq, List.mem_range] at h
  exact ⟨h.2, h.1.2, h.1.1⟩

/-- In whatever order. -/
theorem draw_sound (hp : planOk P ops pl = true) (hok : dstOk n ops = true) {K : ATmps → AHeap → Prop} {Q : Exit → Act → World → Prop}
    (hk : ∀ a' H' φ' act' w', K a' H' → Step P.globals.size B φ0 H0 w0 φ' H' w' → ATRel φ' n a' act' → Q .normal act' w') :
    ∀ (fuel : Nat) (pre suf : List (Nat × List Nat)) (l : Lst) (a : ATmps) (H : AHeap) (act : Act) (w : World) (φ : Phi) (nw : Nat → Prop) (bo : Nat → Nat),
    unl l = fuel → DI P ops pl n N B φ0 H0 w0 pre suf l a H act w φ nw bo → awpDraw P ops suf a H K → wpAny P .any ops Q fuel l act w := by
  obtain ⟨hpg, hall, hlen⟩ := planOk_facts hp
  intro fuel
  induction fuel with
  | zero =>
    intro pre suf l a H act w φ nw bo hf D hcps
    have hon : ∀ i, i < ops.size → lon l i = true := fun i hi => unl_zero hf (by rw [D.size]; exact hi)
    refine ⟨?_, ?_⟩
    · cases hr : Region.ready .any ops l with
      | nil => rfl
      | cons i r =>
        obtain ⟨h1, h2, _⟩ := mem_ready D.size (i := i) (by rw [hr]; simp)
        rw [hon i h1] at h2
        cases h2
    · -- all is done
      have hsuf : suf = [] := by
        cases suf with
        | nil => rfl
        | cons x r =>
          obtain ⟨i, R⟩ := x
          have F := planFacts (plan_at hpg pre i R r D.split)
          simp only [List.nil_append] at F
          simp only [awpDraw] at hcps
          split at hcps
          · exact hcps.elim
          · rename_i o ho
            have hi : i < ops.size := (Array.getElem?_eq_some_iff.1 ho).1
            exact absurd (D.sub i (hon i hi)) F.once
      subst hsuf
      refine hk a H φ act w hcps D.step ?_
      have : pois ops (pre.map (·.1)) l a = a := by
        funext t
        unfold pois
        rw [if_neg]
        rintro ⟨i, _, h1, h2⟩
        unfold odst at h2
        obtain ⟨o, ho, _⟩ := Option.bind_eq_some_iff.1 h2
        rw [hon i (Array.getElem?_eq_some_iff.1 ho).1] at h1
        cases h1
      have h2 := D.tmps
      rwa [this] at h2
  | succ fuel ih =>
    intro pre suf l a H act w φ nw bo hf D hcps
    -- something is ready
    have hex : ∃ i, i ∈ Region.ready .any ops l := by
      have hun : ∃ p1 i R p2, pl = p1 ++ (i, R) :: p2 ∧ lon l i = false ∧ ∀ j ∈ p1.map (·.1), lon l j = true := by
        have key : ∀ (r p1 : List (Nat × List Nat)), pl = p1 ++ r → (∀ j ∈ p1.map (·.1), lon l j = true) → (∃ j ∈ r.map (·.1), lon l j = false) → ∃ p1 i R p2, pl = p1 ++ (i, R) :: p2 ∧ lon l i = false ∧ ∀ j ∈ p1.map (·.1), lon l j = true := by
          intro r
          induction r with
          | nil => intro p1 _ _ h; simp at h
          | cons x r ihr =>
            intro p1 hs hon hex
            obtain ⟨i, R⟩ := x
            cases hl : lon l i with
            | false => exact ⟨p1, i, R, r, hs, hl, hon⟩
            | true =>
              refine ihr (p1 ++ [(i, R)]) (by rw [hs]; simp) (fun j hj => ?_) ?_
              · simp only [List.map_append, List.map_cons, List.map_nil, List.mem_append, List.mem_singleton] at hj
                rcases hj with hj | rfl
                · exact hon j hj
                · exact hl
              · obtain ⟨j, hj, hjl⟩ := hex
                simp only [List.map_cons, List.mem_cons] at hj
                rcases hj with rfl | hj
                · rw [hl] at hjl; cases hjl
                · exact ⟨j, hj, hjl⟩
        refine key pl [] rfl (by simp) ?_
        have : unl l ≠ 0 := by omega
        unfold unl at this
        rw [Ne, List.countP_eq_zero] at this
        simp only [Bool.not_eq_eq_eq_not, Bool.not_true, Classical.not_forall] at this
        obtain ⟨b, hb, hb2⟩ := this
        obtain ⟨i, hi⟩ := List.getElem?_of_mem hb
        have hb' : b = false := by simpa using hb2
        subst hb'
        have his : i < l.size := by rw [Array.getElem?_toList] at hi; exact (Array.getElem?_eq_some_iff.1 hi).1
        refine ⟨i, hall i (by rw [← D.size]; exact his), ?_⟩
        unfold lon
        rw [Array.getElem?_toList] at hi
        rw [Array.getD_eq_getD_getElem?, hi]
        rfl
      obtain ⟨p1, i, R, p2, hs, hl, hon⟩ := hun
      have F := planFacts (plan_at hpg p1 i R p2 hs)
      simp only [List.nil_append] at F
      have hi : i < ops.size := F.lt
      exact ⟨i, ready_mem D.size hi hl fun p hp => hon p (F.preds p hp)⟩
    refine ⟨fun hnil => by obtain ⟨i, hi⟩ := hex; rw [hnil] at hi; simp at hi, fun i hi => ?_⟩
    obtain ⟨hil, hni, hpr⟩ := mem_ready D.size hi
    have his : i < l.size := by rw [D.size]; exact hil
    have hfu : unl (l.setIfInBounds i true) = fuel := by have := unl_set his hni; omega
    obtain ⟨pre', suf', a', H', nw', bo', D', hcps', hhead⟩ := advance hpg hok suf pre D hcps
    have himem : i ∈ pl.map (·.1) := hall i hil
    rw [D'.split, List.map_append, List.mem_append] at himem
    rcases himem with hip | his'
    · exact exec_pend hpg hok D' hip hil hni hpr fun act' w' φ' D2 => ih pre' suf' _ a' H' act' w' φ' nw' bo' hfu D2 hcps'
    · rcases hhead with rfl | ⟨h, R, r, rfl, he⟩
      · simp at his'
      · have hih : i = h := by
          simp only [List.map_cons, List.mem_cons] at his'
          rcases his' with rfl | his'
          · rfl
          · obtain ⟨r1, R', r2, rfl⟩ := split_at his'
            have F := planFacts (plan_at hpg (pre' ++ (h, R) :: r1) i R' r2 (by rw [D'.split]; simp))
            have hr := F.eff h (by simp) he
            have hon := reaches_on D'.closed _ h i hpr hr
            have Fh := planFacts (plan_at hpg pre' h R (r1 ++ (i, R') :: r2) D'.split)
            simp only [List.nil_append] at Fh
            exact absurd (D'.sub h hon) Fh.once
        subst hih
        exact exec_eff hpg hok D' hcps' he hil hpr fun v H2 act' w' φ' hc2 D2 => ih _ r _ _ H2 act' w' φ' nw' bo' hfu D2 hc2
end
end Go.Abs
