/- Contracts of functions that the statement reaches; each theorem carries its own conditions, the last theorem of the claim has none. -/
import Derived.Test.YtngldjajfpbmbaaMG
set_option linter.unusedVariables false
set_option linter.unusedSimpArgs false
namespace Go.Proofs.Ytngldjajfpbmbaa.A
open Go Go.Abs

theorem c27 {H : AHeap} {p : Nat} {m : Sm} {F : Nat → Prop} (h : RS H p m F) (hl : ∀ v, (m.slotsOf v).length ≤ 1048576) (a b : V) : ACalls Try.prog 27 [Pt p, vV a, vV b] H fun r H' => r = .bool (m.eqv a b) ∧ H' = H := by
  refine ACalls.eq (S27_calls ?_) rfl
  unfold S27 Sm.eqv
  have hk2 : ∀ x y, Keep H.next H ((H.alloc x).alloc y) := fun x y => ((Keep.refl _ _).alloc (Nat.le_refl _) _).alloc (by simp) _
  have ea : ∀ x y, aLdAgg 2 (Pt H.next) ((H.alloc (.cells (vcells (vV x)) .var 28)).alloc y) = some (vV x) := by intro x y; simp [at_alloc]
  have eb : ∀ x y, aLdAgg 2 (Pt (H.next + 1)) ((H.alloc y).alloc (.cells (vcells (vV x)) .var 28)) = some (vV x) := by intro x y; simp [at_alloc]
  simp only [aBox_eq, AHeap.next_alloc, ea, eb, bnd_some', eqV]
  refine ⟨by simp, by simp, ?_⟩
  obtain ⟨G, hG⟩ : ∃ X, X = ((H.alloc (.cells (vcells (vV a)) .var 28)).alloc (.cells (vcells (vV b)) .var 28)) := ⟨_, rfl⟩
  have ga : aLdAgg 2 (Pt H.next) G = some (vV a) := hG ▸ ea _ _
  have gb : aLdAgg 2 (Pt (H.next + 1)) G = some (vV b) := hG ▸ eb _ _
  have hkG : Keep H.next H G := hG ▸ hk2 _ _
  simp only [← hG]
  clear hG
  have hS := h.kept hkG
  by_cases hab : a = b
  · simp [hab, hkG]
  simp only [decide_eq_false hab, aCond_false, Bool.false_or]
  refine (c52 hS a).use ?_
  unfold S27_55
  by_cases h1 : m.kindOf a = 5
  · simp only [h1, aBin_neq, bnd_some', decide_true, Bool.not_true, aGuardK_ff, gb]
    refine (c52 hS b).use ?_
    by_cases h2 : m.kindOf b = 5
    · simp only [h2, aBin_neq, bnd_some', decide_true, Bool.not_true, aPick_ff, aCond_false]
      unfold S27_54
      simp only [ga, bnd_some']
      refine (c53 hS a).mono fun r H1 ⟨⟨A, hr, hA, _⟩, hH⟩ => ?_
      subst hr
      subst hH
      simp only [gb, bnd_some']
      refine (c53 hS b).mono fun r H1' ⟨⟨B, hr, hB, _⟩, hH⟩ => ?_
      subst hr
      subst hH
      have hla := hl a
      by_cases h3 : (m.slotsOf a).length = (m.slotsOf b).length
      · simp [h3]
        refine aLoop_st (m.slotsOf b).length (fun i => [.int .i64 i]) (fun i H' => H' = H1' ∧ (m.slotsOf a).take i = (m.slotsOf b).take i) rfl ⟨rfl, rfl⟩ ?_
        rintro i H' again hi ⟨rfl, hg⟩ ha
        unfold S27_53
        by_cases hlt' : i < (m.slotsOf b).length
        · have hlt : i < (m.slotsOf a).length := by omega
          have w1 := wrap64 (x := (i : Int) + 1) (by omega) (by omega)
          have i1 := hA.rd.idx (k := .i64) (j := (i : Int)) (c := (m.slotsOf a).length) (by omega) (by omega)
          have i2 := hB.rd.idx (k := .i64) (j := (i : Int)) (c := (m.slotsOf b).length) (by omega) (by omega)
          rw [Int.toNat_natCast] at i1 i2
          have l1 : aLdAgg 2 (slot 2 A i) H' = some (vV (m.slotsOf a)[i]) := hA.rd.agg hlt
          have l2 : aLdAgg 2 (slot 2 B i) H' = some (vV (m.slotsOf b)[i]) := hB.rd.agg hlt'
          simp [hlt, hlt']
          unfold S27_52
          simp only [nth_zero, i1, i2, l1, l2, bnd_some', neV, aBin_add, w1]
          refine aCond_of (fun hd => ?_) fun hd => ?_
          · simp at hd
            refine ⟨?_, hkG⟩
            simp
            intro e
            apply hd
            simp [e]
          · simp at hd
            refine ha _ hlt' ⟨rfl, ?_⟩
            rw [List.take_succ_eq_append_getElem hlt, List.take_succ_eq_append_getElem hlt', hg, hd]
        · have hie : i = (m.slotsOf b).length := by omega
          subst hie
          rw [List.take_length, ← h3, List.take_length] at hg
          simp [h1, h2, hg, hkG]
      · have : ¬ m.slotsOf a = m.slotsOf b := fun e => h3 (by rw [e])
        have h3' : ¬ ((m.slotsOf a).length : Int) = (m.slotsOf b).length := by omega
        simp [h3, h3', this, hkG]
    · simp [h2, hkG]
  · simp [h1, hkG]
end Go.Proofs.Ytngldjajfpbmbaa.A

set_option linter.unusedVariables false
set_option linter.unusedSimpArgs false
namespace Go.Proofs.Ytngldjajfpbmbaa.A
open Go Go.Abs

/-- Rows that are looked at in pairs, from one on. -/
abbrev RwT := (Option Addr × List V) × (Option Addr × List V) × Nat
def eR (r : RwT) : List Value := [.slice r.1.1 r.1.2.length r.1.2.length, .slice r.2.1.1 r.2.1.2.length r.2.1.2.length, .int .i64 r.2.2]
def flatR (R : List RwT) : List (V × V) := R.reverse.flatMap fun r => (r.1.2.zip r.2.1.2).drop r.2.2
theorem flatR_push (R : List RwT) (r : RwT) : flatR (R ++ [r]) = (r.1.2.zip r.2.1.2).drop r.2.2 ++ flatR R := by simp [flatR]
structure RwOk (G : AHeap) (r : RwT) : Prop where
  p : Rd 2 eV G.next G r.1.1 r.1.2
  q : Rd 2 eV G.next G r.2.1.1 r.2.1.2
  len : r.1.2.length = r.2.1.2.length
  le : r.2.2 ≤ r.1.2.length
  small : r.1.2.length ≤ 1048576
def lookV (x : Bool × Nat × Int) : Int := if x.2.2 = 0 then (x.2.1 : Int) else -1
theorem _root_.Go.Abs.Ow.rdIn {α : Type} {n : Nat} {enc : α → List Value} {e : TypeId} {lo lo' : Nat} {H G : AHeap} {A : Option Addr} {xs : List α} (h : Ow n enc e lo H A xs) (hk : ∀ x, A = some x → G.at_ x.block = H.at_ x.block ∧ x.block < lo') : Rd n enc lo' G A xs := by
  refine ⟨h.1, ?_⟩
  rcases h.2 with ⟨h1, h2⟩ | ⟨b, cs, h1, h2, h3, h4, h5, h6⟩
  · exact .inl ⟨h1, h2⟩
  · obtain ⟨k1, k2⟩ := hk _ h1
    exact .inr ⟨b, 0, cs, _, _, h1, k2, ⟨k1.trans h4, by simp⟩, by omega, by simpa using h6⟩

/-- append of one row. -/
theorem app1R {lo : Nat} {H : AHeap} {A : Option Addr} {xs : List RwT} {v : RwT} {K : Value → AHeap → Prop} (hlo : lo ≤ H.next) (h : Ow 3 eR 127 lo H A xs) (hn : xs.length ≤ 1099511627776)
    (hk : ∀ H', Ow 3 eR 127 lo H' (some ⟨H.next + 1, 0, none⟩) (xs ++ [v]) → Keep lo H H' → K (.slice (some ⟨H.next + 1, 0, none⟩) (xs.length + 1) (xs.length + 1)) H') :
    aAppend 3 56 127 (.slice A xs.length xs.length) (.slice (some ⟨H.next, 0, none⟩) 1 1) (H.alloc (.cells (eR v) (.row 3) 127)) K := by
  have hR : Rd 3 eR (H.next + 1) (H.alloc (.cells (eR v) (.row 3) 127)) (some ⟨H.next, 0, none⟩) [v] := Rd.mk' (by simp [eR]) (by omega) (AHeap.at_alloc_new _ _) (by simp) (by simp) (by simp [eR])
  have := (h.alloc (.cells (eR v) (.row 3) 127)).append (bytes := 56) (c := xs.length) (c' := 1) (K := K) hR (by simp; omega) (by simp only [maxLen, List.length_singleton]; omega) (by simp only [List.length_singleton]; omega) fun H' hO hn' hat hk4 => by
    simp at hO
    rw [List.length_append, List.length_singleton]
    exact hk H' hO (((Keep.refl lo H).alloc hlo _).trans hk4)
  simpa using this

/-- What is said of the search at a turn. -/
structure LkI (m : Sm) (G : AHeap) (a b : V) (fuel : Int) (f : Int) (T : Option Addr) (R : List RwT) (H' : AHeap) : Prop where
  ow : Ow 3 eR 127 G.next H' T R
  keep : Keep G.next G H'
  ok : ∀ r ∈ R, RwOk G r
  small : R.length + f.toNat ≤ 1048577
  f2 : f ≤ 1048576
  run : m.run f.toNat (flatR R) = m.run fuel.toNat [(a, b)]
  nn : flatR R = [] → 0 ≤ f
end Go.Proofs.Ytngldjajfpbmbaa.A

set_option linter.unusedVariables false
set_option linter.unusedSimpArgs false
namespace Go.Proofs.Ytngldjajfpbmbaa.A
open Go Go.Abs

def lkPost (m : Sm) (H : AHeap) (a b : V) (fuel : Int) (r : Value) (H' : AHeap) : Prop :=
  ∃ w, r = .tuple #[.bool (m.run fuel.toNat [(a, b)]).1, .int .i64 (lookV (m.run fuel.toNat [(a, b)])), .int .i64 w] ∧ Keep H.next H H'

theorem l51_123 {m : Sm} {H G K : AHeap} {p t16 t17 : Nat} {F : Nat → Prop} {a b : V} {fuel : Int} {fn : Nat} {T : Option Addr} {R1 : List RwT} {w mo w2 : Int} {x y : V} {again : List Value → AHeap → Prop} {X Y : Value} (hS : RS G p m F) (hl : ∀ v, (m.slotsOf v).length ≤ 1048576) (hHG : Keep H.next H G)
    (hT : Ow 3 eR 127 G.next K T R1) (hk : Keep G.next G K) (hok : ∀ r ∈ R1, RwOk G r) (hsm : R1.length + (fn + 1) ≤ 1048577) (hf : fn ≤ 1048576) (x16 : K.at_ t16 = .cells (eV x) .var 28) (x17 : K.at_ t17 = .cells (eV y) .var 28)
    (hrun : m.run (fn + 1) ((x, y) :: flatR R1) = m.run fuel.toNat [(a, b)])
    (ha : ∀ f2 T2 R2 w2 mo2 H2, LkI m G a b fuel f2 T2 R2 H2 → 3 * f2.toNat + R2.length ≤ 3 * fn + R1.length + 1 → again [.int .i64 f2, .slice T2 R2.length R2.length, .int .i64 w2, .int .i64 mo2] H2) :
    S51_123 (Pt p) (lkPost m H a b fuel) [X, Y, .int .i64 w, .int .i64 mo] again (.int .i64 fn) (.int .i64 w2) (Pt t16) (Pt t17) [.slice T R1.length R1.length] K := by
  unfold S51_123
  have hSK := hS.kept hk
  have l16 : aLdAgg 2 (Pt t16) K = some (vV x) := by simp [x16]
  have l17 : aLdAgg 2 (Pt t17) K = some (vV y) := by simp [x17]
  have hkn := hk.next
  simp only [l16, l17, bnd_some', nth_zero, nth_3]
  refine (c27 hSK hl x y).use ?_
  simp only [Sm.run] at hrun
  cases hq : m.eqv x y with
  | true =>
    rw [hq] at hrun
    simp only [aCond_true, if_true] at hrun ⊢
    exact ha fn T R1 w2 mo K ⟨hT, hk, hok, by omega, by omega, by simpa using hrun, fun _ => by omega⟩ (by omega)
  | false =>
    rw [hq] at hrun
    simp only [aCond_false, Bool.false_eq_true, if_false] at hrun ⊢
    unfold S51_114
    simp only [l16, bnd_some']
    refine (c52 hSK x).use ?_
    simp only [l17, bnd_some']
    refine (c52 hSK y).use ?_
    unfold S51_113
    have no : m.parts x y = none → lkPost m H a b fuel (.tuple #[.bool false, .int .i64 fn, .int .i64 mo]) K := by
      intro hp
      rw [hp] at hrun
      exact ⟨mo, by rw [← hrun]; rfl, hHG.trans (hk.lower hHG.next)⟩
    by_cases h1 : m.kindOf x = m.kindOf y
    · by_cases h2 : m.kindOf x < 1
      · have hp : m.parts x y = none := by unfold Sm.parts; rw [if_neg]; rintro ⟨_, _, h⟩; omega
        simp [h1, show m.kindOf y < 1 by omega]
        exact no hp
      · by_cases h3 : 4 < m.kindOf x
        · have hp : m.parts x y = none := by unfold Sm.parts; rw [if_neg]; rintro ⟨_, _, h⟩; omega
          simp [h1, show ¬ m.kindOf y < 1 by omega, show 4 < m.kindOf y by omega]
          exact no hp
        · simp [h1, show ¬ m.kindOf y < 1 by omega, show ¬ 4 < m.kindOf y by omega]
          unfold S51_112
          simp only [l16, bnd_some']
          refine (c53 hSK x).mono fun r K1 ⟨⟨P, hr, hP, hPF⟩, hH⟩ => ?_
          subst hr
          subst hH
          simp only [l17, bnd_some']
          refine (c53 hSK y).mono fun r K1' ⟨⟨Q, hr, hQ, hQF⟩, hH⟩ => ?_
          subst hr
          subst hH
          by_cases h4 : (m.slotsOf x).length = (m.slotsOf y).length
          · have hp : m.parts x y = some ((m.slotsOf x).zip (m.slotsOf y)) := by unfold Sm.parts; rw [if_pos ⟨h1, h4, by omega⟩]
            rw [hp] at hrun
            simp [h4]
            unfold S51_111
            simp
            have lows : ∀ z, F z → K1'.at_ z = G.at_ z ∧ z < G.next := fun z hz => ⟨hk.at_ z (hS.lt z hz), hS.lt z hz⟩
            have rP : Rd 2 eV G.next G P (m.slotsOf x) := hP.rdIn fun z hz => ⟨(lows _ (hPF z hz)).1.symm, (lows _ (hPF z hz)).2⟩
            have rQ : Rd 2 eV G.next G Q (m.slotsOf y) := hQ.rdIn fun z hz => ⟨(lows _ (hQF z hz)).1.symm, (lows _ (hQF z hz)).2⟩
            have := app1R (v := ((P, m.slotsOf x), (Q, m.slotsOf y), 0)) (K := fun t125_106 H_107 => bnd (aLenSl (.slice P (m.slotsOf y).length (m.slotsOf y).length)) fun t128_108 => bnd (aBin .add .no (.int .i64 w2) t128_108) fun t129_109 => bnd (aMax (nth [X, Y, Value.int .i64 w, Value.int .i64 mo] 3) t129_109) fun t132_110 => again [.int .i64 fn, t125_106, t129_109, t132_110] H_107) hkn hT (by omega) fun K3 hO3 hk3 => by
              simp only [aLenSl_slice, bnd_some', aBin_add, nth_3, aMax_int]
              have hfl := flatR_push R1 ((P, m.slotsOf x), (Q, m.slotsOf y), 0)
              have := ha fn _ (R1 ++ [((P, m.slotsOf x), (Q, m.slotsOf y), 0)]) (IntKind.i64.wrap (w2 + (m.slotsOf y).length)) (if IntKind.i64.wrap (w2 + (m.slotsOf y).length) > mo then IntKind.i64.wrap (w2 + (m.slotsOf y).length) else mo) K3 ⟨hO3, hk.trans hk3, ?_, by rw [List.length_append, List.length_singleton]; omega, by omega, ?_, fun _ => by omega⟩ (by rw [List.length_append, List.length_singleton]; omega)
              · rw [List.length_append, List.length_singleton] at this
                exact this
              · intro r hr
                rcases List.mem_append.1 hr with hr | hr
                · exact hok r hr
                · simp at hr
                  subst hr
                  exact ⟨rP, rQ, h4, Nat.zero_le _, hl x⟩
              · rw [hfl]
                simpa using hrun
            have e : eR ((P, m.slotsOf x), (Q, m.slotsOf y), 0) = [.slice P (m.slotsOf y).length (m.slotsOf y).length, .slice Q (m.slotsOf y).length (m.slotsOf y).length, .int .i64 0] := by simp [eR, h4]
            rw [e] at this
            exact this
          · have hp : m.parts x y = none := by unfold Sm.parts; rw [if_neg]; rintro ⟨_, h, _⟩; exact h4 h
            have h4' : ¬ ((m.slotsOf x).length : Int) = (m.slotsOf y).length := by omega
            simp [h4, h4']
            exact no hp
    · have hp : m.parts x y = none := by unfold Sm.parts; rw [if_neg]; rintro ⟨h, _⟩; exact h1 h
      simp [h1]
      exact no hp

theorem l51_127 {m : Sm} {H G G2 H' : AHeap} {p : Nat} {F : Nat → Prop} {a b : V} {fuel : Int} {fn : Nat} {T : Option Addr} {R' : List RwT} {r : RwT} {w mo : Int} {x y : V} {again : List Value → AHeap → Prop} (hS : RS G p m F) (hl : ∀ v, (m.slotsOf v).length ≤ 1048576) (hHG : Keep H.next H G)
    (h : LkI m G a b fuel ((fn : Int) + 1) T (R' ++ [r]) H') (hk2 : Keep H'.next H' G2) (e2 : G2.at_ H'.next = .cells (eR r) .var 127) (hn2 : G2.next = H'.next + 1)
    (hlt1 : r.2.2 < r.1.2.length) (hx : r.1.2[r.2.2] = x) (hy : r.2.1.2[r.2.2]'(by have := (h.ok r (by simp)).len; omega) = y)
    (hrun : m.run (fn + 1) ((x, y) :: ((r.1.2.zip r.2.1.2).drop (r.2.2 + 1) ++ flatR R')) = m.run fuel.toNat [(a, b)])
    (ha : ∀ f2 T2 R2 w2 mo2 H2, LkI m G a b fuel f2 T2 R2 H2 → 3 * f2.toNat + R2.length < 3 * (fn + 1) + (R' ++ [r]).length → again [.int .i64 f2, .slice T2 R2.length R2.length, .int .i64 w2, .int .i64 mo2] H2) :
    S51_127 (Pt p) (lkPost m H a b fuel) [.int .i64 ((fn : Int) + 1), .slice T (R'.length + 1) (R'.length + 1), .int .i64 w, .int .i64 mo] again (.int .i64 R'.length) (Pt H'.next) G2 := by
  have hr := h.ok r (by simp)
  have hsm := h.small
  have hrl := hr.len
  have hsmall := hr.small
  have hkn := h.keep.next
  have hf2 := h.f2
  have hkG2 : Keep G.next G G2 := h.keep.trans (hk2.lower hkn)
  unfold S51_127
  have lp : aLdCell (.pointer (some ⟨H'.next, 0, none⟩)) G2 = some (.slice r.1.1 r.1.2.length r.1.2.length) := by simp [e2, eR]
  have lq : aLdCell (.pointer (some ⟨H'.next, 1, none⟩)) G2 = some (.slice r.2.1.1 r.2.1.2.length r.2.1.2.length) := by simp [e2, eR]
  have lf : aLdCell (.pointer (some ⟨H'.next, 2, none⟩)) G2 = some (.int .i64 r.2.2) := by simp [e2, eR]
  have w1 : IntKind.i64.wrap ((fn : Int) + 1 - 1) = (fn : Int) := by rw [wrap64 (by omega) (by omega)]; omega
  have rp := hr.p.kept hkG2
  have rq := hr.q.kept hkG2
  have ip := rp.idx (k := .i64) (j := ((r.2.2 : Nat) : Int)) (c := r.1.2.length) (by omega) (by omega)
  have iq := rq.idx (k := .i64) (j := ((r.2.2 : Nat) : Int)) (c := r.2.1.2.length) (by omega) (by omega)
  rw [Int.toNat_natCast] at ip iq
  have dp : aLdAgg 2 (slot 2 r.1.1 r.2.2) G2 = some (vV x) := by rw [← hx]; exact rp.agg hlt1
  have dq : aLdAgg 2 (slot 2 r.2.1.1 r.2.2) G2 = some (vV y) := by rw [← hy]; exact rq.agg (by omega)
  simp only [nth_zero, nth_2, aBin_sub, w1, bnd_some', aAdd_ptr, Nat.zero_add, lp, lq, lf, ip, iq, dp, dq, aAlloc_eq, AHeap.next_alloc, hn2]
  obtain ⟨K0, hK0⟩ : ∃ X, X = (G2.alloc (.cells [.int .i64 0, .int .i64 0] .var 28)).alloc (.cells [.int .i64 0, .int .i64 0] .var 28) := ⟨_, rfl⟩
  have hK0n : K0.next = H'.next + 3 := by rw [hK0]; simp [hn2]
  have hkK0 : Keep G2.next G2 K0 := hK0 ▸ ((Keep.refl _ _).alloc (Nat.le_refl _) _).alloc (by simp) _
  have k16 : K0.at_ (H'.next + 1) = .cells [.int .i64 0, .int .i64 0] .var 28 := by rw [hK0]; simp [at_alloc, hn2]
  have k17 : K0.at_ (H'.next + 1 + 1) = .cells [.int .i64 0, .int .i64 0] .var 28 := by rw [hK0]; simp [at_alloc, hn2]
  rw [← hK0]
  clear hK0
  have st1 : aSt 2 (Pt (H'.next + 1)) (vV x) K0 = some (K0.upd (H'.next + 1) (.cells (eV x) .var 28)) := by simp [k16]
  obtain ⟨K1, hK1⟩ : ∃ X, X = K0.upd (H'.next + 1) (.cells (eV x) .var 28) := ⟨_, rfl⟩
  rw [← hK1] at st1
  have hkK1 : Keep G2.next G2 K1 := hK1 ▸ hkK0.upd (by omega) _
  have hK1n : K1.next = H'.next + 3 := by rw [hK1]; exact hK0n
  have k16' : K1.at_ (H'.next + 1) = .cells (eV x) .var 28 := by rw [hK1]; simp
  have k17' : K1.at_ (H'.next + 1 + 1) = .cells [.int .i64 0, .int .i64 0] .var 28 := by rw [hK1, AHeap.at_upd_ne _ _ (by omega)]; exact k17
  clear hK1
  have st2 : aSt 2 (Pt (H'.next + 1 + 1)) (vV y) K1 = some (K1.upd (H'.next + 1 + 1) (.cells (eV y) .var 28)) := by simp [k17']
  obtain ⟨K2, hK2⟩ : ∃ X, X = K1.upd (H'.next + 1 + 1) (.cells (eV y) .var 28) := ⟨_, rfl⟩
  rw [← hK2] at st2
  have hkK2 : Keep G2.next G2 K2 := hK2 ▸ hkK1.upd (by omega) _
  have hK2n : K2.next = H'.next + 3 := by rw [hK2]; exact hK1n
  have x16 : K2.at_ (H'.next + 1) = .cells (eV x) .var 28 := by rw [hK2, AHeap.at_upd_ne _ _ (by omega)]; exact k16'
  have x17 : K2.at_ (H'.next + 1 + 1) = .cells (eV y) .var 28 := by rw [hK2]; simp
  clear hK2
  simp only [st1, bnd_some']
  have e3 : K1.at_ H'.next = .cells (eR r) .var 127 := by rw [hkK1.at_ _ (by omega)]; exact e2
  have lq1 : aLdCell (.pointer (some ⟨H'.next, 1, none⟩)) K1 = some (.slice r.2.1.1 r.2.1.2.length r.2.1.2.length) := by simp [e3, eR]
  have lf1 : aLdCell (.pointer (some ⟨H'.next, 2, none⟩)) K1 = some (.int .i64 r.2.2) := by simp [e3, eR]
  have dq1 : aLdAgg 2 (slot 2 r.2.1.1 r.2.2) K1 = some (vV y) := by
    rw [← hy]; exact (rq.kept (hkK1.lower (by have := hkG2.next; omega))).agg (by omega)
  refine ⟨⟨by simp only [lq1, bnd_some'], by simp only [lf1, bnd_some'], by simp only [dq1, bnd_some']⟩, ?_⟩
  simp only [st2, bnd_some']
  have hkK : Keep H'.next H' K2 := hk2.trans (hkK2.lower (by omega))
  have hkGK : Keep G.next G K2 := h.keep.trans (hkK.lower hkn)
  have hO := h.ow.kept hkK
  have hlen : (R' ++ [r]).length = R'.length + 1 := by simp
  have hlt : R'.length < (R' ++ [r]).length := by omega
  have ev : (R' ++ [r])[R'.length] = r := by simp
  have il := hO.rd.idx (k := .i64) (j := (R'.length : Int)) (c := R'.length + 1) (by omega) (by omega)
  rw [hlen, Int.toNat_natCast] at il
  have w2 := wrap64 (x := (r.2.2 : Int) + 1) (by omega) (by omega)
  obtain ⟨tb, hb, _, hbl, z, hst, hO2, cs, hcs⟩ := hO.st (j := R'.length) (k := 2) (l := 1) (off := R'.length * 3 + 2) (v := .int .i64 ((r.2.2 : Int) + 1)) (y := (r.1, r.2.1, r.2.2 + 1)) hlt rfl (by simp) (by simp) (by omega) (by rw [ev]; simp [eR])
  have hsl : slot 3 T R'.length = .pointer (some ⟨tb, R'.length * 3, none⟩) := by rw [hb]; simp [slot]
  obtain ⟨tb', o, ds, kk, tt, hT2, _, hat, hl3, hc3⟩ := hO.rd.elem hlt
  rw [hb] at hT2
  cases hT2
  rw [ev] at hc3
  have c2 : ds[0 + R'.length * 3 + 2]? = some (.int .i64 r.2.2) := by
    have := congrArg (fun l : List Value => l[2]?) hc3
    simpa [List.getElem?_take, List.getElem?_drop, eR] using this
  have ld : aLdCell (.pointer (some ⟨tb, R'.length * 3 + 2, none⟩)) K2 = some (.int .i64 r.2.2) := by
    rw [aLdCell_ptr, hat, blkCell_cells, ← c2]
    congr 1
    omega
  simp only [nth_1, il, bnd_some', hsl, aAdd_ptr, ld, aBin_add, w2, hst]
  rw [aJoin_eq]
  have hset : (R' ++ [r]).set R'.length (r.1, r.2.1, r.2.2 + 1) = R' ++ [(r.1, r.2.1, r.2.2 + 1)] := by
    rw [List.set_append_right _ _ (Nat.le_refl _), Nat.sub_self]; rfl
  rw [hset] at hO2
  have hGtb : G.next ≤ tb := (h.ow.blkOf hb).2.1
  obtain ⟨K3, hK3⟩ : ∃ X, X = K2.upd tb z := ⟨_, rfl⟩
  have hkK3 : Keep G.next G K3 := hK3 ▸ hkGK.upd hGtb _
  have tbn : ∀ (q : Nat) (es : List Value) (t : TypeId), K2.at_ q = .cells es .var t → q ≠ tb := by
    rintro q es t hq rfl
    rw [hcs] at hq
    cases hq
  have e4 : K2.at_ H'.next = .cells (eR r) .var 127 := by rw [hkK2.at_ _ (by omega)]; exact e2
  have y15 : K3.at_ H'.next = .cells (eR r) .var 127 := by rw [hK3, AHeap.at_upd_ne _ _ (tbn _ _ _ e4)]; exact e4
  have y16 : K3.at_ (H'.next + 1) = .cells (eV x) .var 28 := by rw [hK3, AHeap.at_upd_ne _ _ (tbn _ _ _ x16)]; exact x16
  have y17 : K3.at_ (H'.next + 1 + 1) = .cells (eV y) .var 28 := by rw [hK3, AHeap.at_upd_ne _ _ (tbn _ _ _ x17)]; exact x17
  rw [← hK3] at hO2 ⊢
  clear hK3
  have hlen2 : (R' ++ [(r.1, r.2.1, r.2.2 + 1)]).length = R'.length + 1 := by simp
  have hlt2 : R'.length < (R' ++ [(r.1, r.2.1, r.2.2 + 1)]).length := by omega
  have ev2 : (R' ++ [(r.1, r.2.1, r.2.2 + 1)])[R'.length] = (r.1, r.2.1, r.2.2 + 1) := by simp
  obtain ⟨tb2, o2, ds2, kk2, tt2, hT3, _, hat2, hl4, hc4⟩ := hO2.rd.elem hlt2
  rw [hb] at hT3
  cases hT3
  rw [ev2] at hc4
  have c3 : ds2[0 + R'.length * 3 + 2]? = some (.int .i64 ((r.2.2 + 1 : Nat) : Int)) := by
    have := congrArg (fun l : List Value => l[2]?) hc4
    simpa [List.getElem?_take, List.getElem?_drop, eR] using this
  have ld2 : aLdCell (.pointer (some ⟨tb, R'.length * 3 + 2, none⟩)) K3 = some (.int .i64 ((r.2.2 + 1 : Nat) : Int)) := by
    rw [aLdCell_ptr, hat2, blkCell_cells, ← c3]
    congr 1
    omega
  have lp3 : aLdCell (.pointer (some ⟨H'.next, 0, none⟩)) K3 = some (.slice r.1.1 r.1.2.length r.1.2.length) := by simp [y15, eR]
  simp only [il, bnd_some', hsl, aAdd_ptr, ld2, lp3, aLenSl_slice, aBin_eql, Nat.zero_add]
  by_cases hend : r.2.2 + 1 = r.1.2.length
  · have hend' : ((r.2.2 + 1 : Nat) : Int) = (r.1.2.length : Nat) := by rw [hend]
    have cs3 := hO2.rd.sliceHi (k := .i64) (j := (R'.length : Int)) (by omega) (by omega)
    rw [adv_zero, Int.toNat_natCast, hlen2] at cs3
    have hT3 : Ow 3 eR 127 G.next K3 T R' := by
      have := hO2.take R'.length (by omega)
      rwa [List.take_left] at this
    simp only [decide_eq_true hend', aCond_true, cs3, bnd_some']
    have hz : (r.1.2.zip r.2.1.2).drop (r.2.2 + 1) = [] := by rw [List.drop_eq_nil_iff, List.length_zip]; omega
    rw [hz, List.nil_append] at hrun
    exact l51_123 hS hl hHG hT3 hkK3 (fun r' hr' => h.ok r' (by simp [hr'])) (by simp at hsm; omega) (by omega) y16 y17 hrun fun f2 T2 R2 w3 mo2 H2 h2 hm2 => ha f2 T2 R2 w3 mo2 H2 h2 (by simp; omega)
  · have hend' : ¬ ((r.2.2 + 1 : Nat) : Int) = (r.1.2.length : Nat) := by omega
    simp only [decide_eq_false hend', aCond_false]
    rw [← hlen2]
    refine l51_123 hS hl hHG hO2 hkK3 (fun r' hr' => ?_) (by simp at hsm ⊢; omega) (by omega) y16 y17 (by rw [flatR_push]; exact hrun) fun f2 T2 R2 w3 mo2 H2 h2 hm2 => ha f2 T2 R2 w3 mo2 H2 h2 (by simp at hm2 ⊢; omega)
    rcases List.mem_append.1 hr' with hr' | hr'
    · exact h.ok r' (by simp [hr'])
    · simp at hr'
      subst hr'
      exact ⟨hr.p, hr.q, hr.len, by show r.2.2 + 1 ≤ r.1.2.length; omega, hr.small⟩

theorem l51_128 {m : Sm} {H G H' : AHeap} {p : Nat} {F : Nat → Prop} {a b : V} {fuel f : Int} {T : Option Addr} {R' : List RwT} {r : RwT} {w mo : Int} {again : List Value → AHeap → Prop} (hS : RS G p m F) (hl : ∀ v, (m.slotsOf v).length ≤ 1048576) (hHG : Keep H.next H G)
    (h : LkI m G a b fuel f T (R' ++ [r]) H')
    (ha : ∀ f2 T2 R2 w2 mo2 H2, LkI m G a b fuel f2 T2 R2 H2 → 3 * f2.toNat + R2.length < 3 * f.toNat + (R' ++ [r]).length → again [.int .i64 f2, .slice T2 R2.length R2.length, .int .i64 w2, .int .i64 mo2] H2) :
    S51_128 (Pt p) (lkPost m H a b fuel) [.int .i64 f, .slice T (R' ++ [r]).length (R' ++ [r]).length, .int .i64 w, .int .i64 mo] H' again := by
  unfold S51_128
  have hlen : (R' ++ [r]).length = R'.length + 1 := by simp
  have hr := h.ok r (by simp)
  have hsm := h.small
  have hw1 : IntKind.i64.wrap (((R'.length + 1 : Nat) : Int) - 1) = (R'.length : Int) := by rw [wrap64 (by omega) (by omega)]; omega
  have i1 := h.ow.rd.idx (k := .i64) (j := (R'.length : Int)) (c := R'.length + 1) (by omega) (by omega)
  rw [hlen, Int.toNat_natCast] at i1
  have hlt : R'.length < (R' ++ [r]).length := by omega
  have l1 := h.ow.rd.agg hlt
  have ev : (R' ++ [r])[R'.length] = r := by simp
  rw [ev] at l1
  have c1 := h.ow.rd.sliceHi (k := .i64) (j := (R'.length : Int)) (by omega) (by omega)
  rw [adv_zero, Int.toNat_natCast, hlen] at c1
  have hT' : Ow 3 eR 127 G.next H' T R' := by
    have := h.ow.take R'.length (by omega)
    rwa [List.take_left] at this
  simp only [nth_zero, nth_1, hlen, aLenSl_slice, bnd_some', aBin_sub, hw1, i1, l1, aAlloc_eq]
  obtain ⟨G2, hG2⟩ : ∃ X, X = (H'.alloc (.cells [.slice none 0 0, .slice none 0 0, .int .i64 0] .var 127)).upd H'.next (.cells (eR r) .var 127) := ⟨_, rfl⟩
  have hk2 : Keep H'.next H' G2 := hG2 ▸ ((Keep.refl _ _).alloc (Nat.le_refl _) _).upd (Nat.le_refl _) _
  have e2 : G2.at_ H'.next = .cells (eR r) .var 127 := by rw [hG2]; simp
  have hn2 : G2.next = H'.next + 1 := by rw [hG2]; simp
  have st : aSt 3 (Pt H'.next) (.agg (eR r).toArray) (H'.alloc (.cells [.slice none 0 0, .slice none 0 0, .int .i64 0] .var 127)) = some G2 := by rw [hG2]; simp [eR]
  clear hG2
  have hkn := h.keep.next
  have lp : aLdCell (.pointer (some ⟨H'.next, 0, none⟩)) G2 = some (.slice r.1.1 r.1.2.length r.1.2.length) := by simp [e2, eR]
  have lq : aLdCell (.pointer (some ⟨H'.next, 1, none⟩)) G2 = some (.slice r.2.1.1 r.2.1.2.length r.2.1.2.length) := by simp [e2, eR]
  have lf : aLdCell (.pointer (some ⟨H'.next, 2, none⟩)) G2 = some (.int .i64 r.2.2) := by simp [e2, eR]
  simp only [st, bnd_some', aAdd_ptr, Nat.zero_add, lp, lf, aLenSl_slice, aBin_eql]
  have hkG2 : Keep G.next G G2 := h.keep.trans (hk2.lower hkn)
  have hfl := flatR_push R' r
  by_cases hfin : r.2.2 = r.1.2.length
  · have hfin' : ((r.2.2 : Nat) : Int) = (r.1.2.length : Nat) := by rw [hfin]
    simp only [decide_eq_true hfin', aCond_true, c1, bnd_some', nth_2, nth_3]
    have hz : (r.1.2.zip r.2.1.2).drop r.2.2 = [] := by rw [List.drop_eq_nil_iff, List.length_zip, hr.len, Nat.min_self, hfin, hr.len]; exact Nat.le_refl _
    rw [hz, List.nil_append] at hfl
    refine ha f T R' w mo G2 ⟨hT'.kept hk2, hkG2, fun x hx => h.ok x (by simp [hx]), by omega, h.f2, by rw [← hfl]; exact h.run, by rw [← hfl]; exact h.nn⟩ (by omega)
  · have hfin' : ¬ ((r.2.2 : Nat) : Int) = (r.1.2.length : Nat) := by omega
    have hle := hr.le
    have hrl := hr.len
    have hsmall := hr.small
    have hlt1 : r.2.2 < r.1.2.length := by omega
    have hlt2 : r.2.2 < r.2.1.2.length := by omega
    obtain ⟨x, hx⟩ : ∃ x, r.1.2[r.2.2] = x := ⟨_, rfl⟩
    obtain ⟨y, hy⟩ : ∃ y, r.2.1.2[r.2.2] = y := ⟨_, rfl⟩
    have hz : (r.1.2.zip r.2.1.2).drop r.2.2 = (x, y) :: (r.1.2.zip r.2.1.2).drop (r.2.2 + 1) := by
      rw [List.drop_eq_getElem_cons (by rw [List.length_zip]; omega), List.getElem_zip, hx, hy]
    simp only [decide_eq_false hfin', aCond_false, aBin_leq, bnd_some']
    rw [hz, List.cons_append] at hfl
    have hrun := h.run
    rw [hfl] at hrun
    by_cases hf0 : f ≤ 0
    · rw [decide_eq_true hf0, aCond_true]
      have e0 : f.toNat = 0 := by omega
      rw [e0] at hrun
      refine ⟨mo, ?_, hHG.trans (hkG2.lower hHG.next)⟩
      rw [← hrun]
      rfl
    · rw [decide_eq_false hf0, aCond_false]
      obtain ⟨fn, hfn⟩ : ∃ n : Nat, f = n + 1 := ⟨(f - 1).toNat, by omega⟩
      subst hfn
      have hrun2 : m.run (fn + 1) ((x, y) :: ((r.1.2.zip r.2.1.2).drop (r.2.2 + 1) ++ flatR R')) = m.run fuel.toNat [(a, b)] := by rw [← hrun]; congr 1
      exact l51_127 hS hl hHG h hk2 e2 hn2 hlt1 hx hy hrun2 fun f2 T2 R2 w2 mo2 H2 h2 hm2 => ha f2 T2 R2 w2 mo2 H2 h2 (by omega)
end Go.Proofs.Ytngldjajfpbmbaa.A

set_option linter.unusedVariables false
set_option linter.unusedSimpArgs false
namespace Go.Proofs.Ytngldjajfpbmbaa.A
open Go Go.Abs

theorem c51 {H : AHeap} {p : Nat} {m : Sm} {F : Nat → Prop} (h : RS H p m F) (hl : ∀ v, (m.slotsOf v).length ≤ 1048576) (a b : V) {fuel : Int} (hf : fuel ≤ 1048576) :
    ACalls Try.prog 51 [Pt p, vV a, vV b, .int .i64 fuel] H (lkPost m H a b fuel) := by
  refine S51_calls ?_
  unfold S51
  have hk2 : ∀ x y, Keep H.next H ((H.alloc x).alloc y) := fun x y => ((Keep.refl _ _).alloc (Nat.le_refl _) _).alloc (by simp) _
  simp only [aBox_eq, AHeap.next_alloc]
  refine ⟨by simp, by simp, ?_⟩
  obtain ⟨H1, hH1⟩ : ∃ X, X = (H.alloc (.cells (vcells (vV a)) .var 28)).alloc (.cells (vcells (vV b)) .var 28) := ⟨_, rfl⟩
  have hk1 : Keep H.next H H1 := hH1 ▸ hk2 _ _
  have hn1 : H1.next = H.next + 2 := by rw [hH1]; simp
  have e5 : H1.at_ H.next = .cells (eV a) .var 28 := by rw [hH1]; simp [at_alloc]
  have e6 : H1.at_ (H.next + 1) = .cells (eV b) .var 28 := by rw [hH1]; simp [at_alloc]
  rw [← hH1]
  clear hH1
  have la : aLdAgg 2 (Pt H.next) H1 = some (vV a) := by simp [e5]
  have lb : ∀ x, aLdAgg 2 (Pt (H.next + 1)) (H1.alloc x) = some (vV b) := by
    intro x
    rw [aLdAgg_ptr, AHeap.at_alloc_ne _ _ (by omega), e6]
    simp
  simp only [la, bnd_some', aBuildSlice_eq]
  simp [-aLdAgg_ptr, lb]
  obtain ⟨G, hG⟩ : ∃ X, X = (H1.alloc (.cells [.int .i64 a.1, .int .i64 a.2] (.row 2) 28)).alloc (.cells [.int .i64 b.1, .int .i64 b.2] (.row 2) 28) := ⟨_, rfl⟩
  have hkG1 : Keep H1.next H1 G := hG ▸ ((Keep.refl _ _).alloc (Nat.le_refl _) _).alloc (by simp) _
  have hnG : G.next = H1.next + 2 := by rw [hG]; simp
  have ga : G.at_ H1.next = .cells [.int .i64 a.1, .int .i64 a.2] (.row 2) 28 := by rw [hG]; simp [at_alloc]
  have gb : G.at_ (H1.next + 1) = .cells [.int .i64 b.1, .int .i64 b.2] (.row 2) 28 := by rw [hG]; simp [at_alloc]
  have hnG' : H1.next + 1 + 1 = G.next := by omega
  have hnG'' : H1.next + 2 = G.next := by omega
  simp only [← hG, hnG', hnG'']
  clear hG
  have hkG : Keep H.next H G := hk1.trans (hkG1.lower hk1.next)
  have hS := h.kept hkG
  have rA : Rd 2 eV G.next G (some ⟨H1.next, 0, none⟩) [a] := Rd.mk' (by simp) (by omega) ga (by simp) (by simp) (by simp)
  have rB : Rd 2 eV G.next G (some ⟨H1.next + 1, 0, none⟩) [b] := Rd.mk' (by simp) (by omega) gb (by simp) (by simp) (by simp)
  have hO : Ow 3 eR 127 G.next (G.alloc (.cells (eR ((some ⟨H1.next, 0, none⟩, [a]), (some ⟨H1.next + 1, 0, none⟩, [b]), 0)) (.row 3) 127)) (some ⟨G.next, 0, none⟩) [((some ⟨H1.next, 0, none⟩, [a]), (some ⟨H1.next + 1, 0, none⟩, [b]), 0)] := Ow.new G _ (by simp [eR]) (by simp)
  refine aLoop_inv (fun μ vs H' => ∃ f T R w mo, vs = [.int .i64 f, .slice T R.length R.length, .int .i64 w, .int .i64 mo] ∧ μ = 3 * f.toNat + R.length ∧ LkI m G a b fuel f T R H') (3 * fuel.toNat + 1)
    ⟨fuel, _, [((some ⟨H1.next, 0, none⟩, [a]), (some ⟨H1.next + 1, 0, none⟩, [b]), 0)], 1, 1, rfl, rfl, ⟨hO, (Keep.refl _ _).alloc (Nat.le_refl _) _, ?_, by simp; omega, hf, rfl, by simp [flatR]⟩⟩ ?_
  · intro r hr
    simp at hr
    subst hr
    exact ⟨rA, rB, rfl, Nat.zero_le _, by simp⟩
  rintro μ vs H' again ⟨f, T, R, w, mo, rfl, rfl, hI⟩ ha
  unfold S51_129
  by_cases hR : R.length = 0
  · have : R = [] := List.eq_nil_of_length_eq_zero hR
    subst this
    have hf0 := hI.nn rfl
    have hrun := hI.run
    simp
    refine ⟨mo, ?_, hkG.trans (hI.keep.lower hkG.next)⟩
    rw [← hrun]
    simp [flatR, Sm.run, lookV]
    omega
  · obtain ⟨R', r, rfl⟩ : ∃ t v, R = t ++ [v] := ⟨R.dropLast, R.getLast (by intro e; simp [e] at hR), (List.dropLast_concat_getLast _).symm⟩
    have hpos : (0 : Int) < ((R' ++ [r]).length : Nat) := by omega
    simp only [nth_1, aLenSl_slice, bnd_some', aBin_gtr, decide_eq_true hpos, aCond_true]
    exact l51_128 hS hl hkG hI fun f2 T2 R2 w2 mo2 H2 h2 hm2 => ha _ _ _ hm2 ⟨f2, T2, R2, w2, mo2, rfl, rfl, h2⟩
theorem c26 {H : AHeap} {p : Nat} {m : Sm} {F : Nat → Prop} (h : RS H p m F) (hl : ∀ v, (m.slotsOf v).length ≤ 1048576) (a b : V) {fuel : Int} (hf : fuel ≤ 1048576) :
    ACalls Try.prog 26 [Pt p, vV a, vV b, .int .i64 fuel] H fun r H' => r = .tuple #[.bool (m.run fuel.toNat [(a, b)]).1, .int .i64 (lookV (m.run fuel.toNat [(a, b)]))] ∧ H' = H := by
  refine ACalls.eq' (S26_calls ?_) (vin_two (.plain rfl) (.plain rfl))
  unfold S26
  have hk2 : ∀ x y, Keep H.next H ((H.alloc x).alloc y) := fun x y => ((Keep.refl _ _).alloc (Nat.le_refl _) _).alloc (by simp) _
  simp [at_alloc]
  refine (c51 (h.kept (hk2 _ _)) hl a b hf).mono fun r H' ⟨w, hr, hk⟩ => ?_
  subst hr
  simp
  exact (hk2 _ _).trans (hk.lower (by simp; omega))

theorem c7 {H : AHeap} {lo : Nat} {A : Option Addr} {ms : List MkT} (hlo : lo ≤ H.next) (hM : Mks lo H A ms) (a b : V) (fuel : Int) :
    ACalls Try.prog 7 [.slice A ms.length ms.length, vV a, vV b, .int .i64 fuel] H fun r _ => r = .bool true := by
  refine S7_calls ?_
  unfold S7
  have hk2 : ∀ x y, Keep H.next H ((H.alloc x).alloc y) := fun x y => ((Keep.refl _ _).alloc (Nat.le_refl _) _).alloc (by simp) _
  simp only [aBox_eq, AHeap.next_alloc]
  refine ⟨by simp, by simp, ?_⟩
  obtain ⟨H1, hH1⟩ : ∃ X, X = (H.alloc (.cells (vcells (vV a)) .var 28)).alloc (.cells (vcells (vV b)) .var 28) := ⟨_, rfl⟩
  have hk1 : Keep H.next H H1 := hH1 ▸ hk2 _ _
  have hn1 : H1.next = H.next + 2 := by rw [hH1]; simp
  have e5 : H1.at_ H.next = .cells (eV a) .var 28 := by rw [hH1]; simp [at_alloc]
  have e6 : H1.at_ (H.next + 1) = .cells (eV b) .var 28 := by rw [hH1]; simp [at_alloc]
  rw [← hH1]
  clear hH1
  rw [aJoin_eq]
  have key : ∀ f : Int, f ≤ 3000 → S7_101 (.slice A ms.length ms.length) (fun r _ => r = .bool true) (Pt H.next) (Pt (H.next + 1)) [.int .i64 f] H1 := by
    intro f hf
    unfold S7_101
    refine (c25 (lo := lo) (by omega) (hM.kept (hk1.lower hlo))).mono fun r H2 ⟨p, q, hr, m, hB⟩ => ?_
    subst hr
    obtain ⟨F, G, hS, hR, _⟩ := hB.ex
    have hl := slotsOf_le hB.inv hB.vd
    have e52 : H2.at_ H.next = .cells (eV a) .var 28 := by rw [hB.keep.at_ _ (by omega)]; exact e5
    have e62 : H2.at_ (H.next + 1) = .cells (eV b) .var 28 := by rw [hB.keep.at_ _ (by omega)]; exact e6
    have la : aLdAgg 2 (Pt H.next) H2 = some (vV a) := by simp [e52]
    have lb : aLdAgg 2 (Pt (H.next + 1)) H2 = some (vV b) := by simp [e62]
    simp
    refine c20.use ?_
    unfold S7_99
    simp [la, lb, -aLdAgg_ptr]
    refine (c21 hS hl a b (fuel := f) (by omega)).use ?_
    unfold S7_98
    simp only [runV]
    simp [la, lb, -aLdAgg_ptr]
    refine (c26 hR hl a b (fuel := f) (by omega)).use ?_
    simp [la, lb, -aLdAgg_ptr]
    refine (c22 hS hl a b).use ?_
    unfold S7_97
    refine ⟨⟨by simp only [la, bnd_some'], by simp only [lb, bnd_some']⟩, (c27 hR hl a b).use ?_⟩
    have ee : (m.eqv a b == m.eqv a b) = true := by simp
    simp only [aBin_bneq, ee, bnd_some', Bool.not_true, aCond_false]
    rcases run_err m f.toNat [(a, b)] with he | he
    · obtain ⟨y, l, e, hrun⟩ : ∃ y l e, m.run f.toNat [(a, b)] = (y, l, e) := ⟨_, _, _, rfl⟩
      rw [hrun] at he ⊢
      dsimp only at he
      subst he
      have hl0 : ¬ (l : Int) < 0 := by omega
      simp [lookV, hl0]
      unfold S7_94
      simp
    · rw [he]
      simp [lookV]
      unfold S7_68
      simp
  by_cases h3 : 3000 < fuel
  · simp only [aBin_gtr, bnd_some', decide_eq_true h3, aCond_true]
    exact key 3000 (by omega)
  · simp only [aBin_gtr, bnd_some', decide_eq_false h3, aCond_false]
    exact key fuel (by omega)
theorem c7i {H : AHeap} {ms : Option Addr × List MkT} {a0 a1 b0 b1 fuel : Int} (hM : Mks H.next H ms.1 ms.2) :
    ACalls Try.prog 7 [.slice ms.1 ms.2.length ms.2.length, .agg #[.int .i64 a0, .int .i64 a1], .agg #[.int .i64 b0, .int .i64 b1], .int .i64 fuel] H fun r _ => r = .bool true :=
  c7 (Nat.le_refl _) hM (a0, a1) (b0, b1) fuel
end Go.Proofs.Ytngldjajfpbmbaa.A
