/- Contracts of functions that the statement reaches; each theorem carries its own conditions, the last theorem of the claim has none. -/
import Derived.Test.YtngldjajfpbmbaaS21
set_option linter.unusedVariables false
set_option linter.unusedSimpArgs false
namespace Go.Proofs.Ytngldjajfpbmbaa.A
open Go Go.Abs

/-- Equal: what waits, the next one first. -/
def Sm.run (m : Sm) : Nat → List (V × V) → Bool × Nat × Int
  | f, [] => (true, f, 0)
  | 0, _ :: _ => (false, 0, 15)
  | f + 1, (a, b) :: r => if m.eqv a b then m.run f r else match m.parts a b with
    | none => (false, f, 0)
    | some l => m.run f (l ++ r)
def runV (x : Bool × Nat × Int) : Value := .tuple #[.bool x.1, .int .i64 x.2.1, .int .i64 x.2.2]
theorem runV_vin (K : Nat → Prop) (x : Bool × Nat × Int) : VIn K (runV x) := by
  refine .tuple fun i u h => ?_
  match i, h with
  | 0, h => simp at h; subst h; exact .plain rfl
  | 1, h => simp at h; subst h; exact .plain rfl
  | 2, h => simp at h; subst h; exact .plain rfl
  | i + 3, h => simp at h
theorem parts_len {m : Sm} {a b : V} {l : List (V × V)} (h : m.parts a b = some l) : l.length ≤ (m.slotsOf a).length := by
  unfold Sm.parts at h
  split at h
  · cases h; rw [List.length_zip]; exact Nat.min_le_left _ _
  · cases h

theorem c21 {H : AHeap} {p : Nat} {m : Sm} {F : Nat → Prop} (h : St H p m F) (hl : ∀ v, (m.slotsOf v).length ≤ 1048576) (a b : V) {fuel : Int} (hf : fuel ≤ 1048576) :
    ACalls Try.prog 21 [Pt p, vV a, vV b, .int .i64 fuel] H fun r H' => r = runV (m.run fuel.toNat [(a, b)]) ∧ H' = H := by
  refine ACalls.eq' (S21_calls ?_) (runV_vin _ _)
  unfold S21
  have hk2 : ∀ x y, Keep H.next H ((H.alloc x).alloc y) := fun x y => ((Keep.refl _ _).alloc (Nat.le_refl _) _).alloc (by simp) _
  simp [at_alloc]
  obtain ⟨G0, hG0⟩ : ∃ X, X = (H.alloc (.cells (vcells (vV a)) .var 28)).alloc (.cells (vcells (vV b)) .var 28) := ⟨_, rfl⟩
  have hk0 : Keep H.next H G0 := hG0 ▸ hk2 _ _
  have hn0 : H.next + 2 = G0.next := by rw [hG0]; simp
  have hn0' : H.next + 1 + 1 = G0.next := hn0
  simp only [← hG0, hn0', hn0]
  clear hG0 hn0'
  have hO : Ow 4 eW 102 G0.next (G0.alloc (.cells [.int .i64 a.1, .int .i64 a.2, .int .i64 b.1, .int .i64 b.2] (.row 4) 102)) (some ⟨G0.next, 0, none⟩) [(a, b)] := Ow.new G0 _ (by simp) (by simp)
  have hk1 : Keep G0.next G0 (G0.alloc (.cells [.int .i64 a.1, .int .i64 a.2, .int .i64 b.1, .int .i64 b.2] (.row 4) 102)) := (Keep.refl _ _).alloc (Nat.le_refl _) _
  have hS := h.kept hk0
  refine aLoop_inv (fun μ vs H' => ∃ (T : Option Addr) (st : List (V × V)) (f : Int), vs = [.int .i64 f, .slice T st.length st.length] ∧ μ = f.toNat ∧ Ow 4 eW 102 G0.next H' T st.reverse ∧ Keep G0.next G0 H' ∧ f ≤ 1048576 ∧ (st = [] → 0 ≤ f) ∧ st.length + f.toNat * 1048576 ≤ 1 + 1048576 * 1048576 ∧ m.run f.toNat st = m.run fuel.toNat [(a, b)]) fuel.toNat
    ⟨_, [(a, b)], fuel, rfl, rfl, hO, hk1, hf, by simp, by simp; omega, rfl⟩ ?_
  rintro μ vs H' again ⟨T, st, f, rfl, hμ, hT, hk, hf2, hf0, hb, hrun⟩ ha
  have hkn := hk.next
  unfold S21_55
  cases st with
  | nil =>
    have := hf0 rfl
    rw [← hrun]
    simp [Sm.run, runV, this]
    refine ⟨by omega, ?_⟩
    exact hk0.trans (hk.lower hk0.next)
  | cons x r =>
    have hpos : ¬ ((x :: r).length = 0) := by simp
    have hlen : (x :: r).length = r.length + 1 := rfl
    simp only [nth_zero, nth_1, aLenSl_slice, bnd_some', aBin_gtr, hlen]
    rw [decide_eq_true (by omega)]
    simp only [aCond_true, aBin_leq, bnd_some']
    by_cases hf1 : f ≤ 0
    · rw [decide_eq_true hf1, aCond_true]
      have e0 : f.toNat = 0 := by omega
      rw [← hrun, e0]
      refine ⟨by simp [Sm.run, runV], hk0.trans (hk.lower hk0.next)⟩
    · rw [decide_eq_false hf1, aCond_false]
      obtain ⟨fn, hfn⟩ : ∃ n : Nat, f = n + 1 := ⟨(f - 1).toNat, by omega⟩
      subst hfn
      obtain ⟨xa, xb⟩ := x
      unfold S21_54
      have e1 : ((fn : Int) + 1).toNat = fn + 1 := by omega
      rw [e1] at hb hrun hμ
      have w1 := wrap64 (x := (fn : Int)) (by omega) (by omega)
      have w2 := wrap64 (x := (r.length : Int)) (by simp at hb; omega) (by simp at hb; omega)
      have w1' : IntKind.i64.wrap ((fn : Int) + 1 - 1) = fn := by rw [show (fn : Int) + 1 - 1 = fn by omega]; exact w1
      have w2' : IntKind.i64.wrap (((r.length + 1 : Nat) : Int) - 1) = (r.length : Int) := by rw [show ((r.length + 1 : Nat) : Int) - 1 = r.length by omega]; exact w2
      have hrl : ((xa, xb) :: r).reverse = r.reverse ++ [(xa, xb)] := by simp
      have hrl2 : ((xa, xb) :: r).reverse.length = r.length + 1 := by simp
      have hrl3 : r.length < ((xa, xb) :: r).reverse.length := by rw [hrl2]; omega
      have i1 := hT.rd.idx (k := .i64) (j := (r.length : Int)) (c := r.length + 1) (by omega) (by omega)
      rw [hrl2, Int.toNat_natCast] at i1
      have l1 := hT.rd.agg hrl3
      have ev : ((xa, xb) :: r).reverse[r.length] = (xa, xb) := by simp
      rw [ev] at l1
      have c1 := hT.rd.sliceHi (k := .i64) (j := (r.length : Int)) (by omega) (by omega)
      rw [adv_zero, Int.toNat_natCast, hrl2] at c1
      have hT' : Ow 4 eW 102 G0.next H' T r.reverse := by
        have := hT.take r.length (by omega)
        rw [hrl] at this
        have e : (r.reverse ++ [(xa, xb)]).take r.length = r.reverse := by
          have := List.take_left (l₁ := r.reverse) (l₂ := [(xa, xb)])
          rwa [List.length_reverse] at this
        rwa [e] at this
      simp only [nth_zero, nth_1, aBin_sub, w1', w2', bnd_some', aLenSl_slice, hlen, i1, l1, aAlloc_eq, c1]
      obtain ⟨G, hG⟩ : ∃ X, X = (H'.alloc (.cells [.int .i64 0, .int .i64 0, .int .i64 0, .int .i64 0] .var 102)).upd H'.next (.cells (eW (xa, xb)) .var 102) := ⟨_, rfl⟩
      have hkG : Keep H'.next H' G := hG ▸ ((Keep.refl _ _).alloc (Nat.le_refl _) _).upd (Nat.le_refl _) _
      have eG : G.at_ H'.next = .cells (eW (xa, xb)) .var 102 := by rw [hG]; simp
      have hnG : G.next = H'.next + 1 := by rw [hG]; simp
      have st1 : aSt 4 (Pt H'.next) (.agg (eW (xa, xb)).toArray) (H'.alloc (.cells [.int .i64 0, .int .i64 0, .int .i64 0, .int .i64 0] .var 102)) = some G := by
        rw [hG]; simp
      clear hG
      simp only [st1, bnd_some', aAdd_ptr, Nat.zero_add]
      have ga : aLdAgg 2 (.pointer (some ⟨H'.next, 0, none⟩)) G = some (vV xa) := by simp [eG]
      have gb : aLdAgg 2 (.pointer (some ⟨H'.next, 2, none⟩)) G = some (vV xb) := by simp [eG]
      have g4 : aLdAgg 4 (.pointer (some ⟨H'.next, 0, none⟩)) G = some (vW (xa, xb)) := by simp [eG]
      simp only [ga, gb, bnd_some']
      have hSG : St G p m F := hS.kept (hk.trans (hkG.lower hkn))
      refine (c22 hSG hl xa xb).use ?_
      have hTG := hT'.kept hkG
      simp only [Sm.run] at hrun
      cases hq : m.eqv xa xb with
      | true =>
        rw [hq] at hrun
        simp only [aCond_true, if_true] at hrun ⊢
        exact ha fn _ _ (by omega) ⟨T, r, fn, rfl, by omega, hTG, hk.trans (hkG.lower hkn), by omega, fun _ => by omega, by simp at hb ⊢; omega, by simpa using hrun⟩
      | false =>
        rw [hq] at hrun
        simp only [aCond_false, Bool.false_eq_true, if_false] at hrun ⊢
        unfold S21_53
        simp only [g4, bnd_some']
        refine (c48 hSG hl xa xb).mono fun t H2 ht => ?_
        unfold partsRes at ht
        cases hp : m.parts xa xb with
        | none =>
          rw [hp] at ht hrun
          obtain ⟨rfl, hk2⟩ := ht
          rw [← hrun]
          simp [runV]
          exact hk0.trans ((hk.trans ((hkG.trans (hk2.lower hkG.next)).lower hkn)).lower hk0.next)
        | some l =>
          rw [hp] at ht hrun
          obtain ⟨B, rfl, hB, hk2⟩ := ht
          have hll := Nat.le_trans (parts_len hp) (hl xa)
          have hk2n := hk2.next
          simp [-List.length_reverse]
          have w3 := wrap64 (x := (l.length : Int) - 1) (by omega) (by omega)
          rw [w3]
          have hT2 : Ow 4 eW 102 G0.next H2 T r.reverse := hTG.kept hk2
          have hB2 : Ow 4 eW 102 G.next H2 B l := hB
          refine aLoop_vs l.length (fun i vs H3 => ∃ T', vs = [.slice T' (r.reverse ++ l.reverse.take i).length (r.reverse ++ l.reverse.take i).length, .int .i64 ((l.length : Int) - 1 - i)] ∧ Ow 4 eW 102 G0.next H3 T' (r.reverse ++ l.reverse.take i) ∧ Ow 4 eW 102 G0.next H3 B l ∧ Keep G0.next G0 H3 ∧ ∀ x y, T' = some x → B = some y → x.block ≠ y.block) ⟨T, by simp, by simpa using hT2, hB2.lower (by omega), (hk.trans ((hkG.trans (hk2.lower hkG.next)).lower hkn)), ?_⟩ ?_
          · intro x y hx hy
            have := (hTG.blkOf hx).2.2.1
            have := (hB2.blkOf hy).2.1
            omega
          rintro i vs H3 again2 hi ⟨T', rfl, hT3, hB3, hk3, hne⟩ ha2
          unfold S21_52
          have hll2 : (r.reverse ++ l.reverse.take i).length = r.length + i := by simp; omega
          by_cases hlt : i < l.length
          · have h1 : 0 ≤ (l.length : Int) - 1 - i := by omega
            simp only [nth_1, aBin_geq, bnd_some', decide_eq_true h1, aCond_true]
            unfold S21_51
            have ej : ((l.length : Int) - 1 - i).toNat = l.length - 1 - i := by omega
            have i2 := hB3.rd.idx (k := .i64) (j := (l.length : Int) - 1 - i) (c := l.length) h1 (by omega)
            rw [ej] at i2
            have hj : l.length - 1 - i < l.length := by omega
            have l2 := hB3.rd.agg hj
            have e3 : l.reverse.take (i + 1) = l.reverse.take i ++ [l[l.length - 1 - i]] := by
              rw [List.take_succ_eq_append_getElem (by simp; exact hlt), List.getElem_reverse]
            have w4 := wrap64 (x := (l.length : Int) - 1 - i - 1) (by omega) (by omega)
            simp [i2, l2, -aLdAgg_ptr, -List.length_append, -List.length_reverse, -List.length_take]
            have := app1W (lo := G0.next) (v := l[l.length - 1 - i]) (K := fun t66_48 H_49 => again2 [t66_48, .int .i64 (IntKind.i64.wrap ((l.length : Int) - 1 - i - 1))] H_49) (by have := hk3.next; exact this) hT3 (by rw [hll2]; simp at hb; omega) fun H4 hO4 hn4 hat4 => by
              rw [w4]
              have hk34 := hk3.next
              refine ha2 _ H4 hlt ⟨_, by rw [e3, ← List.append_assoc, List.length_append (bs := [_])]; simp only [List.length_singleton]; congr 3; omega, by rw [e3, ← List.append_assoc]; exact hO4, hB3.at hn4 fun y hy => hat4 _ (hB3.blkOf hy).2.2.1 fun x hx => hne x y hx hy, ⟨by omega, fun c hc => ?_⟩, ?_⟩
              · rw [hat4 c (by omega) fun x hx => by have := (hT3.blkOf hx).2.1; omega]
                exact hk3.at_ c hc
              · intro x y hx hy
                cases hx
                have := (hB3.blkOf hy).2.2.1
                dsimp only
                omega
            exact this
          · have hie : i = l.length := by omega
            subst hie
            have h1 : ¬ 0 ≤ (l.length : Int) - 1 - (l.length : Nat) := by omega
            simp only [nth_zero, nth_1, aBin_geq, bnd_some', decide_eq_false h1, aCond_false]
            have e4 : l.reverse.take l.length = l.reverse := by rw [← List.length_reverse, List.take_length]
            rw [e4] at hT3 ⊢
            have e5 : r.reverse ++ l.reverse = (l ++ r).reverse := by simp
            rw [e5] at hT3 ⊢
            rw [List.length_reverse]
            exact ha fn _ _ (by omega) ⟨T', l ++ r, fn, rfl, by omega, hT3, hk3, by omega, fun _ => by omega, by simp at hb ⊢; omega, by simpa using hrun⟩
end Go.Proofs.Ytngldjajfpbmbaa.A
