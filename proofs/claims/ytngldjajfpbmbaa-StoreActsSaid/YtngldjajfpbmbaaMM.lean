/- Contracts of functions that the statement reaches; each theorem carries its own conditions, the last theorem of the claim has none. -/
import Derived.Test.YtngldjajfpbmbaaML
set_option linter.unusedVariables false
set_option linter.unusedSimpArgs false
namespace Go.Proofs.Ytngldjajfpbmbaa.A
open Go Go.Abs

theorem c66 {H : AHeap} {p : Nat} {m : Sm} {F : Nat → Prop} (h : RS H p m F) : ACalls Try.prog 66 [Pt p] H fun r H' => r = .int .i64 m.used ∧ H' = H := by
  refine ACalls.eq (S66_calls ?_) rfl
  obtain ⟨A, os, NA, hX⟩ := h
  unfold S66
  simp [hX.hp]

/-- Unwrap, of plain syntax. -/
def Sm.unw (m : Sm) (v : V) : (Int × ByteArray) × Int := if okRef m v = true ∧ (m.ob v).kind = 10 then (((m.ob v).sk, (m.ob v).text), 0) else ((0, ⟨#[]⟩), 10)
theorem vin_eX {K : Nat → Prop} (k : Int) (s : ByteArray) : VIn K (.agg (eX k s).toArray) := by
  refine .agg fun i u hu => .plain ?_
  have hm : u ∈ eX k s := by
    have := List.mem_of_getElem? (l := eX k s) (i := i) (by simpa using hu)
    exact this
  simp at hm
  rcases hm with rfl | rfl | rfl | rfl | rfl | rfl | rfl | rfl <;> rfl
theorem c35 {H : AHeap} {p : Nat} {m : Sm} {F : Nat → Prop} (h : St H p m F) (v : V) : ACalls Try.prog 35 [Pt p, vV v] H fun r H' => r = .tuple #[.agg (eX (m.unw v).1.1 (m.unw v).1.2).toArray, .int .i64 (m.unw v).2] ∧ H' = H := by
  refine ACalls.eq' (S35_calls ?_) (vin_two (vin_eX _ _) (.plain rfl))
  obtain ⟨A, os, NA, mb, hX⟩ := id h
  have hk2 : ∀ x y, Keep H.next H ((H.alloc x).alloc y) := fun x y => ((Keep.refl _ _).alloc (Nat.le_refl _) _).alloc (by simp) _
  unfold S35
  obtain ⟨G, hG⟩ : ∃ X, X = (H.alloc (.cells (eV v) .var 28)).alloc (.cells [.int .i64 0, .string ⟨#[]⟩, .bool false, .slice none 0 0, .slice none 0 0, .int .i64 0, .slice none 0 0, .slice none 0 0] .var 79) := ⟨_, rfl⟩
  have hkG : Keep H.next H G := hG ▸ hk2 _ _
  have hnG : G.next = H.next + 2 := by rw [hG]; simp
  have g0 : G.at_ H.next = .cells (eV v) .var 28 := by rw [hG]; simp [at_alloc]
  have g1 : G.at_ (H.next + 1) = .cells (eX 0 ⟨#[]⟩) .var 79 := by rw [hG]; simp [at_alloc]
  have hv : vcells (vV v) = eV v := by simp
  have hok : (eV v).all okCell = true := by simp
  simp only [aBox_eq, hv, hok, true_and, aAlloc_eq, AHeap.next_alloc, eqPtr, bnd_some', aCond_false]
  rw [← hG]
  clear hG
  have hXG : StX G p m F A os NA mb := hX.frame hkG.next fun b hb => hkG.at_ b (hX.lt b hb)
  have hku : ∀ x, Keep H.next H (G.upd (H.next + 1) x) := fun x => hkG.upd (by omega) _
  simp only [ldV g0, bnd_some']
  refine (c62 hXG v).use ?_
  unfold S35_50 Sm.unw
  cases hr : okRef m v with
  | false =>
    simp
    unfold S35_41
    simp [g1, at_upd, hku]
  | true =>
    obtain ⟨a, b, cs, ho, ha, hs, hb, hat, hl, hc, hsl⟩ := hXG.look hr
    have l0 : aLdCell (.pointer (some ⟨b, v.2.toNat * 10, none⟩)) G = some (.int .i64 (m.ob v).kind) := by
      have := hc 0 (by omega)
      simp [encO] at this
      simp [hat, this]
    simp [hs, l0, -aLdCell_ptr]
    by_cases hk : (m.ob v).kind = 10
    · simp [hk]
      unfold S35_49
      have l2 : aLdAgg 8 (.pointer (some ⟨b, v.2.toNat * 10 + 2, none⟩)) G = some (.agg (eX (m.ob v).sk (m.ob v).text).toArray) := by
        have e : (cs.drop (v.2.toNat * 10 + 2)).take 8 = eX (m.ob v).sk (m.ob v).text := by
          refine List.ext_getElem? fun i => ?_
          rw [List.getElem?_take]
          split
          · rename_i hi
            rw [List.getElem?_drop, Nat.add_assoc, hc (2 + i) (by omega)]
            rw [show encO (m.ob v, a) = [.int .i64 (m.ob v).kind, .slice a (m.ob v).slots.length (m.ob v).slots.length] ++ eX (m.ob v).sk (m.ob v).text from rfl]
            rw [List.getElem?_append_right (by simp)]
            simp
          · rename_i hi
            rw [List.getElem?_eq_none (by simp; omega)]
        rw [aLdAgg_ptr, hat, blkAgg_cells, if_pos (by omega), e]
      simp only [hs, aNilCheck_ptr, bnd_some', aAdd_ptr, l2]
      refine (c65 _ _).use ?_
      simp [g1, at_upd, hku]
    · simp [hk]
      unfold S35_41
      simp [g1, at_upd, hku]

/-- Are both alike? -/
theorem l33_267 {G : AHeap} {q : Nat} {m : Sm} {F2 : Nat → Prop} {i : Nat} {t6 t11 : Nat} (hR : RS G q m F2) (hi : i ≤ m.objs.length) (hl : m.objs.length ≤ 1048576) (h6 : G.at_ t6 = .cells (eV (7, (i : Int))) .var 28) {again : List Value → AHeap → Prop} {R : Value → AHeap → Prop}
    (h11 : G.at_ t11 = .cells (eX (m.unw (7, (i : Int))).1.1 (m.unw (7, (i : Int))).1.2) .var 79) (ha : again [.int .i64 ((i + 1 : Nat) : Int)] G) :
    S33_267 (Pt q) R [.int .i64 i] again (Pt t6) (.int .i64 (m.unw (7, (i : Int))).2) (Pt t11) (.int .i64 (m.kindOf (7, (i : Int)))) G := by
  have w1 : IntKind.i64.wrap ((i : Int) + 1) = ((i + 1 : Nat) : Int) := by rw [wrap64 (by omega) (by omega)]; rfl
  unfold S33_267
  have lt : aLdCell (.pointer (some ⟨t11, 1, none⟩)) G = some (.string (m.unw (7, (i : Int))).1.2) := by simp [h11]
  by_cases hk : okRef m (7, (i : Int)) = true ∧ (m.ob (7, (i : Int))).kind = 10
  · have e1 : m.unw (7, (i : Int)) = (((m.ob (7, (i : Int))).sk, (m.ob (7, (i : Int))).text), 0) := by unfold Sm.unw; rw [if_pos hk]
    have e2 : m.kindOf (7, (i : Int)) = 10 := by unfold Sm.kindOf; rw [if_pos hk.1]; exact hk.2
    have hlt := okRef_iff.1 hk.1
    dsimp only at hlt
    obtain ⟨A, os, NA, hX⟩ := id hR
    have ho := ob_at hk.1
    dsimp only at ho
    rw [Int.toNat_natCast] at ho
    have hao : os[i]? = some (os[i]'(by rw [hX.len]; omega)) := List.getElem?_eq_getElem _
    obtain ⟨b, hA, hsb, hcb, _, _⟩ := hX.objs.cell (zip_at ho hao)
    have lp : aLdCell (.pointer (some ⟨q, 2, none⟩)) G = some (.slice A m.objs.length m.objs.length) := by simp [hX.hp]
    have i2 := hX.idx (k := .i64) (j := (i : Int)) (c := m.objs.length) (by omega) (by omega)
    rw [Int.toNat_natCast, hsb] at i2
    have l3 : aLdCell (.pointer (some ⟨b, i * 10 + 2 + 1, none⟩)) G = some (.string (m.ob (7, (i : Int))).text) := hcb 3 (by omega)
    have l6 := ldV h6
    simp only [e1, e2] at lt ⊢
    simp only [aBin_eql, bnd_some', decide_true, aGuardK_tt, aBin_neq, Bool.not_true, aGuardK_ff, aAdd_ptr, Nat.zero_add, lt, aNilCheck_ptr, lp, nth_zero, i2, l3, aBin_sneq, ba_beq, aPick_tt, aPick_ff, l6]
    refine (c52 hR (7, (i : Int))).use ?_
    simp only [e2, aBin_neq, bnd_some', decide_true, Bool.not_true, aGuardK_ft, aGuardK_ff, aPick_ff, aCond_false, aBin_add, w1, nth_zero]
    exact ha
  · have e1 : m.unw (7, (i : Int)) = ((0, ⟨#[]⟩), 10) := by unfold Sm.unw; rw [if_neg hk]
    have e2 : m.kindOf (7, (i : Int)) ≠ 10 := by
      unfold Sm.kindOf
      split
      · rename_i hr; exact fun e => hk ⟨hr, e⟩
      · decide
    have l6 := ldV h6
    simp only [e1]
    simp only [aBin_eql, bnd_some', decide_eq_false e2, aGuardK_ft, aGuardK_undef, aPick_ff, aGuardK_ff, l6]
    refine (c52 hR (7, (i : Int))).use ?_
    simp only [aBin_neq, bnd_some', decide_eq_false e2, Bool.not_false, aGuardK_tt, aGuardK_ff, decide_true, Bool.not_true, aPick_tt, aPick_ff, aCond_false, aBin_add, w1, nth_zero]
    exact ha
theorem get_slots2 {m : Sm} {v : V} {k : Nat} (h : k < (m.slotsOf v).length) : m.get v k = ((m.slotsOf v)[k], 0) := by
  cases hr : okRef m v with
  | false => simp [Sm.slotsOf, hr] at h
  | true =>
    have e : m.slotsOf v = (m.ob v).slots := by unfold Sm.slotsOf; rw [if_pos hr]
    simp only [e] at h ⊢
    unfold Sm.get
    rw [if_pos hr, if_pos ⟨by omega, by omega⟩]
    simp [List.getD_eq_getElem?_getD, h]
theorem l33_269 {G : AHeap} {p q : Nat} {m : Sm} {F F2 : Nat → Prop} {i t6 : Nat} {a : Option Addr} (hS : St G p m F) (hR : RS G q m F2) (hok : Ok m) (hi : i ≤ m.objs.length) (h6 : G.at_ t6 = .cells (eV (7, (i : Int))) .var 28) (hl6 : t6 < G.next) (hO : Ow 2 eV 28 0 G a (m.slotsOf (7, (i : Int)))) {again : List Value → AHeap → Prop} {R : Value → AHeap → Prop}
    (ha : ∀ G', Keep G.next G G' → again [.int .i64 ((i + 1 : Nat) : Int)] G') :
    aLoop [.int .i64 0] G fun vs H again2 => S33_269 (Pt p) (Pt q) R [.int .i64 i] again (Pt t6) (.slice a (m.slotsOf (7, (i : Int))).length (m.slotsOf (7, (i : Int))).length) vs H again2 := by
  have hlen := slotsOf_le hok.inv hok.vd (7, (i : Int))
  refine aLoop_st (m.slotsOf (7, (i : Int))).length (fun k => [.int .i64 k]) (fun k H' => Keep G.next G H') rfl (Keep.refl _ _) ?_
  rintro k H' again2 hk hkG ha2
  unfold S33_269
  have h6' : H'.at_ t6 = .cells (eV (7, (i : Int))) .var 28 := (hkG.at_ _ hl6).trans h6
  have l6 := ldV h6'
  have hn := hkG.next
  simp only [aLenSl_slice, bnd_some', nth_zero, aBin_lss]
  by_cases hlt : k < (m.slotsOf (7, (i : Int))).length
  · have hlt' : (k : Int) < (m.slotsOf (7, (i : Int))).length := by omega
    have w1 := wrap64 (x := (k : Int) + 1) (by omega) (by omega)
    simp only [decide_eq_true hlt', aCond_true, l6, bnd_some']
    refine (c18 (hS.kept hkG) (7, (i : Int)) k).use ?_
    rw [get_slots2 hlt]
    unfold S33_137
    obtain ⟨x, hx⟩ : ∃ x, x = (m.slotsOf (7, (i : Int)))[k] := ⟨_, rfl⟩
    rw [← hx]
    simp only [x0, x1, bnd_some', aAlloc_eq]
    have st := stV (H := H'.alloc (.cells [.int .i64 0, .int .i64 0] .var 28)) (t := H'.next) (u := (0, 0)) (v := x) (by simp)
    simp only [st, bnd_some']
    obtain ⟨K, hK⟩ : ∃ X, X = (H'.alloc (.cells [.int .i64 0, .int .i64 0] .var 28)).upd H'.next (.cells (eV x) .var 28) := ⟨_, rfl⟩
    rw [← hK]
    have hkK : Keep H'.next H' K := hK ▸ ((Keep.refl _ _).alloc (Nat.le_refl _) _).upd (Nat.le_refl _) _
    have k9 : K.at_ H'.next = .cells (eV x) .var 28 := by rw [hK]; simp
    clear hK
    have hkGK : Keep G.next G K := hkG.trans (hkK.lower hn)
    have hOK := hO.kept hkGK
    have i1 := hOK.rd.idx (k := .i64) (j := (k : Int)) (c := (m.slotsOf (7, (i : Int))).length) (by omega) (by omega)
    rw [Int.toNat_natCast] at i1
    have l1 := hOK.rd.agg hlt
    rw [← hx] at l1
    have l1' : aLdAgg 2 (slot 2 a k) K = some (vV x) := l1
    have l9 := ldV k9
    simp only [aBin_neq, bnd_some', decide_true, Bool.not_true, aGuardK_ff, l9, nth_zero, i1, l1', neV, aPick_ff, aCond_false, aBin_add, w1]
    exact ha2 _ hlt hkGK
  · have hlt' : ¬ (k : Int) < (m.slotsOf (7, (i : Int))).length := by omega
    simp only [decide_eq_false hlt', aCond_false, l6, bnd_some']
    refine (c35 (hS.kept hkG) (7, (i : Int))).use ?_
    unfold S33_268
    simp only [x0, x1, bnd_some', aAlloc_eq]
    have st : aSt 8 (Pt H'.next) (.agg (eX (m.unw (7, (i : Int))).1.1 (m.unw (7, (i : Int))).1.2).toArray) (H'.alloc (.cells [.int .i64 0, .string ⟨#[]⟩, .bool false, .slice none 0 0, .slice none 0 0, .int .i64 0, .slice none 0 0, .slice none 0 0] .var 79)) = some ((H'.alloc (.cells [.int .i64 0, .string ⟨#[]⟩, .bool false, .slice none 0 0, .slice none 0 0, .int .i64 0, .slice none 0 0, .slice none 0 0] .var 79)).upd H'.next (.cells (eX (m.unw (7, (i : Int))).1.1 (m.unw (7, (i : Int))).1.2) .var 79)) := by simp
    simp only [st, bnd_some']
    obtain ⟨K, hK⟩ : ∃ X, X = (H'.alloc (.cells [.int .i64 0, .string ⟨#[]⟩, .bool false, .slice none 0 0, .slice none 0 0, .int .i64 0, .slice none 0 0, .slice none 0 0] .var 79)).upd H'.next (.cells (eX (m.unw (7, (i : Int))).1.1 (m.unw (7, (i : Int))).1.2) .var 79) := ⟨_, rfl⟩
    rw [← hK]
    have hkK : Keep H'.next H' K := hK ▸ ((Keep.refl _ _).alloc (Nat.le_refl _) _).upd (Nat.le_refl _) _
    have k11 : K.at_ H'.next = .cells (eX (m.unw (7, (i : Int))).1.1 (m.unw (7, (i : Int))).1.2) .var 79 := by rw [hK]; simp
    clear hK
    have hkGK : Keep G.next G K := hkG.trans (hkK.lower hn)
    have k6 : K.at_ t6 = .cells (eV (7, (i : Int))) .var 28 := (hkGK.at_ _ hl6).trans h6
    simp only [ldV k6, bnd_some']
    refine (c52 (hR.kept hkGK) (7, (i : Int))).use ?_
    exact l33_267 (hR.kept hkGK) hi hok.inv.len k6 k11 (ha _ hkGK)

theorem c33 {H : AHeap} {p q : Nat} {m : Sm} {F F2 : Nat → Prop} (hS : St H p m F) (hR : RS H q m F2) (hok : Ok m) : ACalls Try.prog 33 [Pt p, Pt q] H fun r H' => r = .bool true ∧ H' = H := by
  refine ACalls.eq (S33_calls ?_) rfl
  unfold S33
  have hlen := hok.inv.len
  refine (c17 hS).use ?_
  refine (c66 hR).use ?_
  simp only [aBin_neq, bnd_some', decide_true, Bool.not_true, aCond_false]
  refine aLoop_st (m.objs.length + 1) (fun i => [.int .i64 i]) (fun i H' => Keep H.next H H') rfl (Keep.refl _ _) ?_
  rintro i H' again hi hk ha
  unfold S33_276
  obtain ⟨A, os, NA, hX⟩ := hR.kept hk
  have lp : aLdCell (.pointer (some ⟨q, 2, none⟩)) H' = some (.slice A m.objs.length m.objs.length) := by simp [hX.hp]
  simp only [aNilCheck_ptr, bnd_some', aAdd_ptr, Nat.zero_add, lp, aLenSl_slice, nth_zero, aBin_leq]
  by_cases hle : i ≤ m.objs.length
  · have hle' : (i : Int) ≤ m.objs.length := by omega
    simp only [decide_eq_true hle', aCond_true]
    unfold S33_275
    have fx : aFill [(.int .i64 0), (.int .i64 0)] [(0, 1, (.int .i64 7)), (1, 1, .int .i64 (i : Int))] = some (eV (7, (i : Int))) := by simp [aFill]
    have st := stV (H := H'.alloc (.cells [.int .i64 0, .int .i64 0] .var 28)) (t := H'.next) (u := (0, 0)) (v := (7, (i : Int))) (by simp)
    simp only [nth_zero, fx, bnd_some', aAlloc_eq, st]
    obtain ⟨G, hG⟩ : ∃ X, X = (H'.alloc (.cells [.int .i64 0, .int .i64 0] .var 28)).upd H'.next (.cells (eV (7, (i : Int))) .var 28) := ⟨_, rfl⟩
    have hkG : Keep H'.next H' G := hG ▸ ((Keep.refl _ _).alloc (Nat.le_refl _) _).upd (Nat.le_refl _) _
    have g6 : G.at_ H'.next = .cells (eV (7, (i : Int))) .var 28 := by rw [hG]; simp
    have gl : H'.next < G.next := by rw [hG]; simp
    rw [← hG]
    clear hG st
    have hkHG : Keep H.next H G := hk.trans (hkG.lower hk.next)
    have l6 := ldV g6
    simp only [bnd_some', l6]
    refine (c53 (hR.kept hkHG) (7, (i : Int))).mono fun r G1 ⟨⟨a, hr, hO, _⟩, hG1⟩ => ?_
    subst hr
    subst hG1
    simp only [bnd_some', l6]
    refine (c36 (hS.kept hkHG) (7, (i : Int))).use ?_
    simp only [bnd_some', l6, true_and]
    refine (c52 (hR.kept hkHG) (7, (i : Int))).use ?_
    unfold S33_273
    simp only [aBin_neq, bnd_some', decide_true, Bool.not_true, aGuardK_ff, l6, aLenSl_slice]
    refine (c37 (hS.kept hkHG) (7, (i : Int))).use ?_
    simp only [aBin_neq, bnd_some', decide_true, Bool.not_true, aGuardK_ff, l6, aPick_ff]
    refine (c30 (hS.kept hkHG) (7, (i : Int))).use ?_
    simp only [bnd_some', aGuardK_ff, l6, true_and]
    refine (c31 (hR.kept hkHG) (7, (i : Int))).use ?_
    have neB : ∀ b : Bool, aBin .neq .bool (.bool b) (.bool b) = some (.bool false) := by intro b; cases b <;> rfl
    simp only [neB, bnd_some', aGuardK_ff, aPick_ff, aCond_false]
    exact l33_269 (hS.kept hkHG) (hR.kept hkHG) hok hle g6 gl hO fun G' hk' => ha _ (by omega) (hkHG.trans (hk'.lower hkHG.next))
  · have hle' : ¬ (i : Int) ≤ m.objs.length := by omega
    simp only [decide_eq_false hle', aCond_false]
    exact ⟨trivial, hk⟩
end Go.Proofs.Ytngldjajfpbmbaa.A

set_option linter.unusedVariables false
set_option linter.unusedSimpArgs false
namespace Go.Proofs.Ytngldjajfpbmbaa.A
open Go Go.Abs

theorem StX.put' {H H' : AHeap} {p : Nat} {m : Sm} {F : Nat → Prop} {A : Option Addr} {os : List (Option Addr)} {NA : Option Addr} {mb : Nat} (h : StX H p m F A os NA mb) {o : Ob} {a : Option Addr}
    (ho : Ow 2 eV 28 0 H a o.slots) (hf : ∀ x, a = some x → ¬ F x.block) (hn : H.next ≤ H'.next) (hat : ∀ b, b < H.next → b ≠ p → (∀ x, A = some x → x.block ≠ b) → H'.at_ b = H.at_ b) {N : Nat} {u : Int} (hN : H.next ≤ N) (hN' : N < H'.next)
    (hp : H'.at_ p = .cells [.int .i64 m.lim, .int .i64 u, .slice (some ⟨N, 0, none⟩) (m.objs.length + 1) (m.objs.length + 1), .slice NA m.names.length m.names.length, .map (some mb)] .var 88)
    (hO : Ow 10 encO 94 0 H' (some ⟨N, 0, none⟩) (m.objs.zip os ++ [(o, a)])) : St H' p ⟨m.lim, u, m.objs ++ [o], m.names⟩ (fun b => F b ∨ (∃ x, a = some x ∧ x.block = b) ∨ b = N) := by
  have hrow : ∀ (cs : List Value) (n : Nat) (t : TypeId) (b : Nat), H.at_ b = .cells cs (.row n) t → n ≠ 10 → b ≠ p ∧ ∀ x, A = some x → x.block ≠ b := by
    intro cs n t b hb hn10
    refine ⟨?_, ?_⟩
    · rintro rfl
      rw [h.hp] at hb
      cases hb
    · rintro x rfl e
      rcases h.objs.2 with ⟨h1, _⟩ | ⟨c, ds, h1, _, _, h2, _⟩
      · cases h1
      · cases h1
        rw [← e, h2] at hb
        cases hb
        exact hn10 rfl
  have hlen := h.len
  have hlta : ∀ x, a = some x → x.block < H.next := by
    rintro x rfl
    rcases ho.2 with ⟨h1, _⟩ | ⟨c, ds, h1, _, h3, _⟩
    · cases h1
    · cases h1; exact h3
  have hrow2 : ∀ {b : Option Addr} {xs : List V}, Ow 2 eV 28 0 H b xs → Ow 2 eV 28 0 H' b xs := by
    intro b xs hb
    refine hb.at hn ?_
    rintro x rfl
    rcases hb.2 with ⟨h1, _⟩ | ⟨c, ds, h1, _, h3, h4, _⟩
    · cases h1
    · cases h1
      have := hrow _ _ _ _ h4 (by omega)
      exact hat _ h3 this.1 this.2
  refine ⟨some ⟨N, 0, none⟩, os ++ [a], NA, mb, ?_⟩
  refine ⟨by simp [hlen], ?_, ?_, ?_, ?_, ?_, ?_, .inl h.fp, ?_, ?_, ?_, .inl h.fm, ?_⟩
  · simpa using hp
  · have e : (m.objs ++ [o]).zip (os ++ [a]) = m.objs.zip os ++ [(o, a)] := by rw [List.zip_append hlen.symm]; rfl
    rw [e]; exact hO
  · intro i o' a' h1 h2
    dsimp only at h1
    rw [List.getElem?_append] at h1 h2
    rw [hlen] at h2
    split at h1
    · rename_i hi
      rw [if_pos hi] at h2
      exact hrow2 (h.slots i o' a' h1 h2)
    · rename_i hi
      rw [if_neg hi] at h2
      cases hi' : i - m.objs.length with
      | zero => rw [hi'] at h1 h2; simp at h1 h2; subst h1; subst h2; exact hrow2 ho
      | succ k => rw [hi'] at h1; simp at h1
  · have key : ∀ (i : Nat) (x : Addr), (os ++ [a])[i]? = some (some x) → (i < os.length ∧ os[i]? = some (some x)) ∨ (i = os.length ∧ a = some x) := by
      intro i x hx
      rw [List.getElem?_append] at hx
      split at hx
      · rename_i hi; exact .inl ⟨hi, hx⟩
      · rename_i hi
        cases hi' : i - os.length with
        | zero => rw [hi'] at hx; simp at hx; exact .inr ⟨by omega, hx⟩
        | succ k => rw [hi'] at hx; simp at hx
    intro i j x y hx hy hxy
    rcases key i x hx with ⟨h1, h2⟩ | ⟨h1, h2⟩ <;> rcases key j y hy with ⟨h3, h4⟩ | ⟨h3, h4⟩
    · exact h.dist i j x y h2 h4 hxy
    · exact absurd (hxy ▸ h.fo i x h2) (hf y h4)
    · exact absurd (hxy.symm ▸ h.fo j y h4) (hf x h2)
    · omega
  · refine h.names.at hn ?_
    rintro x rfl
    rcases h.names.2 with ⟨h1, _⟩ | ⟨c, ds, h1, _, h3, h4, _⟩
    · cases h1
    · cases h1
      have := hrow _ _ _ _ h4 (by omega)
      exact hat _ h3 this.1 this.2
  · rw [hat mb (h.lt _ h.fm) ?_ ?_]
    · exact h.map
    · rintro rfl
      have := h.map
      rw [h.hp] at this
      cases this
    · rintro x rfl e
      rcases h.objs.2 with ⟨h1, _⟩ | ⟨c, ds, h1, _, _, h2, _⟩
      · cases h1
      · cases h1
        have := h.map
        rw [← e, h2] at this
        cases this
  · intro x hx
    cases hx
    exact .inr (.inr rfl)
  · intro i x hx
    rw [List.getElem?_append] at hx
    split at hx
    · exact .inl (h.fo i x hx)
    · rename_i hi
      cases hi' : i - os.length with
      | zero => rw [hi'] at hx; simp at hx; exact .inr (.inl ⟨x, hx, rfl⟩)
      | succ k => rw [hi'] at hx; simp at hx
  · intro x hx; exact .inl (h.fN x hx)
  · rintro b (hb | ⟨x, hx, rfl⟩ | rfl)
    · exact Nat.lt_of_lt_of_le (h.lt b hb) hn
    · exact Nat.lt_of_lt_of_le (hlta x hx) hn
    · exact hN'

/-- Clone, of texts. -/
theorem c64 {H : AHeap} {lo : Nat} {A : Option Addr} {xs : List ByteArray} (hlo : lo ≤ H.next) (hA : Rd 1 eS lo H A xs) (hn : xs.length ≤ 2097152) :
    ACalls Try.prog 64 [.slice A xs.length xs.length] H fun r H' => ∃ B, r = .slice B xs.length xs.length ∧ Ow 1 eS 9 H.next H' B xs ∧ Keep H.next H H' := by
  refine S64_calls ?_
  unfold S64
  cases A with
  | none =>
    have : xs = [] := by
      rcases hA.2 with ⟨_, h⟩ | ⟨b, o, cs, k, t, h, _⟩
      · exact h
      · cases h
    subst this
    simp
    exact Ow.nil _ _ _ _ _
  | some a =>
    have ha : ∃ b o, a = ⟨b, o, none⟩ := by
      rcases hA.2 with ⟨h, _⟩ | ⟨b, o, cs, k, t, h, _⟩
      · cases h
      · cases h; exact ⟨b, o, rfl⟩
    have hO : Ow 1 eS 9 H.next (H.alloc (.cells [] (.row 1) 9)) (some ⟨H.next, 0, none⟩) [] := Ow.new H [] (by simp) rfl
    have fin := hO.append (bytes := 16) (c := 0) (c' := xs.length) (hA.alloc hlo (.cells [] (.row 1) 9)) (by simp) (by simp only [maxLen, List.length_nil]; omega) (by simp only [List.length_nil]; omega) (K := fun t7_3 H_4 => ∃ B, t7_3 = Value.slice B xs.length xs.length ∧ Ow 1 eS 9 H.next H_4 B xs ∧ Keep H.next H H_4) fun H' h1 h2 h3 h4 => by
      refine ⟨_, rfl, by simpa using h1, ?_⟩
      exact ((Keep.refl _ _).alloc (Nat.le_refl _) _).trans h4
    obtain ⟨b, o, rfl⟩ := ha
    by_cases hx : xs.length = 0
    · have hx' : xs = [] := List.eq_nil_of_length_eq_zero hx
      subst hx'
      simp only [List.length_nil]
      rw [aSlEq_emp]
      refine ⟨?_, ?_⟩
      · simp
        exact Ow.nil _ _ _ _ _
      · simp only [List.length_nil] at fin
        simpa using fin
    · rw [aSlEq_some _ _ hx]
      simpa using fin

def cpM (m : Sm) (i : Nat) : Sm := ⟨m.lim, m.used, m.objs.take i, m.names⟩

/-- One object, copied. -/
theorem l32_74 {H0 H : AHeap} {p q : Nat} {m : Sm} {F F2 : Nat → Prop} {A : Option Addr} {os : List (Option Addr)} {NA : Option Addr} {mb : Nat} (hX0 : StX H0 p m F A os NA mb) (hok : Ok m) (hk : Keep H0.next H0 H) {i : Nat} (hi : i < m.objs.length) (hS : St H q (cpM m i) F2) (hF2 : ∀ b, F2 b → H0.next ≤ b) {again : List Value → AHeap → Prop}
    (ha : ∀ H' F', Keep H0.next H0 H' → St H' q (cpM m (i + 1)) F' → (∀ b, F' b → H0.next ≤ b) → again [.int .i64 ((i + 1 : Nat) : Int)] H') :
    S32_74 (Pt q) (.slice A m.objs.length m.objs.length) [.int .i64 i] H again := by
  unfold S32_74
  have hX : StX H p m F A os NA mb := hX0.frame hk.next fun b hb => hk.at_ b (hX0.lt b hb)
  obtain ⟨o, ho⟩ : ∃ o, m.objs[i]? = some o := ⟨_, List.getElem?_eq_getElem hi⟩
  obtain ⟨a, hao⟩ : ∃ a, os[i]? = some a := ⟨_, List.getElem?_eq_getElem (by rw [hX.len]; exact hi)⟩
  have hol := slots_le hok.inv hok.vd o (List.mem_of_getElem? ho)
  have hlen := hok.inv.len
  have i1 := hX.idx (k := .i64) (j := (i : Int)) (c := m.objs.length) (by omega) (by omega)
  rw [Int.toNat_natCast] at i1
  have hlt2 : i < (m.objs.zip os).length := by rw [hX.zlen]; exact hi
  have l1 := hX.objs.rd.agg hlt2
  have ez : (m.objs.zip os)[i] = (o, a) := by
    have := zip_at ho hao
    rw [List.getElem?_eq_getElem hlt2] at this
    exact Option.some.inj this
  rw [ez] at l1
  simp only [nth_zero, i1, l1, bnd_some', aAlloc_eq]
  have st : aSt 10 (Pt H.next) (.agg (encO (o, a)).toArray) (H.alloc (.cells [(.int .i64 0), (.slice none 0 0), (.int .i64 0), (.string ⟨#[]⟩), (.bool false), (.slice none 0 0), (.slice none 0 0), (.int .i64 0), (.slice none 0 0), (.slice none 0 0)] .var 94)) = some ((H.alloc (.cells [(.int .i64 0), (.slice none 0 0), (.int .i64 0), (.string ⟨#[]⟩), (.bool false), (.slice none 0 0), (.slice none 0 0), (.int .i64 0), (.slice none 0 0), (.slice none 0 0)] .var 94)).upd H.next (.cells (encO (o, a)) .var 94)) := by simp [encO]
  simp only [st, bnd_some']
  obtain ⟨G, hG⟩ : ∃ X, X = (H.alloc (.cells [(.int .i64 0), (.slice none 0 0), (.int .i64 0), (.string ⟨#[]⟩), (.bool false), (.slice none 0 0), (.slice none 0 0), (.int .i64 0), (.slice none 0 0), (.slice none 0 0)] .var 94)).upd H.next (.cells (encO (o, a)) .var 94) := ⟨_, rfl⟩
  rw [← hG]
  have hkG : Keep H.next H G := hG ▸ ((Keep.refl _ _).alloc (Nat.le_refl _) _).upd (Nat.le_refl _) _
  have g7 : G.at_ H.next = .cells (encO (o, a)) .var 94 := by rw [hG]; simp
  have nG : G.next = H.next + 1 := by rw [hG]; simp
  clear hG st l1 i1
  obtain ⟨A2, os2, NA2, mb2, hX2⟩ := hS.kept hkG
  have hkHG : Keep H0.next H0 G := hk.trans (hkG.lower hk.next)
  have hn0 := hkHG.next
  have hXG : StX G p m F A os NA mb := hX0.frame hkHG.next fun b hb => hkHG.at_ b (hX0.lt b hb)
  have cl : (cpM m i).objs.length = i := by simp [cpM]; omega
  have e56 : ∀ H', H'.at_ q = G.at_ q → aLdCell (.pointer (some ⟨q, 2, none⟩)) H' = some (.slice A2 i i) := by
    intro H' h
    rw [aLdCell_ptr, h, hX2.hp]
    simp [cl]
  have e58 : ∀ H', H'.at_ H.next = G.at_ H.next → aLdCell (.pointer (some ⟨H.next, 0, none⟩)) H' = some (.int .i64 o.kind) := by
    intro H' h
    rw [aLdCell_ptr, h, g7]
    simp [encO]
  have e60 : aLdCell (.pointer (some ⟨H.next, 1, none⟩)) G = some (.slice a o.slots.length o.slots.length) := by
    rw [aLdCell_ptr, g7]
    simp [encO]
  have e63 : ∀ H', H'.at_ H.next = G.at_ H.next → aLdAgg 8 (.pointer (some ⟨H.next, 2, none⟩)) H' = some (.agg (eX o.sk o.text).toArray) := by
    intro H' h
    rw [aLdAgg_ptr, h, g7]
    simp [encO]
  simp only [aNilCheck_ptr, bnd_some', aAdd_ptr, Nat.zero_add, e56 G rfl, e58 G rfl, e60, e63 G rfl]
  have hOs := hXG.slots i o a ho hao
  refine (c42 (Nat.le_refl _) hOs.rd (by omega) (by simp)).mono fun r H2 ⟨B, hr, hB, hk2⟩ => ?_
  subst hr
  have q2 : H2.at_ q = G.at_ q := hk2.at_ _ (hX2.lt _ hX2.fp)
  have t2 : H2.at_ H.next = G.at_ H.next := hk2.at_ _ (by omega)
  simp only [e56 H2 q2, e58 H2 t2, e63 H2 t2, bnd_some', true_and]
  refine (c65 o.sk o.text).use ?_
  unfold S32_70
  have fx : aFill [(.int .i64 0), (.slice none 0 0), (.int .i64 0), (.string ⟨#[]⟩), (.bool false), (.slice none 0 0), (.slice none 0 0), (.int .i64 0), (.slice none 0 0), (.slice none 0 0)] [(0, 1, .int .i64 o.kind), (1, 1, .slice B o.slots.length o.slots.length), (2, 8, .agg (eX o.sk o.text).toArray)] = some (encO (o, B)) := by simp [aFill, encO]
  simp only [e56 H2 q2, e58 H2 t2, bnd_some', true_and, fx, aBuildSlice_eq]
  have n2 := hk2.next
  have hX3 : StX H2 q (cpM m i) F2 A2 os2 NA2 mb2 := hX2.frame hk2.next fun b hb => hk2.at_ b (hX2.lt b hb)
  have hR : Rd 10 encO (H2.next + 1) (H2.alloc (.cells (encO (o, B)) (.row 10) 94)) (some ⟨H2.next, 0, none⟩) [(o, B)] := Rd.mk' (by simp [encO]) (by omega) (AHeap.at_alloc_new _ _) (by simp) (by simp) (by simp [encO])
  have hz := hX3.zlen
  rw [cl] at hz
  have hA2p : ∀ x, A2 = some x → x.block ≠ q := by
    rintro x hx e
    obtain ⟨_, _, _, ds, hds⟩ := hX3.objs.blkOf hx
    rw [e, hX3.hp] at hds
    cases hds
  have := (hX3.objs.alloc (.cells (encO (o, B)) (.row 10) 94)).append (bytes := 168) (c := i) (c' := 1) (K := fun t H_63 => bnd (aSt 1 (.pointer (some ⟨q, 2, none⟩)) t H_63) fun H_66 => bnd (aBin .add .no (.int .i64 i) (.int .i64 1)) fun t70 => again [t70] H_66) hR (Nat.zero_le _) (by rw [hz]; simp only [maxLen, List.length_singleton]; omega) (by rw [hz]; simp only [List.length_singleton]; omega) fun H3 h1 h2 h3 _ => by
    have hql := hX3.lt _ hX3.fp
    simp at h1 h2 h3
    have e3 : H3.at_ q = H2.at_ q := by
      rw [h3 q (by omega) fun o' s hh => hA2p _ hh rfl, AHeap.at_alloc_ne _ _ (by omega)]
    have w1 := wrap64 (x := (i : Int) + 1) (by omega) (by omega)
    rw [List.length_append, hz, List.length_singleton]
    simp [e3, hX3.hp, w1]
    have et : m.objs.take (i + 1) = (cpM m i).objs ++ [o] := by
      rw [List.take_succ_eq_append_getElem hi]
      rw [List.getElem?_eq_getElem hi] at ho
      rw [Option.some.inj ho]
      rfl
    have hBb : ∀ x, B = some x → G.next ≤ x.block ∧ x.block < H2.next := fun x hx => ⟨(hB.blkOf hx).2.1, (hB.blkOf hx).2.2.1⟩
    have := hX3.put' (H' := H3.upd q (.cells [.int .i64 m.lim, .int .i64 m.used, .slice (some ⟨H2.next + 1, 0, none⟩) (i + 1) (i + 1), .slice NA2 m.names.length m.names.length, .map (some mb2)] .var 88)) (o := o) (a := B) (N := H2.next + 1) (u := m.used) (hB.lower (Nat.zero_le _)) (fun x hx hf => ?_) (by simp; omega) (fun b hb hbq hbA => ?_) (by omega) (by simp; omega) (by simp [cpM]; omega) ?_
    · have e : (⟨(cpM m i).lim, m.used, (cpM m i).objs ++ [o], (cpM m i).names⟩ : Sm) = cpM m (i + 1) := by simp only [cpM] at et ⊢; rw [et]
      rw [e] at this
      refine ha _ _ ⟨by simp; omega, fun b hb => ?_⟩ this fun b hb => ?_
      · have hbq : b ≠ q := by rintro rfl; have := hF2 _ hX3.fp; omega
        rw [AHeap.at_upd_ne _ _ hbq, h3 b (by omega) fun o' s hh => by have := hF2 _ (hX3.fA _ hh); dsimp only at this; omega, AHeap.at_alloc_ne _ _ (by omega), hk2.at_ b (by omega)]
        exact hkHG.at_ b hb
      · rcases hb with hb | ⟨x, hx, rfl⟩ | rfl
        · exact hF2 b hb
        · have := (hBb x hx).1; omega
        · omega
    · have := (hBb x hx).1
      have := hX2.lt _ hf
      omega
    · rw [AHeap.at_upd_ne _ _ hbq, h3 b (by omega) fun o' s hh => hbA _ hh rfl, AHeap.at_alloc_ne _ _ (by omega)]
    · refine h1.at (Nat.le_refl _) fun x hx => ?_
      cases hx
      exact AHeap.at_upd_ne _ _ (by show H2.next + 1 ≠ q; omega)
  rw [hz] at this
  have e1 : (encO (o, B)).all okCell = true := by simp [encO]
  simp [encO] at this ⊢
  exact this
end Go.Proofs.Ytngldjajfpbmbaa.A

set_option linter.unusedVariables false
set_option linter.unusedSimpArgs false
namespace Go.Proofs.Ytngldjajfpbmbaa.A
open Go Go.Abs

theorem nodup_take {ns : List ByteArray} (h : ns.Nodup) {i : Nat} (hi : i < ns.length) : (ns.take i).findIdx? (fun t => decide (ns[i] = t)) = none := by
  rw [List.findIdx?_eq_none_iff]
  intro t ht
  obtain ⟨j, hj, rfl⟩ := List.getElem_of_mem ht
  simp at hj
  rw [List.getElem_take]
  have : ns[i] ≠ ns[j] := fun e => by
    exact (List.pairwise_iff_getElem.1 h) j i (by omega) hi (by omega) e.symm
  simp [this]

theorem c32 {H : AHeap} {p : Nat} {m : Sm} {F : Nat → Prop} (h : St H p m F) (hok : Ok m) (hnl : m.names.length ≤ 1048576) : ACalls Try.prog 32 [Pt p] H fun r H' => ∃ q F', r = Pt q ∧ St H' q m F' ∧ Keep H.next H H' ∧ ∀ b, F' b → H.next ≤ b := by
  refine S32_calls ?_
  unfold S32
  obtain ⟨A, os, NA, mb, hX⟩ := id h
  have hlen := hok.inv.len
  have hpl := h.lt p h.fp
  simp only [eqPtr, bnd_some', aCond_false]
  unfold S32_80
  have p0 : ∀ H', H'.at_ p = H.at_ p → aLdCell (.pointer (some ⟨p, 0, none⟩)) H' = some (.int .i64 m.lim) := by intro H' e; rw [aLdCell_ptr, e, hX.hp]; rfl
  have p1 : ∀ H', H'.at_ p = H.at_ p → aLdCell (.pointer (some ⟨p, 1, none⟩)) H' = some (.int .i64 m.used) := by intro H' e; rw [aLdCell_ptr, e, hX.hp]; rfl
  have p2 : ∀ H', H'.at_ p = H.at_ p → aLdCell (.pointer (some ⟨p, 2, none⟩)) H' = some (.slice A m.objs.length m.objs.length) := by intro H' e; rw [aLdCell_ptr, e, hX.hp]; rfl
  have p3 : ∀ H', H'.at_ p = H.at_ p → aLdCell (.pointer (some ⟨p, 3, none⟩)) H' = some (.slice NA m.names.length m.names.length) := by intro H' e; rw [aLdCell_ptr, e, hX.hp]; rfl
  simp only [aNilCheck_ptr, bnd_some', aAdd_ptr, Nat.zero_add, p0 H rfl, p1 H rfl, p3 H rfl, aMakeMap]
  obtain ⟨G, hG⟩ : ∃ X, X = H.alloc (.map []) := ⟨_, rfl⟩
  rw [← hG]
  have hkG : Keep H.next H G := hG ▸ (Keep.refl _ _).alloc (Nat.le_refl _) _
  have gm : G.at_ H.next = .map [] := by rw [hG]; simp
  have nG : G.next = H.next + 1 := by rw [hG]; simp
  clear hG
  have hNG : Ow 1 eS 9 0 G NA m.names := hX.names.kept hkG
  refine (c64 (Nat.le_refl _) hNG.rd (by omega)).mono fun r H2 ⟨NB, hr, hNB, hk2⟩ => ?_
  subst hr
  have n2 := hk2.next
  have hkH2 : Keep H.next H H2 := hkG.trans (hk2.lower (by omega))
  have m2 : H2.at_ H.next = .map [] := by rw [hk2.at_ _ (by omega)]; exact gm
  unfold S32_79
  have eb : blkOf (.map (some H.next)) = H.next := rfl
  have fx : aFill [(.int .i64 0), (.int .i64 0), (.slice none 0 0), (.slice none 0 0), (.map none)] [(0, 1, .int .i64 m.lim), (1, 1, .int .i64 m.used), (3, 1, .slice NB m.names.length m.names.length), (4, 1, .map (some H.next))] = some [.int .i64 m.lim, .int .i64 m.used, .slice none 0 0, .slice NB m.names.length m.names.length, .map (some H.next)] := by simp [aFill]
  simp only [p0 H2 (hkH2.at_ _ hpl), p1 H2 (hkH2.at_ _ hpl), bnd_some', true_and, eb, m2, gm, fx, aBox_eq, vcells_agg]
  refine ⟨by simp, ?_⟩
  obtain ⟨q, hq⟩ : ∃ q, q = H2.next := ⟨_, rfl⟩
  obtain ⟨K, hK⟩ : ∃ X, X = H2.alloc (.cells [.int .i64 m.lim, .int .i64 m.used, .slice none 0 0, .slice NB m.names.length m.names.length, .map (some H.next)] .var 88) := ⟨_, rfl⟩
  simp only [← hK]
  rw [← hq]
  have hkK : Keep H2.next H2 K := hK ▸ (Keep.refl _ _).alloc (Nat.le_refl _) _
  have kq : K.at_ q = .cells [.int .i64 m.lim, .int .i64 m.used, .slice none 0 0, .slice NB m.names.length m.names.length, .map (some H.next)] .var 88 := by rw [hK, hq]; simp
  have nK : K.next = H2.next + 1 := by rw [hK]; simp
  clear hK
  have hkHK : Keep H.next H K := hkH2.trans (hkK.lower (by omega))
  have km : K.at_ H.next = .map [] := by rw [hkK.at_ _ (by omega)]; exact m2
  have hNBK : Ow 1 eS 9 G.next K NB m.names := hNB.kept hkK
  simp only [aNilCheck_ptr, bnd_some', aAdd_ptr, Nat.zero_add, p3 K (hkHK.at_ _ hpl), aLenSl_slice]
  refine aLoop_vs m.names.length (fun i vs H' => vs = [.int .i64 i] ∧ H' = K.upd H.next (.map (entries (m.names.take i)))) ⟨rfl, ?_⟩ ?_
  · have e : entries (m.names.take 0) = [] := rfl
    rw [e]
    refine AHeap.ext' rfl fun b => ?_
    by_cases hb : b = H.next
    · subst hb; rw [AHeap.at_upd_same]; exact km
    · rw [AHeap.at_upd_ne _ _ hb]
  rintro i vs H' again hi ⟨rfl, rfl⟩ ha
  unfold S32_76
  have pat : (K.upd H.next (.map (entries (m.names.take i)))).at_ p = H.at_ p := by rw [AHeap.at_upd_ne _ _ (by omega)]; exact hkHK.at_ _ hpl
  have hqm : q ≠ H.next := by omega
  have qat : (K.upd H.next (.map (entries (m.names.take i)))).at_ q = .cells [.int .i64 m.lim, .int .i64 m.used, .slice none 0 0, .slice NB m.names.length m.names.length, .map (some H.next)] .var 88 := by rw [AHeap.at_upd_ne _ _ hqm]; exact kq
  have hkM : Keep H.next H (K.upd H.next (.map (entries (m.names.take i)))) := hkHK.upd (Nat.le_refl _) _
  simp only [nth_zero, aBin_lss, bnd_some']
  by_cases hlt : i < m.names.length
  · have hlt' : (i : Int) < m.names.length := by omega
    have w1 := wrap64 (x := (i : Int) + 1) (by omega) (by omega)
    have hN' : Ow 1 eS 9 0 (K.upd H.next (.map (entries (m.names.take i)))) NA m.names := hX.names.kept hkM
    have i1 := hN'.rd.idx (k := .i64) (j := (i : Int)) (c := m.names.length) (by omega) (by omega)
    rw [Int.toNat_natCast] at i1
    have l1 := hN'.rd.ld (enc := Value.string) hlt
    have l4 : aLdCell (.pointer (some ⟨q, 4, none⟩)) (K.upd H.next (.map (entries (m.names.take i)))) = some (.map (some H.next)) := by rw [aLdCell_ptr, qat]; rfl
    have hpp := entries_put m.names[i] (m.names.take i) (nodup_take hok.nd hlt)
    have hl : (m.names.take i).length = i := by simp; omega
    rw [hl] at hpp
    have et : m.names.take i ++ [m.names[i]] = m.names.take (i + 1) := (List.take_succ_eq_append_getElem hlt).symm
    rw [et] at hpp
    have eu : aMapUpd (.map (some H.next)) (.string m.names[i]) (.int .i64 (i : Int)) (K.upd H.next (.map (entries (m.names.take i)))) = some (K.upd H.next (.map (entries (m.names.take (i + 1))))) := by
      have e2 : (K.upd H.next (.map (entries (m.names.take i)))).upd H.next (.map (entries (m.names.take (i + 1)))) = K.upd H.next (.map (entries (m.names.take (i + 1)))) := by
        refine AHeap.ext' rfl fun b => ?_
        by_cases hb : b = H.next
        · subst hb; rw [AHeap.at_upd_same, AHeap.at_upd_same]
        · rw [AHeap.at_upd_ne _ _ hb, AHeap.at_upd_ne _ _ hb, AHeap.at_upd_ne _ _ hb]
      simp only [aMapUpd, AHeap.at_upd_same, hpp, Option.map_some, e2]
    simp only [decide_eq_true hlt', aCond_true]
    unfold S32_32
    simp only [nth_zero, i1, bnd_some', l1, aNilCheck_ptr, aAdd_ptr, Nat.zero_add, l4, eu, aBin_add, w1]
    exact ha _ _ hlt ⟨rfl, rfl⟩
  · have hie : i = m.names.length := by omega
    have hlt' : ¬ (i : Int) < m.names.length := by omega
    subst hie
    rw [List.take_length] at pat qat hkM ⊢
    simp only [decide_eq_false hlt', aCond_false, aNilCheck_ptr, bnd_some', aAdd_ptr, Nat.zero_add, p2 _ pat, aLenSl_slice]
    have hNBM : Ow 1 eS 9 0 (K.upd H.next (.map (entries m.names))) NB m.names := by
      refine (hNBK.lower (Nat.zero_le _)).at (Nat.le_refl _) fun x hx => AHeap.at_upd_ne _ _ ?_
      have := (hNBK.blkOf hx).2.1
      omega
    have hS0 : St (K.upd H.next (.map (entries m.names))) q (cpM m 0) (fun b => b = q ∨ b = H.next ∨ ∃ x, NB = some x ∧ x.block = b) := by
      refine ⟨none, [], NB, H.next, ?_⟩
      refine ⟨by simp [cpM], ?_, ?_, fun i o a h1 h2 => (by simp [cpM] at h1), fun i j a b h1 => (by simp at h1), hNBM, ?_, .inl rfl, fun a ha => (by cases ha), fun i a h1 => (by simp at h1), fun a ha => .inr (.inr ⟨a, ha, rfl⟩), .inr (.inl rfl), ?_⟩
      · rw [qat]; simp [cpM]
      · simp [cpM]; exact Ow.nil _ _ _ _ _
      · simp [cpM]
      · rintro b (rfl | rfl | ⟨x, hx, rfl⟩)
        · show b < K.next; omega
        · show H.next < K.next; omega
        · have := (hNBM.blkOf hx).2.2.1
          exact this
    have hF0 : ∀ b, (b = q ∨ b = H.next ∨ ∃ x, NB = some x ∧ x.block = b) → H.next ≤ b := by
      rintro b (rfl | rfl | ⟨x, hx, rfl⟩)
      · omega
      · omega
      · have := (hNBK.blkOf hx).2.1; omega
    refine aLoop_vs m.objs.length (fun i vs H' => vs = [.int .i64 i] ∧ Keep H.next H H' ∧ ∃ F', St H' q (cpM m i) F' ∧ ∀ b, F' b → H.next ≤ b) ⟨rfl, hkM, _, hS0, hF0⟩ ?_
    clear hS0 hF0 ha
    rintro i vs H' again2 hi ⟨rfl, hk, F2, hS, hF2⟩ ha2
    unfold S32_75
    simp only [nth_zero, aBin_lss, bnd_some']
    by_cases hlt : i < m.objs.length
    · have hlt2 : (i : Int) < m.objs.length := by omega
      simp only [decide_eq_true hlt2, aCond_true]
      exact l32_74 hX hok hk hlt hS hF2 fun H3 F3 g1 g2 g3 => ha2 _ H3 hlt ⟨rfl, g1, F3, g2, g3⟩
    · have hie : i = m.objs.length := by omega
      have hlt2 : ¬ (i : Int) < m.objs.length := by omega
      subst hie
      simp only [decide_eq_false hlt2, aCond_false]
      have e : cpM m m.objs.length = m := by unfold cpM; rw [List.take_length]
      rw [e] at hS
      exact ⟨q, F2, rfl, hS, hk, hF2⟩
end Go.Proofs.Ytngldjajfpbmbaa.A

set_option linter.unusedVariables false
set_option linter.unusedSimpArgs false
namespace Go.Proofs.Ytngldjajfpbmbaa.A
open Go Go.Abs

theorem neqB (a b : Bool) : aBin .neq .bool (.bool a) (.bool b) = some (.bool (!(a == b))) := nr rfl

theorem l11_203 {H0 H : AHeap} {p q lo : Nat} {m : Sm} {A : Option Addr} {xs : List ActT} {i : Nat} {vp : Value} (h : Ac H0 H p q m m (fun _ => False) []) (hlo : lo ≤ H0.next) (hA : Acs lo H0 A xs) (hi : i < xs.length) (hi2 : i < 60) (hml : m.names.length ≤ i) (hx : xs[i].xs.length ≤ 100) {again : List Value → AHeap → Prop} {R : Value → AHeap → Prop}
    (ha : ∀ H' m', Ac H0 H' p q m' m' (fun _ => False) [] → m'.names.length ≤ i + 1 → again [Pt p, .int .i64 ((i + 1 : Nat) : Int)] H') :
    S11_203 (.slice A xs.length xs.length) R (Pt q) [vp, .int .i64 i] again [Pt p] H := by
  unfold S11_203
  have hA' := hA.kept (h.keepLo hlo fun b hb => hb.elim)
  obtain ⟨b, o, i1, _, l3, l9⟩ := hA'.at hi
  have w1 := wrap64 (x := (i : Int) + 1) (by omega) (by omega)
  simp only [nth_zero, nth_1, eqPtr, bnd_some', aGuardK_ff, i1, l9]
  refine (h.call hlo (fun b hb => hb.elim) (hA.slots _ (List.getElem_mem hi)) hx (by omega) (hA.text _ (List.getElem_mem hi))).mono fun r H2 ⟨hr, m', hac, hml'⟩ => ?_
  subst hr
  simp only [aUn_not, bnd_some', Bool.not_true, aPick_ff, aGuardK_ff]
  obtain ⟨U, hb, _, _⟩ := hac.ex
  obtain ⟨F, G, hS, hR, _, _⟩ := hb.ex
  refine (c33 hS hR hb.okm).use ?_
  simp only [aUn_not, bnd_some', Bool.not_true, aPick_ff, aCond_false, aBin_add, w1]
  exact ha _ m' hac (by omega)

theorem l11_207 {H0 H : AHeap} {p q lo : Nat} {m : Sm} {A : Option Addr} {xs : List ActT} (h : Ac H0 H p q m m (fun _ => False) []) (hlo : lo ≤ H0.next) (hA : Acs lo H0 A xs) (hm : m.names = []) :
    aLoop [Pt p, .int .i64 0] H fun vs H again => S11_206 (.slice A xs.length xs.length) (fun r _ => r = .bool true) (Pt q) vs H again := by
  obtain ⟨n, hn⟩ : ∃ n : Nat, n = min xs.length 60 := ⟨_, rfl⟩
  refine aLoop_vs n (fun i vs H' => ∃ p m, vs = [Pt p, .int .i64 i] ∧ Ac H0 H' p q m m (fun _ => False) [] ∧ m.names.length ≤ i) ⟨p, m, rfl, h, by rw [hm]; simp⟩ ?_
  clear h hm
  rintro i vs H' again hi ⟨p, m, rfl, hac, hml⟩ ha
  unfold S11_206
  simp only [aLenSl_slice, bnd_some', nth_zero, nth_1, aBin_lss]
  by_cases h1 : (i : Int) < xs.length
  · simp only [decide_eq_true h1, aGuardK_tt, aBin_lss, bnd_some', aPick_tt]
    by_cases h2 : (i : Int) < 60
    · simp only [decide_eq_true h2, aGuardK_tt, nePtr, bnd_some', aPick_tt, aCond_true]
      unfold S11_205
      have hi1 : i < xs.length := by omega
      have hA' := hA.kept (hac.keepLo hlo fun b hb => hb.elim)
      obtain ⟨b, o, i1, l0, l3, l9⟩ := hA'.at hi1
      simp only [nth_1, i1, bnd_some', aAdd_ptr, l3, aLenSl_slice, aBin_gtr]
      refine aCond_of (fun hd => trivial) fun hd => ?_
      have hd : ¬ ((xs[i].xs.length : Nat) : Int) > 100 := of_decide_eq_false hd
      unfold S11_204
      rw [aJoin_eq]
      simp only [nth_zero, nth_1, i1, bnd_some', aAdd_ptr, Nat.add_zero, l0, aBin_eql]
      refine aCond_of (fun h8 => ?_) fun h8 => ?_
      · obtain ⟨F, hS, _, hstep⟩ := hac.st
        refine (c32 hS hac.okm (by omega)).mono fun r H2 ⟨p2, F2, hr, hS2, hk2, hF2⟩ => ?_
        subst hr
        have hac2 := hstep H2 p2 m F2 hS2 ⟨hk2.next, fun b hb _ => hk2.at_ b hb, fun b hb => .inr (hF2 b hb)⟩ hac.okm
        exact l11_203 hac2 hlo hA hi1 (by omega) hml (by omega) fun H3 m3 g1 g2 => ha _ H3 (by omega) ⟨p2, m3, rfl, g1, g2⟩
      · exact l11_203 hac hlo hA hi1 (by omega) hml (by omega) fun H3 m3 g1 g2 => ha _ H3 (by omega) ⟨p, m3, rfl, g1, g2⟩
    · simp only [decide_eq_false h2, aGuardK_ft, aGuardK_undef, aPick_ff, bnd_some', aCond_false]
  · simp only [decide_eq_false h1, aGuardK_ft, aGuardK_undef, aPick_ff, bnd_some', aCond_false]

theorem c11 {H : AHeap} {lo : Nat} {A : Option Addr} {xs : List ActT} (hlo : lo ≤ H.next) (hA : Acs lo H A xs) (cells : Int) : ACalls Try.prog 11 [.int .i64 cells, .slice A xs.length xs.length] H fun r _ => r = .bool true := by
  refine S11_calls ?_
  unfold S11
  have fx : aFill [(.int .i64 0), (.int .i64 0), (.slice none 0 0), (.slice none 0 0)] [(0, 1, (.int .i64 cells))] = some [.int .i64 cells, .int .i64 0, .slice none 0 0, .slice none 0 0] := by simp [aFill]
  by_cases hc : 0 ≤ cells ∧ cells ≤ 1048576
  · refine (c13 hc.1 hc.2).mono fun r H3 ⟨p, F, hr, hS, hk3, hF⟩ => ?_
    subst hr
    simp only [x0, x1, bnd_some']
    refine c14.use ?_
    unfold S11_208
    have n3 := hk3.next
    simp only [aUn_not, bnd_some', Bool.not_true, aGuardK_ff, aBin_eql, aBin_neq, aBin_geq, decide_true, decide_eq_true hc.1, ge_iff_le, aGuardK_tt, aBin_leq, decide_eq_true hc.2, aPick_tt, aPick_ff, neqB, eqPtr, beq_self_eq_true, aGuardK_ft, aGuardK_undef, aCond_false]
    unfold S11_207
    simp only [fx, bnd_some', aBox_eq, vcells_agg]
    refine ⟨by simp, ?_⟩
    have hac : Ac H (H3.alloc (.cells [.int .i64 cells, .int .i64 0, .slice none 0 0, .slice none 0 0] .var 64)) p H3.next (Sm.new cells) (Sm.new cells) (fun _ => False) [] := by
      have hk : Keep H3.next H3 (H3.alloc (.cells [.int .i64 cells, .int .i64 0, .slice none 0 0, .slice none 0 0] .var 64)) := (Keep.refl _ _).alloc (Nat.le_refl _) _
      have ok : Ok (Sm.new cells) := ⟨Inv.new hc.1 hc.2, Vd.new _, by simp [Kd, Sm.new], by simp [Sm.new]⟩
      refine ⟨⟨fun b => F b ∨ b = H3.next, ⟨⟨F, fun b => b = H3.next, hS.kept hk, ⟨none, [], none, ?_⟩, ?_, fun b => Iff.rfl⟩, ok, ok⟩, ⟨?_, fun b hb _ => ?_, fun b hb => .inr ?_⟩, by simp⟩⟩
      · refine ⟨rfl, by simp [Sm.new], Ow.nil _ _ _ _ _, fun i o a ho => (by simp [Sm.new] at ho), fun i j a b hi => (by simp at hi), Ow.nil _ _ _ _ _, rfl, fun a ha => (by cases ha), fun i a ha => (by simp at ha), fun a ha => (by cases ha), ?_⟩
        rintro b rfl
        simp
      · rintro b rfl hf
        have := hS.lt _ hf
        omega
      · simp; omega
      · rw [hk.at_ b (by omega), hk3.at_ b (by omega)]
      · rcases hb with hb | rfl
        · have := hF b hb; omega
        · omega
    exact l11_207 hac hlo hA rfl
  · refine (c13bad hc).use ?_
    simp only [x0, x1, bnd_some']
    refine c14.use ?_
    unfold S11_208
    have hd : ∀ b, (b = true ↔ 0 ≤ cells ∧ cells ≤ 1048576) → b = false := fun b hb => by
      cases b with
      | false => rfl
      | true => exact absurd (hb.1 rfl) hc
    have fin : S11_207 (.int .i64 cells) (.slice A xs.length xs.length) (fun r _ => r = .bool true) (.pointer none) H := by
      unfold S11_207
      simp only [fx, bnd_some', aBox_eq, vcells_agg]
      refine ⟨by simp, ?_⟩
      refine aLoop_st 0 (fun i => [.pointer none, .int .i64 0]) (fun i H' => True) rfl trivial ?_
      rintro i H' again hi _ ha
      unfold S11_206
      simp only [aLenSl_slice, bnd_some', nth_zero, nth_1, aBin_lss]
      by_cases h1 : (0 : Int) < xs.length
      · simp only [decide_eq_true h1, aGuardK_tt, aBin_lss, bnd_some', aPick_tt]
        have h2 : (0 : Int) < 60 := by omega
        simp only [decide_eq_true h2, aGuardK_tt, neNil, bnd_some', aPick_tt, aCond_false]
      · simp only [decide_eq_false h1, aGuardK_ft, aGuardK_undef, aPick_ff, bnd_some', aCond_false]
    have e10 : decide ((1 : Int) = 0) = false := rfl
    have e11 : decide ((1 : Int) = 1) = true := rfl
    by_cases h0 : 0 ≤ cells
    · have h1 : ¬ cells ≤ 1048576 := fun h => hc ⟨h0, h⟩
      simp only [aUn_not, bnd_some', Bool.not_true, aGuardK_ff, aBin_eql, aBin_neq, aBin_geq, decide_eq_true h0, ge_iff_le, aGuardK_tt, aBin_leq, decide_eq_false h1, aPick_tt, aPick_ff, neqB, eqNil, e10, e11, Bool.not_false, beq_self_eq_true, aCond_false]
      exact fin
    · simp only [aUn_not, bnd_some', Bool.not_true, aGuardK_ff, aBin_eql, aBin_neq, aBin_geq, decide_eq_false h0, ge_iff_le, aGuardK_tt, aGuardK_ft, aGuardK_undef, aPick_tt, aPick_ff, neqB, eqNil, e10, e11, Bool.not_false, beq_self_eq_true, aCond_false]
      exact fin

theorem c11i {H : AHeap} {ms : Option Addr × List ActT} {a0 : Int} (hM : Acs H.next H ms.1 ms.2) :
    ACalls Try.prog 11 [.int .i64 a0, .slice ms.1 ms.2.length ms.2.length] H fun r _ => r = .bool true := c11 (Nat.le_refl _) hM a0
end Go.Proofs.Ytngldjajfpbmbaa.A
