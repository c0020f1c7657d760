/- Contracts of functions that the statement reaches; each theorem carries its own conditions, the last theorem of the claim has none. -/
import Derived.Test.YtngldjajfpbmbaaS18
set_option linter.unusedVariables false
set_option linter.unusedSimpArgs false
namespace Go.Proofs.Ytngldjajfpbmbaa.A
open Go Go.Abs

theorem eqV (a b : V) : aBin .eql (.cells [.int, .int]) (vV a) (vV b) = some (.bool (decide (a = b))) := by
  obtain ⟨a1, a2⟩ := a
  obtain ⟨b1, b2⟩ := b
  simp [aBin, aEqK, sameCells, sameCell]
theorem neV (a b : V) : aBin .neq (.cells [.int, .int]) (vV a) (vV b) = some (.bool (!decide (a = b))) := by
  obtain ⟨a1, a2⟩ := a
  obtain ⟨b1, b2⟩ := b
  simp [aBin, aEqK, sameCells, sameCell]
theorem allV_get {i j : Nat} (h : j < (allV i).length) : (allV i)[j] = (7, (j : Int)) := by simp [allV]

theorem l4_204 {H0 H : AHeap} {p : Nat} {F : Nat → Prop} {k : Nat} (hk : 2 ≤ k) (hk2 : k ≤ 21) {r : Value} {s : List Bool} (hsl : s.length = (rgM k k k).objs.length) (hs : ∀ i, s.getD i false = true ↔ Reach (rgM k k k) [(7, ((k / 2 : Nat) : Int)), (7, 0)] i) (h : collPost H0 p F (rgM k k k) [(7, ((k / 2 : Nat) : Int)), (7, 0)] s r H) :
    S4_204 (fun r _ => r = .bool true) (.int .i64 k) (Pt p) r H := by
  obtain ⟨C, F', rfl, hO, hS, hF, hCF⟩ := h
  obtain ⟨ec, ep⟩ := rgM_collect hk hsl hs
  rw [ec] at hS
  have e0 : mv (place (rgM k k k) s) (7, 0) = (7, 0) := ep 0 (by omega)
  simp only [List.map_cons, List.map_nil, e0, ep (k / 2) (by omega)] at hO
  unfold S4_204
  have w1 := wrap64 (x := 2 * (k : Int)) (by omega) (by omega)
  simp
  refine (c17 hS).use ?_
  simp [rgM, w1]
  unfold S4_203
  have i0 := hO.rd.idx (k := .i64) (j := (0 : Int)) (c := 2) (by omega) (by simp)
  have l0 := hO.rd.agg (j := 0) (by simp)
  simp at i0 l0
  simp [i0, l0, -aLdAgg_ptr, at_alloc]
  have hk3 : ∀ x y, Keep H.next H ((H.alloc x).upd H.next y) := fun x y => ((Keep.refl _ _).alloc (Nat.le_refl _) _).upd (Nat.le_refl _) _
  have hq0 : ∀ x y, Lv ((H.alloc x).upd H.next y) F' H.next y := fun x y => ⟨by simp, by simp, fun hf => by have := hS.lt _ hf; omega⟩
  have hC : Lr H F' C [(7, ((k / 2 : Nat) : Int)), (7, 0)] := ⟨hO.lower (Nat.zero_le _), hCF⟩
  obtain ⟨q, hqe⟩ : ∃ q, q = H.next := ⟨_, rfl⟩
  simp only [← hqe]
  rw [← hqe] at hk3 hq0
  refine aLoop_st k (fun i => [.int .i64 i]) (fun i H' => St H' p (rgM k k k) F' ∧ Lv H' F' q (.cells (eV (7, (((k / 2 + i) % k : Nat) : Int))) .var 28) ∧ Lr H' F' C [(7, ((k / 2 : Nat) : Int)), (7, 0)]) rfl ⟨?_, ?_, ?_⟩ ?_
  · exact hS.kept (by rw [← hqe]; exact hk3 _ _)
  · have e1 : (k / 2 + 0) % k = k / 2 := Nat.mod_eq_of_lt (by omega)
    rw [e1]
    exact hq0 _ _
  · exact hC.kept (by rw [← hqe]; exact hk3 _ _)
  rintro i H' again hi ⟨hS', hq', hC'⟩ ha
  unfold S4_202
  by_cases hlt : i < k
  · simp [hlt]
    unfold S4_162
    have w2 := wrap64 (x := (i : Int) + 1) (by omega) (by omega)
    have hqa := hq'.at_
    generalize hj : (k / 2 + i) % k = j at *
    have hjk : j < k := hj ▸ Nat.mod_lt _ (by omega)
    simp [hqa]
    refine (c18 hS' (7, (j : Int)) 0).use ?_
    rw [rgM_get hjk]
    simp [hqa, w2]
    have e1 : (j + 1) % k = (k / 2 + (i + 1)) % k := by rw [← hj, ← Nat.add_assoc, Nat.mod_add_mod]
    refine ha _ hlt ⟨hS'.updnf hq'.nf, ?_, hC'.updvar hq'⟩
    rw [← e1]
    simpa using hq'.upd (y := .cells (eV (7, (((j + 1) % k : Nat) : Int))) .var 28)
  · have hie : i = k := by omega
    subst hie
    simp
    unfold S4_201
    have e1 : (i / 2 + i) % i = i / 2 := by rw [Nat.add_mod_right]; exact Nat.mod_eq_of_lt (by omega)
    rw [e1] at hq'
    have i0 := hC'.ow.rd.idx (k := .i64) (j := (0 : Int)) (c := 2) (by omega) (by simp)
    have l0 := hC'.ow.rd.agg (j := 0) (by simp)
    have i1 := hC'.ow.rd.idx (k := .i64) (j := (1 : Int)) (c := 2) (by omega) (by simp)
    have l1 := hC'.ow.rd.agg (j := 1) (by simp)
    have lq : aLdAgg 2 (Pt q) H' = some (vV (7, ((i / 2 : Nat) : Int))) := by simp [hq'.at_]
    have l0' : aLdAgg 2 (slot 2 C 0) H' = some (vV (7, ((i / 2 : Nat) : Int))) := l0
    have l1' : aLdAgg 2 (slot 2 C 1) H' = some (vV (7, 0)) := l1
    have ne1 : ¬ ((7, ((i / 2 : Nat) : Int)) : V) = (7, 0) := by intro e; have := congrArg Prod.snd e; simp at this; omega
    have i0' : aIdxAddr 2 (.slice C 2 2) (.int .i64 0) = some (slot 2 C 0) := i0
    have i1' : aIdxAddr 2 (.slice C 2 2) (.int .i64 1) = some (slot 2 C 1) := i1
    simp only [lq, i0', i1', l0', l1', eqV, neV, bnd_some', decide_true, aGuardK_tt, aPick_tt, decide_eq_false ne1, Bool.not_false]

theorem l4_206 {H : AHeap} {p : Nat} {F : Nat → Prop} {A : Option Addr} {k i : Nat} {b : Bool} (hk : 2 ≤ k) (hk2 : k ≤ 21) (hi : i ≤ k) (hS : St H p (rgM k k i) F) (hA : Lr H F A (allV k)) {again : List Value → AHeap → Prop}
    (ha : ∀ H', i < k → St H' p (rgM k k (i + 1)) F → Lr H' F A (allV k) → again [.int .i64 ((i + 1 : Nat) : Int)] H') :
    S4_206 (.bool b) (fun r _ => r = .bool true) (.int .i64 k) (Pt p) [.slice A (allV k).length (allV k).length, .int .i64 k] [.int .i64 i] H again := by
  unfold S4_206
  have hlen := allV_len k
  by_cases hlt : i < k
  · simp [hlt]
    unfold S4_55
    have w1 := wrap64 (x := (i : Int) + 1) (by omega) (by omega)
    have e1 : ((i : Int) + 1).tmod k = (((i + 1) % k : Nat) : Int) := by
      rw [Int.tmod_eq_emod_of_nonneg (by omega)]
      exact (Int.natCast_emod (i + 1) k).symm
    have hm := Nat.mod_lt (i + 1) (show 0 < k by omega)
    have i1 := hA.ow.rd.idx (k := .i64) (j := (i : Int)) (c := (allV k).length) (by omega) (by omega)
    rw [Int.toNat_natCast] at i1
    have l1 := hA.ow.rd.agg (j := i) (by omega)
    rw [allV_get] at l1
    have i2 := hA.ow.rd.idx (k := .i64) (j := (((i + 1) % k : Nat) : Int)) (c := (allV k).length) (by omega) (by omega)
    rw [Int.toNat_natCast] at i2
    have l2 := hA.ow.rd.agg (j := (i + 1) % k) (by omega)
    rw [allV_get] at l2
    simp only [nth_zero, i1, l1, bnd_some', aBin_add, w1, aBin_rem _ _ _ _ (show (k : Int) ≠ 0 by omega), e1, i2, l2]
    refine (c19 hS (7, (i : Int)) 0 (7, (((i + 1) % k : Nat) : Int))).mono fun r H2 ⟨hr, hS2, hF2⟩ => ?_
    rw [rgM_set hlt] at hr hS2
    exact ha H2 hlt hS2 (hA.fr hF2)
  · have hie : i = k := by omega
    subst hie
    simp
    cases b with
    | false =>
      simp
      refine (c16 hS (rgM_inv (by omega)) (rgM_vd _ _ (by omega)) (Nat.le_refl _) (Rd.nil 2 eV H.next H) (by simp) (by simp) fun x hx => by cases hx).mono fun r H2 hr => ?_
      rw [if_pos (by simp)] at hr
      obtain ⟨s, hsl, hsr, C, F', rfl, hO, hS2, hF2, hCF⟩ := hr
      rw [none_collect _ hsl hsr] at hS2
      unfold S4_93
      simp
      refine (c17 hS2).use ?_
      simp
    | true =>
      simp
      unfold S4_205
      have e1 : (i : Int).tdiv 2 = ((i / 2 : Nat) : Int) := by rw [Int.tdiv_eq_ediv_of_nonneg (by omega)]; omega
      have w1 := wrap64 (x := ((i / 2 : Nat) : Int)) (by omega) (by omega)
      have i1 := hA.ow.rd.idx (k := .i64) (j := ((i / 2 : Nat) : Int)) (c := (allV i).length) (by omega) (by omega)
      rw [Int.toNat_natCast] at i1
      have l1 := hA.ow.rd.agg (j := i / 2) (by omega)
      rw [allV_get] at l1
      have i2 := hA.ow.rd.idx (k := .i64) (j := 0) (c := (allV i).length) (by omega) (by omega)
      have l2 := hA.ow.rd.agg (j := 0) (by omega)
      rw [allV_get] at l2
      simp only [Int.toNat_zero] at i2
      simp only [nth_zero, aBin_quo _ _ _ _ (show (2 : Int) ≠ 0 by decide), e1, w1, i1, l1, i2, l2, bnd_some']
      simp
      have hkr : Keep H.next H (H.alloc (.cells [.int .i64 7, .int .i64 ((i / 2 : Nat) : Int), .int .i64 7, .int .i64 0] (.row 2) 28)) := (Keep.refl _ _).alloc (Nat.le_refl _) _
      have hR : Rd 2 eV (H.next + 1) (H.alloc (.cells [.int .i64 7, .int .i64 ((i / 2 : Nat) : Int), .int .i64 7, .int .i64 0] (.row 2) 28)) (some ⟨H.next, 0, none⟩) [(7, ((i / 2 : Nat) : Int)), (7, 0)] := Rd.mk' (by simp) (by omega) (AHeap.at_alloc_new _ _) (by simp) (by simp) (by simp)
      refine (c16 (hS.kept hkr) (rgM_inv (by omega)) (rgM_vd _ _ (by omega)) (by simp) hR (by simp) (by simp) fun x hx hf => ?_).mono fun r H2 hr => ?_
      · cases hx
        have := hS.lt _ hf
        dsimp only at this
        omega
      have hsd : [((7 : Int), ((i / 2 : Nat) : Int)), ((7 : Int), (0 : Int))].all (rgM i i i).sound = true := by
        simp only [List.all_cons, List.all_nil, Bool.and_true, Bool.and_eq_true]
        exact ⟨sound_obj (by omega) (by simp only [rgM, rgL_len]; omega), sound_obj (by omega) (by simp only [rgM, rgL_len]; omega)⟩
      rw [if_pos hsd] at hr
      obtain ⟨s, hsl, hsr, hc⟩ := hr
      exact l4_204 hk hk2 hsl hsr hc

theorem c4 {H : AHeap} {n : Nat} {b : Bool} (hn : n < 256) : ACalls Try.prog 4 [.int .u8 n, .bool b] H fun r _ => r = .bool true := by
  refine S4_calls ?_
  unfold S4
  have e0 : ((n : Int).tmod 20) = ((n % 20 : Nat) : Int) := by
    rw [Int.tmod_eq_emod_of_nonneg (by omega)]; omega
  obtain ⟨k, hk⟩ : ∃ k, k = n % 20 + 2 := ⟨_, rfl⟩
  have w0 := wrap64 (x := ((n % 20 : Nat) : Int)) (by omega) (by omega)
  have w1 : IntKind.i64.wrap (((n % 20 : Nat) : Int) + 2) = (k : Int) := by rw [wrap64 (by omega) (by omega)]; omega
  rw [aBin_rem _ _ _ _ (by decide)]
  simp only [bnd_some', aConvInt_int, aBin_add, e0, w0, w1]
  refine (c13 (by omega) (by omega)).mono fun r H1 ⟨p, F, hr, hS, hkp, hF⟩ => ?_
  subst hr
  simp
  refine c14.use ?_
  unfold S4_208
  simp
  have e13 : Sm.new 1000 = rgM k 0 0 := by simp [Sm.new, rgM, rgL]
  rw [e13] at hS
  refine aLoop_vs k (fun i vs H' => ∃ A F, vs = [.slice A (allV i).length (allV i).length, .int .i64 i] ∧ St H' p (rgM k i 0) F ∧ Lr H' F A (allV i)) ⟨none, F, rfl, hS, Lr.nil _ _⟩ ?_
  rintro i vs H' again hi ⟨A, F, rfl, hS, hA⟩ ha
  unfold S4_207
  have hlen := allV_len i
  by_cases hlt : i < k
  · simp [hlt]
    unfold S4_41
    have w3 := wrap64 (x := (i : Int) + 1) (by omega) (by omega)
    simp
    refine (mkLit hS (rgM_inv (by omega)) 3 [(0, 0)] (by simp) (by simp)).mono fun r H2 ⟨hr, F2, hS2, hF2⟩ => ?_
    rw [rgM_make (by omega)] at hr hS2
    subst hr
    have hA2 := hA.fr hF2
    unfold S4_40
    simp [at_alloc, at_upd]
    obtain ⟨G, hG⟩ : ∃ X, X = ((H2.alloc (.cells [.int .i64 0, .int .i64 0] .var 28)).upd H2.next (.cells [.int .i64 7, .int .i64 i] .var 28)) := ⟨_, rfl⟩
    have hk2 : Keep H2.next H2 G := hG ▸ ((Keep.refl _ _).alloc (Nat.le_refl _) _).upd (Nat.le_refl _) _
    have hSG := hS2.kept hk2
    have hAG := hA2.kept hk2
    have hnG : G.next = H2.next + 1 := by rw [hG]; simp
    simp only [← hG]
    clear hG
    have := app1 (v := (7, (i : Int))) (K := fun t66_46 H_47 => again [t66_46, .int .i64 (IntKind.i64.wrap ((i : Int) + 1))] H_47) hSG.lt hAG (by omega) fun H3 hA3 hn3 hat3 => by
      rw [w3]
      refine ha _ H3 hlt ⟨_, F2, by rw [allV_succ, List.length_append]; rfl, hSG.frame hn3 fun b hb => hat3 b (hSG.lt b hb) fun x hx => ?_, by rw [allV_succ]; exact hA3⟩
      rintro rfl; exact hAG.nf x hx hb
    rw [hnG] at this
    exact this
  · have hie : i = k := by omega
    subst hie
    simp
    refine aLoop_st i (fun j => [.int .i64 j]) (fun j H' => St H' p (rgM i i j) F ∧ Lr H' F A (allV i)) rfl ⟨hS, hA⟩ ?_
    rintro j H2 again2 hj ⟨hS2, hA2⟩ ha2
    have := l4_206 (b := b) (by omega) (by omega) hj hS2 hA2 fun H3 hlt3 hS3 hA3 => ha2 H3 hlt3 ⟨hS3, hA3⟩
    exact this
theorem c4i {H : AHeap} {a : Int} {b : Bool} (ha : 0 ≤ a ∧ a < 256) : ACalls Try.prog 4 [.int .u8 a, .bool b] H fun r _ => r = .bool true := by
  obtain ⟨n, rfl⟩ := Int.eq_ofNat_of_zero_le ha.1
  exact c4 (by omega)
end Go.Proofs.Ytngldjajfpbmbaa.A
