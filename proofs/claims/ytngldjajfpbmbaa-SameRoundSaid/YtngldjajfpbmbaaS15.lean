/- Contracts of functions that the statement reaches; each theorem carries its own conditions, the last theorem of the claim has none. -/
import Derived.Test.YtngldjajfpbmbaaS14
set_option linter.unusedVariables false
set_option linter.unusedSimpArgs false
namespace Go.Proofs.Ytngldjajfpbmbaa.A
open Go Go.Abs

theorem l3_217 {H : AHeap} {p q : Nat} {F : Nat → Prop} {k a r : Nat} (hk1 : 1 ≤ k) (hk2 : k ≤ 40) (hak : a < k) (hr : r ≤ k - 1 - a) (hS : St H p (chM (3 * k) (a + 1) r) F) (hq : Lv H F q (.cells [.int .i64 0, .int .i64 0] .var 28)) {again : List Value → AHeap → Prop}
    (ha : ∀ H' F', r < k - 1 - a → St H' p (chM (3 * k) (a + 1) (r + 1)) F' → Lv H' F' q (.cells [.int .i64 0, .int .i64 0] .var 28) → again [.int .i64 ((r + 1 : Nat) : Int)] H') :
    S3_217 (fun r _ => r = .bool true) (.int .i64 k) (Pt p) (.int .i64 a) (Pt q) [.int .i64 r] H again := by
  unfold S3_217
  have w1 := wrap64 (x := (k : Int) - 1) (by omega) (by omega)
  have w2 := wrap64 (x := (k : Int) - 1 - a) (by omega) (by omega)
  have w3 := wrap64 (x := (r : Int) + 1) (by omega) (by omega)
  by_cases hlt : r < k - 1 - a
  · have hlt' : (r : Int) < k - 1 - a := by omega
    simp [w1, w2, hlt']
    unfold S3_195
    simp
    refine (mkLit hS (chM_inv (by omega) (by omega)) 1 [(0, 0), (0, 0)] (by simp) (by simp)).mono fun t H2 ⟨ht, F2, hS2, hF2⟩ => ?_
    rw [chM_make2 (by omega)] at ht hS2
    subst ht
    simp [at_alloc, at_upd, w3]
    have hk3 : ∀ x y, Keep H2.next H2 ((H2.alloc x).upd H2.next y) := fun x y => ((Keep.refl _ _).alloc (Nat.le_refl _) _).upd (Nat.le_refl _) _
    exact ha _ F2 hlt (hS2.kept (hk3 _ _)) ((hq.fr hF2).kept (hk3 _ _))
  · have hlt' : ¬ (r : Int) < k - 1 - a := by omega
    simp [w1, w2, hlt']
    refine (c15 hS (chM_inv (by omega) (by omega)) 2 (Nat.le_refl _) (Rd.nil 2 eV H.next H) (by simp) (by simp)).mono fun t H2 ⟨ht, F2, hS2, hF2⟩ => ?_
    rw [chM_full (by omega)] at ht hS2
    subst ht
    unfold S3_216
    have hq2 := hq.fr hF2
    have hne : q ≠ H2.next := by have := hq2.lt; omega
    simp [at_alloc, at_upd, hne, hq2.at_]

theorem l3_218 {H : AHeap} {p q : Nat} {F : Nat → Prop} {k a : Nat} (hk1 : 1 ≤ k) (hk2 : k ≤ 40) (hak : a < k) (hS : St H p (chM (3 * k) (a + 1) 0) F) (hq : Lv H F q (.cells [.int .i64 7, .int .i64 a] .var 28)) :
    aLoop [.int .i64 a] H fun vs_120 H_121 again_122 => S3_218 (fun r _ => r = .bool true) (.int .i64 k) (Pt p) (.int .i64 a) (Pt q) vs_120 H_121 again_122 := by
  refine aLoop_vs (a + 1) (fun i vs H' => vs = [.int .i64 ((a : Int) - i)] ∧ St H' p (chM (3 * k) (a + 1) 0) F ∧ Lv H' F q (.cells (eV (lastV (a + 1 - i))) .var 28)) ⟨by simp, hS, by simpa [lastV] using hq⟩ ?_
  rintro i vs H' again hi ⟨rfl, hS', hq'⟩ ha
  unfold S3_218
  by_cases hlt : i < a + 1
  · have h1 : 0 ≤ (a : Int) - i := by omega
    have h1' : i ≤ a := by omega
    simp only [nth_zero, aBin_geq, bnd_some', decide_eq_true h1, aCond_true]
    unfold S3_175
    have el : lastV (a + 1 - i) = (7, ((a - i : Nat) : Int)) := by unfold lastV; rw [if_neg (by omega)]; congr 1; omega
    have eai : ((a - i : Nat) : Int) = (a : Int) - i := by omega
    have hq7 : H'.at_ q = .cells [.int .i64 7, .int .i64 ((a - i : Nat) : Int)] .var 28 := by rw [hq'.at_, el]
    have hk3 : ∀ x y, Keep H'.next H' ((H'.alloc x).upd H'.next y) := fun x y => ((Keep.refl _ _).alloc (Nat.le_refl _) _).upd (Nat.le_refl _) _
    obtain ⟨g1, g2⟩ := chM_get (lim := 3 * k) (i := a + 1) (j := a - i) (by omega)
    simp [hq7]
    refine (c18 hS' (7, ((a - i : Nat) : Int)) 0).use ?_
    rw [g1]
    have hne : q ≠ H'.next := by have := hq'.lt; omega
    simp [at_alloc, at_upd, hne, hq7]
    refine (c18 (hS'.kept (hk3 _ _)) (7, ((a - i : Nat) : Int)) 1).use ?_
    rw [g2]
    unfold S3_174
    have hne2 : q ≠ H'.next + 1 := by have := hq'.lt; omega
    have w1 := wrap64 (x := (a : Int) - i - 1) (by omega) (by omega)
    simp [at_alloc, at_upd, hne, hne2, hne.symm, hne2.symm, hq7, eai, w1]
    have hk4 : ∀ x y z w, Keep H'.next H' ((((H'.alloc x).upd H'.next y).alloc z).upd (H'.next + 1) w) := fun x y z w => ((hk3 x y).alloc (by simp) _).upd (by omega) _
    have e3 : (a : Int) - ((i + 1 : Nat) : Int) = a - i - 1 := by omega
    rw [← e3]
    refine ha _ _ hlt ⟨rfl, (hS'.kept (hk4 _ _ _ _)).updnf hq'.nf, ?_⟩
    have := (hq'.kept (hk4 (.cells [.int .i64 0, .int .i64 0] .var 28) (.cells [.int .i64 4, .int .i64 ((a - i : Nat) : Int)] .var 28) (.cells [.int .i64 0, .int .i64 0] .var 28) (.cells (eV (lastV (a - i))) .var 28))).upd (y := .cells (eV (lastV (a - i))) .var 28)
    rw [show a + 1 - (i + 1) = a - i by omega]
    simpa [eai] using this
  · have hie : i = a + 1 := by omega
    subst hie
    have h1 : ¬ 0 ≤ (a : Int) - ((a + 1 : Nat) : Int) := by omega
    simp only [nth_zero, aBin_geq, bnd_some', decide_eq_false h1, aCond_false]
    rw [show a + 1 - (a + 1) = 0 by omega] at hq'
    have hq0 : Lv H' F q (.cells [.int .i64 0, .int .i64 0] .var 28) := by simpa [lastV] using hq'
    refine aLoop_vs (k - 1 - a) (fun r vs H' => ∃ F, vs = [.int .i64 r] ∧ St H' p (chM (3 * k) (a + 1) r) F ∧ Lv H' F q (.cells [.int .i64 0, .int .i64 0] .var 28)) ⟨F, rfl, hS', hq0⟩ ?_
    rintro r vs H2 again2 hr ⟨F2, rfl, hS2, hq2⟩ ha2
    exact l3_217 hk1 hk2 hak hr hS2 hq2 fun H3 F3 hlt hS3 hq3 => ha2 _ H3 hlt ⟨F3, rfl, hS3, hq3⟩

theorem l3_221 {G : AHeap} {p : Nat} {F : Nat → Prop} {A : Option Addr} {k kept : Nat} (hk1 : 1 ≤ k) (hk2 : k ≤ 40) (hkept : kept < 256) (hS : St G p (chM (3 * k) k 0) F) (hA : Lr G F A (allV k)) :
    S3_221 (.int .u8 kept) (fun r _ => r = .bool true) (.int .i64 k) (Pt p) [.slice A (allV k).length (allV k).length, .int .i64 k] G := by
  unfold S3_221
  obtain ⟨a, haa⟩ : ∃ a, a = kept % k := ⟨_, rfl⟩
  have hak : a < k := haa ▸ Nat.mod_lt _ (by omega)
  have wk := wrap64 (x := (kept : Int)) (by omega) (by omega)
  have e1 : ((kept : Int).tmod k) = (a : Int) := by rw [Int.tmod_eq_emod_of_nonneg (by omega), haa]; omega
  have hlen := allV_len k
  rw [aConvInt_int, bnd_some', wk, aBin_rem _ _ _ _ (by omega), bnd_some', e1]
  have i1 := hA.ow.rd.idx (k := .i64) (j := (a : Int)) (c := (allV k).length) (by omega) (by omega)
  rw [Int.toNat_natCast] at i1
  have hal : a < (allV k).length := by omega
  have l1 := hA.ow.rd.agg hal
  have e2 : (allV k)[a] = (7, (a : Int)) := by simp [allV]
  rw [e2] at l1
  simp [i1, l1, -aLdAgg_ptr]
  have hkr : Keep G.next G (G.alloc (.cells [.int .i64 7, .int .i64 a] (.row 2) 28)) := (Keep.refl _ _).alloc (Nat.le_refl _) _
  have hR : Rd 2 eV (G.next + 1) (G.alloc (.cells [.int .i64 7, .int .i64 a] (.row 2) 28)) (some ⟨G.next, 0, none⟩) [(7, (a : Int))] := Rd.mk' (by simp) (by omega) (AHeap.at_alloc_new _ _) (by simp) (by simp) (by simp)
  refine (c16 (hS.kept hkr) (chM_inv (by omega) (by omega)) (chM_vd _ _ _) (by simp) hR (by simp) (by simp) fun x hx hf => ?_).mono fun r H2 hr => ?_
  · cases hx
    have := hS.lt _ hf
    dsimp only at this
    omega
  have hsd : [((7 : Int), (a : Int))].all (chM (3 * k) k 0).sound = true := by simp [sound_obj (m := chM (3 * k) k 0) (n := (a : Int)) (by omega) (by rw [chM_len]; omega)]
  rw [if_pos hsd] at hr
  obtain ⟨s, hsl, hsr, C, F', rfl, hO, hS2, hF2, hCF⟩ := hr
  obtain ⟨ec, em⟩ := chM_collect hak hsl hsr
  rw [ec] at hS2
  unfold S3_220
  have w1 := wrap64 (x := (a : Int) + 1) (by omega) (by omega)
  have w2 := wrap64 (x := 3 * ((a : Int) + 1)) (by omega) (by omega)
  simp
  refine (c17 hS2).use ?_
  have eu : (chM (3 * k) (a + 1) 0).used = 3 * ((a : Int) + 1) := by simp [chM]
  rw [eu]
  simp [w1, w2]
  unfold S3_219
  simp only [List.map_cons, List.map_nil, em] at hO
  have i2 := hO.rd.idx (k := .i64) (j := (0 : Int)) (c := 1) (by omega) (by simp)
  have l2 := hO.rd.agg (j := 0) (by simp)
  simp at i2 l2
  simp [i2, l2, -aLdAgg_ptr, at_alloc]
  have hk3 : ∀ x y, Keep H2.next H2 ((H2.alloc x).upd H2.next y) := fun x y => ((Keep.refl _ _).alloc (Nat.le_refl _) _).upd (Nat.le_refl _) _
  exact l3_218 hk1 hk2 hak (hS2.kept (hk3 _ _)) ⟨by simp, by simp, fun hf => by have := hS2.lt _ hf; omega⟩
end Go.Proofs.Ytngldjajfpbmbaa.A
