/- Contracts of functions that the statement reaches; each theorem carries its own conditions, the last theorem of the claim has none. -/
import Derived.Test.YtngldjajfpbmbaaS24
set_option linter.unusedVariables false
set_option linter.unusedSimpArgs false
namespace Go.Proofs.Ytngldjajfpbmbaa.A
open Go Go.Abs

/-- Below a place nothing is changed, nor is the store there. -/
structure Wb (H0 H : AHeap) (F : Nat → Prop) : Prop where
  keep : Keep H0.next H0 H
  hi : ∀ b, F b → H0.next ≤ b
theorem Wb.fr {H0 H H' : AHeap} {F F' : Nat → Prop} (h : Wb H0 H F) (k : Fr F H F' H') : Wb H0 H' F' :=
  ⟨keep_new h.keep h.hi k, fun b hb => by rcases k.new b hb with h1 | h1; exact h.hi b h1; have := h.keep.next; omega⟩
theorem Wb.kept {H0 H H' : AHeap} {F : Nat → Prop} (h : Wb H0 H F) (k : Keep H.next H H') : Wb H0 H' F := h.fr (Fr.keep k)
theorem Wb.upd {H0 H : AHeap} {F : Nat → Prop} (h : Wb H0 H F) {q : Nat} (hq : H0.next ≤ q) (x : Blk) : Wb H0 (H.upd q x) F := ⟨h.keep.upd hq x, h.hi⟩

theorem l5_117 {H0 H : AHeap} {p q t : Nat} {m m' : Sm} {F : Nat → Prop} {z u : V} {N i : Int} {R : Value → AHeap → Prop} {again : List Value → AHeap → Prop} (hS : St H p m F) (hI : Inv m) (hq : Lv H F q (.cells (eV u) .var 28)) (ht : Lv H F t (.cells (eV z) .var 28)) (hW : Wb H0 H F) (hq0 : H0.next ≤ q)
    (hm : m.make 2 [z, u, z] = (((7, N), 0), m')) (hw : IntKind.i64.wrap (i + 1) = i + 1)
    (ha : ∀ H' F', St H' p m' F' → Lv H' F' q (.cells (eV (7, N)) .var 28) → Wb H0 H' F' → (∀ A xs, Lr H F A xs → Lr H' F' A xs) → again [.int .i64 (i + 1)] H') :
    S5_117 R (Pt p) (Pt q) [.int .i64 i] again (Pt t) H := by
  unfold S5_117
  have lz : aLdAgg 2 (Pt t) H = some (vV z) := by simp [ht.at_]
  have lu : aLdAgg 2 (Pt q) H = some (vV u) := by simp [hq.at_]
  simp only [lz, lu, bnd_some', aBuildSlice_eq]
  simp
  have := mkLit hS hI 2 [z, u, z] (by simp) (by simp)
  simp [hm] at this
  refine this.mono fun r H2 ⟨hr, F2, hS2, hF2⟩ => ?_
  rw [hm] at hS2 hr
  subst hr
  unfold S5_91
  have hq2 := hq.fr hF2
  have hne : q ≠ H2.next := by have := hq2.lt; omega
  simp [at_alloc, at_upd, hne, hq2.at_, hw]
  have hk2 : Keep H2.next H2 ((H2.alloc (.cells [.int .i64 0, .int .i64 0] .var 28)).upd H2.next (.cells [.int .i64 7, .int .i64 N] .var 28)) := ((Keep.refl _ _).alloc (Nat.le_refl _) _).upd (Nat.le_refl _) _
  refine ha _ F2 ((hS2.kept hk2).updnf hq2.nf) (hq2.kept hk2).upd (((hW.fr hF2).kept hk2).upd hq0 _) fun A xs h => ((h.fr hF2).kept hk2).updvar (hq2.kept hk2)

abbrev eU (x : Int) : List Value := [.int .u8 x]
def lvX (xs : List Int) (j : Nat) : V := (4, xs.getD j 0)
def lvY (xs : List Int) (b : Bool) (k j : Nat) : V := if b = true ∧ j = k then (4, xs.getD j 0 + 1) else (4, xs.getD j 0)
/-- The tree that is built in the n-th turn. -/
theorem l5_118 {H0 H : AHeap} {lo p q : Nat} {m m' : Sm} {F : Nat → Prop} {A0 : Option Addr} {xs : List Int} {b : Bool} {k n i : Nat} {N : Int} {u : V} {va : Value} {R : Value → AHeap → Prop} {again : List Value → AHeap → Prop} (hlo : lo ≤ H0.next) (hX : Rd 1 eU lo H0 A0 xs) (hxs : ∀ x ∈ xs, 0 ≤ x ∧ x < 256) (hlen : xs.length ≤ 200)
    (hi : i < xs.length) (hn : n = 0 ∨ n = 1) (hS : St H p m F) (hI : Inv m) (hq : Lv H F q (.cells (eV u) .var 28)) (hW : Wb H0 H F) (hq0 : H0.next ≤ q)
    (hm : m.make 2 [if n = 0 then lvX xs i else lvY xs b k i, u, if n = 0 then lvX xs i else lvY xs b k i] = (((7, N), 0), m'))
    (ha : ∀ H' F', St H' p m' F' → Lv H' F' q (.cells (eV (7, N)) .var 28) → Wb H0 H' F' → (∀ A ys, Lr H F A ys → Lr H' F' A ys) → again [.int .i64 ((i : Int) + 1)] H') :
    S5_118 (.slice A0 xs.length xs.length) (.bool b) R (Pt p) (.int .i64 k) [va, .int .i64 n] (Pt q) [.int .i64 i] H again := by
  unfold S5_118
  have hXH := hX.keep (H' := H) fun c hc => hW.keep.at_ c (by omega)
  have i1 := hXH.idx (k := .i64) (j := (i : Int)) (c := xs.length) (by omega) (by omega)
  rw [Int.toNat_natCast] at i1
  have l1 := hXH.ld (enc := Value.int .u8) hi
  obtain ⟨x0, x1⟩ := hxs xs[i] (List.getElem_mem hi)
  have eg : xs.getD i 0 = xs[i] := by rw [List.getD_eq_getElem?_getD, List.getElem?_eq_getElem hi]; rfl
  have w1 := wrap64 (x := xs[i]) (by omega) (by omega)
  have w2 := wrap64 (x := xs[i] + 1) (by omega) (by omega)
  have w3 := wrap64 (x := (i : Int) + 1) (by omega) (by omega)
  have hk1 : ∀ x y, Keep H.next H ((H.alloc x).upd H.next y) := fun x y => ((Keep.refl _ _).alloc (Nat.le_refl _) _).upd (Nat.le_refl _) _
  have hk2 : ∀ x y z, Keep H.next H (((H.alloc x).upd H.next y).upd H.next z) := fun x y z => (hk1 x y).upd (Nat.le_refl _) _
  have hnew : ¬ F H.next := fun hf => by have := hS.lt _ hf; omega
  have hne : q ≠ H.next := by have := hq.lt; omega
  simp [i1, l1, w1, -aLdCell_ptr]
  rw [aJoin_eq]
  have done : ∀ x y z : Blk, ∀ w : V, z = .cells (eV w) .var 28 → (if n = 0 then lvX xs i else lvY xs b k i) = w → S5_117 R (Pt p) (Pt q) [.int .i64 i] again (Pt H.next) (((H.alloc x).upd H.next y).upd H.next z) := by
    intro x y z w hz hw
    rw [hw] at hm
    exact l5_117 (hS.kept (hk2 _ _ _)) hI (hq.kept (hk2 _ _ _)) ⟨by rw [AHeap.at_upd_same, hz], by simp, hnew⟩ (hW.kept (hk2 _ _ _)) hq0 hm w3 fun H' F' h1 h2 h3 h4 => ha H' F' h1 h2 h3 fun A ys hA => h4 A ys (hA.kept (hk2 _ _ _))
  have done1 : ∀ x y : Blk, ∀ w : V, y = .cells (eV w) .var 28 → (if n = 0 then lvX xs i else lvY xs b k i) = w → S5_117 R (Pt p) (Pt q) [.int .i64 i] again (Pt H.next) ((H.alloc x).upd H.next y) := by
    intro x y w hz hw
    rw [hw] at hm
    exact l5_117 (hS.kept (hk1 _ _)) hI (hq.kept (hk1 _ _)) ⟨by rw [AHeap.at_upd_same, hz], by simp, hnew⟩ (hW.kept (hk1 _ _)) hq0 hm w3 fun H' F' h1 h2 h3 h4 => ha H' F' h1 h2 h3 fun A ys hA => h4 A ys (hA.kept (hk1 _ _))
  rcases hn with rfl | rfl
  · simp
    exact done1 _ _ (4, xs[i]) rfl (by simp [lvX, hi])
  · cases b with
    | false =>
      simp
      exact done1 _ _ (4, xs[i]) rfl (by simp [lvY, hi])
    | true =>
      by_cases hik : i = k
      · subst hik
        simp [at_upd, w2]
        exact done _ _ _ (4, xs[i] + 1) rfl (by simp [lvY, hi])
      · have hik' : ¬ (i : Int) = k := by omega
        simp [hik, hik']
        exact done1 _ _ (4, xs[i]) rfl (by simp [lvY, hi, hik])
end Go.Proofs.Ytngldjajfpbmbaa.A
