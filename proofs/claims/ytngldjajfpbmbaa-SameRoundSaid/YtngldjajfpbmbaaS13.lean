/- Contracts of functions that the statement reaches; each theorem carries its own conditions, the last theorem of the claim has none. -/
import Derived.Test.YtngldjajfpbmbaaS12
set_option linter.unusedVariables false
set_option linter.unusedSimpArgs false
namespace Go.Proofs.Ytngldjajfpbmbaa.A
open Go Go.Abs

theorem total_map (pl : List Int) (xs : List Ob) : total (xs.map (mvOb pl)) = total xs := by
  simp [total, Function.comp_def, cells_mv]
theorem Inv.collect {m : Sm} (h : Inv m) (s : List Bool) : Inv (m.collect s) := by
  have := keepP_total m.objs s
  have := h.sum
  have := h.le
  refine ⟨?_, ?_, h.lim⟩
  · simp only [Sm.collect, total_map]
  · simp only [Sm.collect]; omega
theorem Vd.collect {m : Sm} (h : Vd m) {s : List Bool} {xs : List V} (hsl : s.length = m.objs.length) (hs : ∀ i, s.getD i false = true ↔ Reach m xs i) : Vd (m.collect s) := by
  refine ⟨fun o ho v hv h7 => ?_, fun o ho h10 => ?_⟩
  · simp only [Sm.collect] at ho ⊢
    obtain ⟨o', ho', rfl⟩ := List.mem_map.1 ho
    simp only [mvOb] at hv
    obtain ⟨w, hw, rfl⟩ := List.mem_map.1 hv
    have hw7 : w.1 = 7 := by
      unfold mv at h7
      split at h7
      · assumption
      · exact h7
    obtain ⟨i, hi⟩ := List.getElem?_of_mem ho'
    obtain ⟨j, hj, hsj, _⟩ := keepP_idx _ _ _ _ hi
    have hr : s.getD w.2.toNat false = true := (hs _).2 (.step ((hs j).1 hsj) hj hw hw7)
    have hlt : w.2.toNat < m.objs.length := by
      rw [← hsl]
      rw [List.getD_eq_getElem?_getD] at hr
      rcases Nat.lt_or_ge w.2.toNat s.length with h1 | h1
      · exact h1
      · rw [List.getElem?_eq_none h1] at hr; simp at hr
    have hk := keepP_at m.objs s w.2.toNat _ (List.getElem?_eq_getElem hlt) hr
    have hk2 := (List.getElem?_eq_some_iff.1 hk).1
    have : mv (place m s) w = (7, ((keepP (m.objs.take w.2.toNat) s).length : Int)) := by
      unfold mv
      rw [if_pos hw7]
      simp only [place, placeTo, List.getD_eq_getElem?_getD, List.getElem?_map, List.getElem?_range hlt, Option.map_some, Option.getD_some]
      rw [if_pos ⟨hlt, by rw [← List.getD_eq_getElem?_getD]; exact hr⟩]
    rw [this, List.length_map]
    constructor <;> simp <;> omega
  · simp only [Sm.collect] at ho
    obtain ⟨o', ho', rfl⟩ := List.mem_map.1 ho
    simp [mvOb] at h10 ⊢
    exact h.syn o' (keepP_mem ho') h10

/-! What a caller has of its own. -/
structure Lv (H : AHeap) (F : Nat → Prop) (q : Nat) (x : Blk) : Prop where
  at_ : H.at_ q = x
  lt : q < H.next
  nf : ¬ F q
theorem Lv.fr {H H' : AHeap} {F F' : Nat → Prop} {q : Nat} {x : Blk} (h : Lv H F q x) (k : Fr F H F' H') : Lv H' F' q x :=
  ⟨(k.at_ q h.lt h.nf).trans h.at_, Nat.lt_of_lt_of_le h.lt k.next, fun hf => by rcases k.new q hf with h1 | h1; exact h.nf h1; have := h.lt; omega⟩
theorem Lv.kept {H H' : AHeap} {F : Nat → Prop} {q : Nat} {x : Blk} (h : Lv H F q x) (k : Keep H.next H H') : Lv H' F q x := h.fr (Fr.keep k)
/-- A row of the caller's own. -/
structure Lr (H : AHeap) (F : Nat → Prop) (A : Option Addr) (xs : List V) : Prop where
  ow : Ow 2 eV 28 0 H A xs
  nf : ∀ x, A = some x → ¬ F x.block
theorem Lr.fr {H H' : AHeap} {F F' : Nat → Prop} {A : Option Addr} {xs : List V} (h : Lr H F A xs) (k : Fr F H F' H') : Lr H' F' A xs := by
  refine ⟨h.ow.at k.next fun x hx => k.at_ _ (h.ow.blkOf hx).2.2.1 (h.nf x hx), fun x hx hf => ?_⟩
  rcases k.new _ hf with h1 | h1
  · exact h.nf x hx h1
  · have := (h.ow.blkOf hx).2.2.1; omega
theorem Lr.kept {H H' : AHeap} {F : Nat → Prop} {A : Option Addr} {xs : List V} (h : Lr H F A xs) (k : Keep H.next H H') : Lr H' F A xs := h.fr (Fr.keep k)
theorem Lr.nil (H : AHeap) (F : Nat → Prop) : Lr H F none [] := ⟨Ow.nil _ _ _ _ _, fun x hx => by cases hx⟩
theorem Lv.updne {H : AHeap} {F : Nat → Prop} {q r : Nat} {x y : Blk} (h : Lv H F q x) (hn : q ≠ r) : Lv (H.upd r y) F q x := ⟨by rw [AHeap.at_upd_ne _ _ hn]; exact h.at_, h.lt, h.nf⟩
theorem Lv.upd {H : AHeap} {F : Nat → Prop} {q : Nat} {x y : Blk} (h : Lv H F q x) : Lv (H.upd q y) F q y := ⟨by simp, h.lt, h.nf⟩
theorem Lv.new {H : AHeap} {F : Nat → Prop} (hF : ∀ b, F b → b < H.next) (x : Blk) : Lv (H.alloc x) F H.next x := ⟨by simp, by simp, fun h => by have := hF _ h; omega⟩
theorem Lr.updvar {H : AHeap} {F : Nat → Prop} {q : Nat} {cs : List Value} {t : TypeId} {y : Blk} {A : Option Addr} {xs : List V} (h : Lr H F A xs) (hq : Lv H F q (.cells cs .var t)) : Lr (H.upd q y) F A xs := by
  refine ⟨h.ow.at (Nat.le_refl _) fun x hx => AHeap.at_upd_ne _ _ ?_, h.nf⟩
  rintro rfl
  obtain ⟨_, _, _, ds, hds⟩ := h.ow.blkOf hx
  rw [hq.at_] at hds
  cases hds
theorem St.updnf {H : AHeap} {F : Nat → Prop} {p q : Nat} {m : Sm} {y : Blk} (h : St H p m F) (hq : ¬ F q) : St (H.upd q y) p m F := h.frame (Nat.le_refl _) fun b hb => AHeap.at_upd_ne _ _ (by rintro rfl; exact hq hb)
/-- Make, of values that are written down. -/
theorem mkLit {H : AHeap} {p : Nat} {m : Sm} {F : Nat → Prop} (h : St H p m F) (hI : Inv m) (k : Int) (xs : List V) (hx : xs ≠ []) (hn : xs.length ≤ 1048576) :
    ACalls Try.prog 15 [Pt p, .int .i64 k, .slice (some ⟨H.next, 0, none⟩) xs.length xs.length] (H.alloc (.cells (xs.flatMap eV) (.row 2) 28)) fun r H' => r = .tuple #[vV (m.make k xs).1.1, .int .i64 (m.make k xs).1.2] ∧ ∃ F', St H' p (m.make k xs).2 F' ∧ Fr F H F' H' := by
  have hk : Keep H.next H (H.alloc (.cells (xs.flatMap eV) (.row 2) 28)) := (Keep.refl _ _).alloc (Nat.le_refl _) _
  have hR : Rd 2 eV (H.next + 1) (H.alloc (.cells (xs.flatMap eV) (.row 2) 28)) (some ⟨H.next, 0, none⟩) xs := Rd.mk' (by simp) (by omega) (AHeap.at_alloc_new _ _) (by simp) rfl (by rw [flatMap_length (n := 2)]; simp)
  refine (c15 (h.kept hk) hI k (by simp) hR hn (fun e => absurd e hx)).mono fun r H' ⟨hr, F', hS, hF⟩ => ⟨hr, F', hS, (Fr.keep hk).trans hF⟩
/-- append of one value. -/
theorem app1 {H : AHeap} {F : Nat → Prop} {A : Option Addr} {xs : List V} {v : V} {K : Value → AHeap → Prop} (hF : ∀ b, F b → b < H.next) (h : Lr H F A xs) (hn : xs.length ≤ 1048576)
    (hk : ∀ H', Lr H' F (some ⟨H.next + 1, 0, none⟩) (xs ++ [v]) → H.next ≤ H'.next → (∀ b, b < H.next → (∀ x, A = some x → x.block ≠ b) → H'.at_ b = H.at_ b) → K (.slice (some ⟨H.next + 1, 0, none⟩) (xs.length + 1) (xs.length + 1)) H') :
    aAppend 2 16 28 (.slice A xs.length xs.length) (.slice (some ⟨H.next, 0, none⟩) 1 1) (H.alloc (.cells (eV v) (.row 2) 28)) K := by
  have hR : Rd 2 eV (H.next + 1) (H.alloc (.cells (eV v) (.row 2) 28)) (some ⟨H.next, 0, none⟩) [v] := Rd.mk' (by simp) (by omega) (AHeap.at_alloc_new _ _) (by simp) (by simp) (by simp)
  have := (h.ow.alloc (.cells (eV v) (.row 2) 28)).append (bytes := 16) (c := xs.length) (c' := 1) (K := K) hR (Nat.zero_le _) (by simp only [maxLen, List.length_singleton]; omega) (by simp only [List.length_singleton]; omega) fun H' hO hn' hat _ => by
    simp at hO hn' hat
    rw [List.length_append, List.length_singleton]
    refine hk H' ⟨hO, fun x hx hf => ?_⟩ (by omega) fun b hb hA => ?_
    · cases hx
      have := hF _ hf
      dsimp only at this
      omega
    · rw [hat b (by omega) fun o s hh => hA _ hh rfl, AHeap.at_alloc_ne _ _ (by omega)]
  simpa using this
end Go.Proofs.Ytngldjajfpbmbaa.A
