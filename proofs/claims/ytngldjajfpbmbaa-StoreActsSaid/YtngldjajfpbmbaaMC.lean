/- Contracts of functions that the statement reaches; each theorem carries its own conditions, the last theorem of the claim has none. -/
import Derived.Test.YtngldjajfpbmbaaMB
set_option linter.unusedVariables false
set_option linter.unusedSimpArgs false
namespace Go.Proofs.Ytngldjajfpbmbaa.A
open Go Go.Abs

theorem total_map (pl : List Int) (xs : List Ob) : total (xs.map (mvOb pl)) = total xs := by
  simp [total, Function.comp_def, cells_mv]
theorem Inv.collect {m : Sm} (h : Inv m) (s : List Bool) : Inv (m.collect s) := by
  have := keepP_total m.objs s
  have := h.sum
  have := h.le
  refine ⟨?_, ?_, h.lim⟩
  · simp only [Sm.collect, total_map]
  · simp only [Sm.collect]; omega
theorem Vd.collect {m : Sm} (h : Vd m) {s : List Bool} {xs : List V} (hsl : s.length = m.objs.length) (hs : ∀ i, s.getD i false = true ↔ Reach m xs i) : Vd (m.collect s) := by
  refine ⟨fun o ho v hv h7 => ?_, fun o ho h10 => ?_⟩
  · simp only [Sm.collect] at ho ⊢
    obtain ⟨o', ho', rfl⟩ := List.mem_map.1 ho
    simp only [mvOb] at hv
    obtain ⟨w, hw, rfl⟩ := List.mem_map.1 hv
    have hw7 : w.1 = 7 := by
      unfold mv at h7
      split at h7
      · assumption
      · exact h7
    obtain ⟨i, hi⟩ := List.getElem?_of_mem ho'
    obtain ⟨j, hj, hsj, _⟩ := keepP_idx _ _ _ _ hi
    have hr : s.getD w.2.toNat false = true := (hs _).2 (.step ((hs j).1 hsj) hj hw hw7)
    have hlt : w.2.toNat < m.objs.length := by
      rw [← hsl]
      rw [List.getD_eq_getElem?_getD] at hr
      rcases Nat.lt_or_ge w.2.toNat s.length with h1 | h1
      · exact h1
      · rw [List.getElem?_eq_none h1] at hr; simp at hr
    have hk := keepP_at m.objs s w.2.toNat _ (List.getElem?_eq_getElem hlt) hr
    have hk2 := (List.getElem?_eq_some_iff.1 hk).1
    have : mv (place m s) w = (7, ((keepP (m.objs.take w.2.toNat) s).length : Int)) := by
      unfold mv
      rw [if_pos hw7]
      simp only [place, placeTo, List.getD_eq_getElem?_getD, List.getElem?_map, List.getElem?_range hlt, Option.map_some, Option.getD_some]
      rw [if_pos ⟨hlt, by rw [← List.getD_eq_getElem?_getD]; exact hr⟩]
    rw [this, List.length_map]
    constructor <;> simp <;> omega
  · simp only [Sm.collect] at ho
    obtain ⟨o', ho', rfl⟩ := List.mem_map.1 ho
    simp [mvOb] at h10 ⊢
    exact h.syn o' (keepP_mem ho') h10

/-! What a caller has of its own. -/
structure Lv (H : AHeap) (F : Nat → Prop) (q : Nat) (x : Blk) : Prop where
  at_ : H.at_ q = x
  lt : q < H.next
  nf : ¬ F q
theorem Lv.fr {H H' : AHeap} {F F' : Nat → Prop} {q : Nat} {x : Blk} (h : Lv H F q x) (k : Fr F H F' H') : Lv H' F' q x :=
  ⟨(k.at_ q h.lt h.nf).trans h.at_, Nat.lt_of_lt_of_le h.lt k.next, fun hf => by rcases k.new q hf with h1 | h1; exact h.nf h1; have := h.lt; omega⟩
theorem Lv.kept {H H' : AHeap} {F : Nat → Prop} {q : Nat} {x : Blk} (h : Lv H F q x) (k : Keep H.next H H') : Lv H' F q x := h.fr (Fr.keep k)
/-- A row of the caller's own. -/
structure Lr (H : AHeap) (F : Nat → Prop) (A : Option Addr) (xs : List V) : Prop where
  ow : Ow 2 eV 28 0 H A xs
  nf : ∀ x, A = some x → ¬ F x.block
theorem Lr.fr {H H' : AHeap} {F F' : Nat → Prop} {A : Option Addr} {xs : List V} (h : Lr H F A xs) (k : Fr F H F' H') : Lr H' F' A xs := by
  refine ⟨h.ow.at k.next fun x hx => k.at_ _ (h.ow.blkOf hx).2.2.1 (h.nf x hx), fun x hx hf => ?_⟩
  rcases k.new _ hf with h1 | h1
  · exact h.nf x hx h1
  · have := (h.ow.blkOf hx).2.2.1; omega
theorem Lr.kept {H H' : AHeap} {F : Nat → Prop} {A : Option Addr} {xs : List V} (h : Lr H F A xs) (k : Keep H.next H H') : Lr H' F A xs := h.fr (Fr.keep k)
theorem Lr.nil (H : AHeap) (F : Nat → Prop) : Lr H F none [] := ⟨Ow.nil _ _ _ _ _, fun x hx => by cases hx⟩
theorem Lv.updne {H : AHeap} {F : Nat → Prop} {q r : Nat} {x y : Blk} (h : Lv H F q x) (hn : q ≠ r) : Lv (H.upd r y) F q x := ⟨by rw [AHeap.at_upd_ne _ _ hn]; exact h.at_, h.lt, h.nf⟩
theorem Lv.upd {H : AHeap} {F : Nat → Prop} {q : Nat} {x y : Blk} (h : Lv H F q x) : Lv (H.upd q y) F q y := ⟨by simp, h.lt, h.nf⟩
theorem Lv.new {H : AHeap} {F : Nat → Prop} (hF : ∀ b, F b → b < H.next) (x : Blk) : Lv (H.alloc x) F H.next x := ⟨by simp, by simp, fun h => by have := hF _ h; omega⟩
theorem Lr.updvar {H : AHeap} {F : Nat → Prop} {q : Nat} {cs : List Value} {t : TypeId} {y : Blk} {A : Option Addr} {xs : List V} (h : Lr H F A xs) (hq : Lv H F q (.cells cs .var t)) : Lr (H.upd q y) F A xs := by
  refine ⟨h.ow.at (Nat.le_refl _) fun x hx => AHeap.at_upd_ne _ _ ?_, h.nf⟩
  rintro rfl
  obtain ⟨_, _, _, ds, hds⟩ := h.ow.blkOf hx
  rw [hq.at_] at hds
  cases hds
theorem St.updnf {H : AHeap} {F : Nat → Prop} {p q : Nat} {m : Sm} {y : Blk} (h : St H p m F) (hq : ¬ F q) : St (H.upd q y) p m F := h.frame (Nat.le_refl _) fun b hb => AHeap.at_upd_ne _ _ (by rintro rfl; exact hq hb)
/-- Make, of values that are written down. -/
theorem mkLit {H : AHeap} {p : Nat} {m : Sm} {F : Nat → Prop} (h : St H p m F) (hI : Inv m) (k : Int) (xs : List V) (hx : xs ≠ []) (hn : xs.length ≤ 1048576) :
    ACalls Try.prog 15 [Pt p, .int .i64 k, .slice (some ⟨H.next, 0, none⟩) xs.length xs.length] (H.alloc (.cells (xs.flatMap eV) (.row 2) 28)) fun r H' => r = .tuple #[vV (m.make k xs).1.1, .int .i64 (m.make k xs).1.2] ∧ ∃ F', St H' p (m.make k xs).2 F' ∧ Fr F H F' H' := by
  have hk : Keep H.next H (H.alloc (.cells (xs.flatMap eV) (.row 2) 28)) := (Keep.refl _ _).alloc (Nat.le_refl _) _
  have hR : Rd 2 eV (H.next + 1) (H.alloc (.cells (xs.flatMap eV) (.row 2) 28)) (some ⟨H.next, 0, none⟩) xs := Rd.mk' (by simp) (by omega) (AHeap.at_alloc_new _ _) (by simp) rfl (by rw [flatMap_length (n := 2)]; simp)
  refine (c15 (h.kept hk) hI k (by simp) hR hn (fun e => absurd e hx)).mono fun r H' ⟨hr, F', hS, hF⟩ => ⟨hr, F', hS, (Fr.keep hk).trans hF⟩
/-- append of one value. -/
theorem app1 {H : AHeap} {F : Nat → Prop} {A : Option Addr} {xs : List V} {v : V} {K : Value → AHeap → Prop} (hF : ∀ b, F b → b < H.next) (h : Lr H F A xs) (hn : xs.length ≤ 1048576)
    (hk : ∀ H', Lr H' F (some ⟨H.next + 1, 0, none⟩) (xs ++ [v]) → H.next ≤ H'.next → (∀ b, b < H.next → (∀ x, A = some x → x.block ≠ b) → H'.at_ b = H.at_ b) → K (.slice (some ⟨H.next + 1, 0, none⟩) (xs.length + 1) (xs.length + 1)) H') :
    aAppend 2 16 28 (.slice A xs.length xs.length) (.slice (some ⟨H.next, 0, none⟩) 1 1) (H.alloc (.cells (eV v) (.row 2) 28)) K := by
  have hR : Rd 2 eV (H.next + 1) (H.alloc (.cells (eV v) (.row 2) 28)) (some ⟨H.next, 0, none⟩) [v] := Rd.mk' (by simp) (by omega) (AHeap.at_alloc_new _ _) (by simp) (by simp) (by simp)
  have := (h.ow.alloc (.cells (eV v) (.row 2) 28)).append (bytes := 16) (c := xs.length) (c' := 1) (K := K) hR (Nat.zero_le _) (by simp only [maxLen, List.length_singleton]; omega) (by simp only [List.length_singleton]; omega) fun H' hO hn' hat _ => by
    simp at hO hn' hat
    rw [List.length_append, List.length_singleton]
    refine hk H' ⟨hO, fun x hx hf => ?_⟩ (by omega) fun b hb hA => ?_
    · cases hx
      have := hF _ hf
      dsimp only at this
      omega
    · rw [hat b (by omega) fun o s hh => hA _ hh rfl, AHeap.at_alloc_ne _ _ (by omega)]
  simpa using this
end Go.Proofs.Ytngldjajfpbmbaa.A

set_option linter.unusedVariables false
set_option linter.unusedSimpArgs false
namespace Go.Proofs.Ytngldjajfpbmbaa.A
open Go Go.Abs

theorem keepP_prefix {α : Type} : ∀ (xs : List α) (s : List Bool) (c : Nat), xs.length ≤ s.length → (∀ i, i < xs.length → (s.getD i false = true ↔ i < c)) → keepP xs s = xs.take c
  | [], s, c, _, _ => by simp [keepP_nil]
  | x :: xs, [], c, h, _ => by simp at h
  | x :: xs, b :: bs, c, h, hi => by
    have h0 := hi 0 (by simp)
    simp at h0
    cases c with
    | zero =>
      have hb : b = false := by cases b; rfl; simp at h0
      subst hb
      simp only [keepP, List.take_zero]
      have := keepP_prefix xs bs 0 (by simpa using h) fun i hi' => by have := hi (i + 1) (by simp; omega); simpa using this
      simpa using this
    | succ c =>
      have hb : b = true := h0.2 (by omega)
      subst hb
      have := keepP_prefix xs bs c (by simpa using h) fun i hi' => by have := hi (i + 1) (by simp; omega); simpa using this
      simp [keepP, this]

/-- A chain of pairs. -/
def lastV (i : Nat) : V := if i = 0 then (0, 0) else (7, (i : Int) - 1)
def chO (j : Nat) : Ob := mkOb 1 [(4, (j : Int)), lastV j]
def chL (i : Nat) : List Ob := (List.range i).map chO
def bxO : Ob := mkOb 1 [(0, 0), (0, 0)]
/-- A chain, and pairs of nothing behind it. -/
def chM (lim : Int) (i r : Nat) : Sm := ⟨lim, 3 * ((i : Int) + r), chL i ++ List.replicate r bxO, []⟩
def allV (i : Nat) : List V := (List.range i).map fun (j : Nat) => ((7 : Int), (j : Int))
theorem chL_len (i : Nat) : (chL i).length = i := by simp [chL]
theorem allV_len (i : Nat) : (allV i).length = i := by simp [allV]
theorem chL_succ (i : Nat) : chL (i + 1) = chL i ++ [chO i] := by simp [chL, List.range_succ]
theorem allV_succ (i : Nat) : allV (i + 1) = allV i ++ [(7, (i : Int))] := by simp [allV, List.range_succ]
theorem chO_cells (j : Nat) : (chO j).cells = 3 := rfl
theorem chL_total : ∀ i : Nat, total (chL i) = 3 * i
  | 0 => rfl
  | i + 1 => by rw [chL_succ, total_append, chL_total i]; simp [total, chO_cells]; omega
theorem rep_total : ∀ r : Nat, total (List.replicate r bxO) = 3 * r
  | 0 => rfl
  | r + 1 => by rw [List.replicate_succ', total_append, rep_total r]; simp [total, bxO, mkOb, Ob.cells]; omega
theorem chM_inv {lim : Int} {i r : Nat} (h : 3 * ((i : Int) + r) ≤ lim) (hl : lim ≤ 1048576) : Inv (chM lim i r) := by
  refine ⟨?_, h, hl⟩
  simp only [chM, total_append, chL_total, rep_total]
  omega
theorem chM_len (lim : Int) (i r : Nat) : (chM lim i r).objs.length = i + r := by simp [chM, chL_len]
theorem chM_vd (lim : Int) (i r : Nat) : Vd (chM lim i r) := by
  refine ⟨fun o ho v hv h7 => ?_, fun o ho h10 => ?_⟩
  · rw [chM_len]
    simp only [chM] at ho
    rcases List.mem_append.1 ho with ho | ho
    · simp only [chL, List.mem_map, List.mem_range] at ho
      obtain ⟨j, hj, rfl⟩ := ho
      simp [chO, mkOb] at hv
      rcases hv with rfl | rfl
      · simp at h7
      · unfold lastV at h7 ⊢
        split
        · rename_i h0; rw [if_pos h0] at h7; simp at h7
        · simp; omega
    · obtain ⟨_, rfl⟩ := List.mem_replicate.1 ho
      simp [bxO, mkOb] at hv
      rw [hv] at h7
      simp at h7
  · simp only [chM] at ho
    rcases List.mem_append.1 ho with ho | ho
    · simp only [chL, List.mem_map, List.mem_range] at ho
      obtain ⟨j, hj, rfl⟩ := ho
      simp [chO, mkOb] at h10
    · obtain ⟨_, rfl⟩ := List.mem_replicate.1 ho
      simp [bxO, mkOb] at h10
theorem sound_obj {m : Sm} {n : Int} (h : 0 ≤ n) (h' : n < m.objs.length) : m.sound (7, n) = true := by
  simp [Sm.sound, okRef, h, h']
theorem chM_make {lim : Int} {i : Nat} (h : 3 * ((i : Int) + 1) ≤ lim) : (chM lim i 0).make 1 [(4, (i : Int)), lastV i] = (((7, (i : Int)), 0), chM lim (i + 1) 0) := by
  have h1 : (chM lim i 0).sound (4, (i : Int)) = true := by simp [Sm.sound]
  have h2 : (chM lim i 0).sound (lastV i) = true := by
    unfold lastV
    split
    · simp [Sm.sound]
    · exact sound_obj (by omega) (by rw [chM_len]; omega)
  have h3 : ¬ (chM lim i 0).lim - (chM lim i 0).used < ((mkOb 1 [(4, (i : Int)), lastV i]).cells : Int) := by
    simp only [chM, mkOb, Ob.cells]
    simp
    omega
  unfold Sm.make
  rw [if_pos (by simp [shaped]), if_pos (by simp [h1, h2]), if_neg h3, chM_len]
  congr 1
  simp only [Sm.put, chM, chL_succ, List.replicate_zero, List.append_nil]
  congr 1
theorem chM_make2 {lim : Int} {i r : Nat} (h : 3 * ((i : Int) + r + 1) ≤ lim) : (chM lim i r).make 1 [(0, 0), (0, 0)] = (((7, ((i + r : Nat) : Int)), 0), chM lim i (r + 1)) := by
  have h1 : (chM lim i r).sound (0, 0) = true := by simp [Sm.sound]
  have h3 : ¬ (chM lim i r).lim - (chM lim i r).used < ((mkOb 1 [(0, 0), (0, 0)]).cells : Int) := by
    simp only [chM, mkOb, Ob.cells]
    simp
    omega
  unfold Sm.make
  rw [if_pos (by simp [shaped]), if_pos (by simp [h1]), if_neg h3, chM_len]
  congr 1
  simp only [Sm.put, chM, List.replicate_succ', List.append_assoc]
  congr 1
theorem chM_full {lim : Int} {i r : Nat} (h : 3 * ((i : Int) + r) = lim) : (chM lim i r).make 2 [] = (((0, 0), 16), chM lim i r) := by
  have h3 : (chM lim i r).lim - (chM lim i r).used < ((mkOb 2 []).cells : Int) := by
    simp only [chM, mkOb, Ob.cells]
    simp
    omega
  unfold Sm.make
  rw [if_pos (by simp [shaped]), if_pos (by simp), if_pos h3]
theorem chL_get {i j : Nat} (h : j < i) : (chL i)[j]? = some (chO j) := by simp [chL, h]
theorem chM_get {lim : Int} {i j : Nat} (h : j < i) : (chM lim i 0).get (7, (j : Int)) 0 = ((4, (j : Int)), 0) ∧ (chM lim i 0).get (7, (j : Int)) 1 = (lastV j, 0) := by
  have h1 : okRef (chM lim i 0) (7, (j : Int)) = true := by rw [okRef_iff, chM_len]; simp; omega
  have h2 : (chM lim i 0).ob (7, (j : Int)) = chO j := by
    simp only [Sm.ob, chM, List.replicate_zero, List.append_nil, Int.toNat_natCast, List.getD_eq_getElem?_getD, chL_get h, Option.getD_some]
  unfold Sm.get
  rw [h2]
  simp [h1, chO, mkOb]
theorem chM_reach {lim : Int} {k a : Nat} (ha : a < k) (i : Nat) : Reach (chM lim k 0) [(7, (a : Int))] i ↔ i < a + 1 := by
  constructor
  · intro h
    induction h with
    | root hv h7 => simp at hv; subst hv; simp
    | @step i o v hi ho hv h7 ih =>
      simp only [chM, List.replicate_zero, List.append_nil] at ho
      rw [chL_get (by omega)] at ho
      cases ho
      simp [chO, mkOb] at hv
      rcases hv with rfl | rfl
      · simp at h7
      · unfold lastV at h7 ⊢
        split
        · rename_i h0; rw [if_pos h0] at h7; simp at h7
        · simp; omega
  · intro h
    have : ∀ d, d ≤ a → Reach (chM lim k 0) [(7, (a : Int))] (a - d) := by
      intro d
      induction d with
      | zero => intro _; have := Reach.root (m := chM lim k 0) (roots := [(7, (a : Int))]) (v := (7, (a : Int))) (by simp) rfl; simpa using this
      | succ d ih =>
        intro hd
        have h1 := ih (by omega)
        have ho : (chM lim k 0).objs[a - d]? = some (chO (a - d)) := by
          simp only [chM, List.replicate_zero, List.append_nil]
          exact chL_get (by omega)
        have := Reach.step h1 ho (v := lastV (a - d)) (by simp [chO, mkOb]) (by unfold lastV; rw [if_neg (by omega)])
        have e : (lastV (a - d)).2.toNat = a - (d + 1) := by unfold lastV; rw [if_neg (by omega)]; simp; omega
        rwa [e] at this
    have := this (a - i) (by omega)
    rwa [show a - (a - i) = i by omega] at this
theorem chL_take {i j : Nat} (h : j ≤ i) : (chL i).take j = chL j := by
  simp [chL, ← List.map_take, List.take_range, Nat.min_eq_left h]
theorem chM_collect {lim : Int} {k a : Nat} (ha : a < k) {s : List Bool} (hl : s.length = (chM lim k 0).objs.length) (hs : ∀ i, s.getD i false = true ↔ Reach (chM lim k 0) [(7, (a : Int))] i) :
    (chM lim k 0).collect s = chM lim (a + 1) 0 ∧ mv (place (chM lim k 0) s) (7, (a : Int)) = (7, (a : Int)) := by
  have hs' : ∀ i, s.getD i false = true ↔ i < a + 1 := fun i => (hs i).trans (chM_reach ha i)
  rw [chM_len] at hl
  have ho : (chM lim k 0).objs = chL k := by simp [chM]
  have hk : ∀ j, j ≤ a + 1 → keepP (chL j) s = chL j := fun j hj => by
    rw [keepP_prefix _ s j (by rw [chL_len]; omega) fun i hi => by rw [chL_len] at hi; rw [hs']; omega]
    exact chL_take (Nat.le_refl _)
  have hk2 : keepP (chL k) s = chL (a + 1) := by
    rw [keepP_prefix _ s (a + 1) (by rw [chL_len]; omega) fun i _ => hs' i]
    exact chL_take (by omega)
  have hp : ∀ j : Nat, j ≤ a → mv (place (chM lim k 0) s) (7, (j : Int)) = (7, (j : Int)) := by
    intro j hj
    unfold mv
    rw [if_pos rfl]
    have hjk : j < (chM lim k 0).objs.length := by rw [chM_len]; omega
    simp only [place, placeTo, Int.toNat_natCast, List.getD_eq_getElem?_getD, List.getElem?_map, List.getElem?_range hjk, Option.map_some, Option.getD_some]
    rw [if_pos ⟨hjk, by rw [← List.getD_eq_getElem?_getD, hs']; omega⟩, ho, chL_take (by omega), hk j (by omega), chL_len]
  refine ⟨?_, hp a (Nat.le_refl _)⟩
  have hm : (chL (a + 1)).map (mvOb (place (chM lim k 0) s)) = chL (a + 1) := by
    unfold chL
    rw [List.map_map]
    refine List.map_congr_left fun j hj => ?_
    rw [List.mem_range] at hj
    simp only [Function.comp, chO, mvOb, mkOb]
    congr 1
    have e1 : mv (place (chM lim k 0) s) (4, (j : Int)) = (4, (j : Int)) := by unfold mv; rw [if_neg (by simp)]
    have e2 : mv (place (chM lim k 0) s) (lastV j) = lastV j := by
      unfold lastV
      split
      · unfold mv; rw [if_neg (by simp)]
      · have := hp (j - 1) (by omega)
        rwa [show ((j - 1 : Nat) : Int) = (j : Int) - 1 by omega] at this
    simp [e1, e2]
  unfold Sm.collect
  rw [ho, hk2, hm, chL_total]
  simp only [chM, List.replicate_zero, List.append_nil]
  congr 1
end Go.Proofs.Ytngldjajfpbmbaa.A

set_option linter.unusedVariables false
set_option linter.unusedSimpArgs false
namespace Go.Proofs.Ytngldjajfpbmbaa.A
open Go Go.Abs

theorem l3_217 {H : AHeap} {p q : Nat} {F : Nat → Prop} {k a r : Nat} (hk1 : 1 ≤ k) (hk2 : k ≤ 40) (hak : a < k) (hr : r ≤ k - 1 - a) (hS : St H p (chM (3 * k) (a + 1) r) F) (hq : Lv H F q (.cells [.int .i64 0, .int .i64 0] .var 28)) {again : List Value → AHeap → Prop}
    (ha : ∀ H' F', r < k - 1 - a → St H' p (chM (3 * k) (a + 1) (r + 1)) F' → Lv H' F' q (.cells [.int .i64 0, .int .i64 0] .var 28) → again [.int .i64 ((r + 1 : Nat) : Int)] H') :
    S3_217 (fun r _ => r = .bool true) (.int .i64 k) (Pt p) (.int .i64 a) (Pt q) [.int .i64 r] H again := by
  unfold S3_217
  have w1 := wrap64 (x := (k : Int) - 1) (by omega) (by omega)
  have w2 := wrap64 (x := (k : Int) - 1 - a) (by omega) (by omega)
  have w3 := wrap64 (x := (r : Int) + 1) (by omega) (by omega)
  by_cases hlt : r < k - 1 - a
  · have hlt' : (r : Int) < k - 1 - a := by omega
    simp [w1, w2, hlt']
    unfold S3_195
    simp
    refine (mkLit hS (chM_inv (by omega) (by omega)) 1 [(0, 0), (0, 0)] (by simp) (by simp)).mono fun t H2 ⟨ht, F2, hS2, hF2⟩ => ?_
    rw [chM_make2 (by omega)] at ht hS2
    subst ht
    simp [at_alloc, at_upd, w3]
    have hk3 : ∀ x y, Keep H2.next H2 ((H2.alloc x).upd H2.next y) := fun x y => ((Keep.refl _ _).alloc (Nat.le_refl _) _).upd (Nat.le_refl _) _
    exact ha _ F2 hlt (hS2.kept (hk3 _ _)) ((hq.fr hF2).kept (hk3 _ _))
  · have hlt' : ¬ (r : Int) < k - 1 - a := by omega
    simp [w1, w2, hlt']
    refine (c15 hS (chM_inv (by omega) (by omega)) 2 (Nat.le_refl _) (Rd.nil 2 eV H.next H) (by simp) (by simp)).mono fun t H2 ⟨ht, F2, hS2, hF2⟩ => ?_
    rw [chM_full (by omega)] at ht hS2
    subst ht
    unfold S3_216
    have hq2 := hq.fr hF2
    have hne : q ≠ H2.next := by have := hq2.lt; omega
    simp [at_alloc, at_upd, hne, hq2.at_]

theorem l3_218 {H : AHeap} {p q : Nat} {F : Nat → Prop} {k a : Nat} (hk1 : 1 ≤ k) (hk2 : k ≤ 40) (hak : a < k) (hS : St H p (chM (3 * k) (a + 1) 0) F) (hq : Lv H F q (.cells [.int .i64 7, .int .i64 a] .var 28)) :
    aLoop [.int .i64 a] H fun vs_120 H_121 again_122 => S3_218 (fun r _ => r = .bool true) (.int .i64 k) (Pt p) (.int .i64 a) (Pt q) vs_120 H_121 again_122 := by
  refine aLoop_vs (a + 1) (fun i vs H' => vs = [.int .i64 ((a : Int) - i)] ∧ St H' p (chM (3 * k) (a + 1) 0) F ∧ Lv H' F q (.cells (eV (lastV (a + 1 - i))) .var 28)) ⟨by simp, hS, by simpa [lastV] using hq⟩ ?_
  rintro i vs H' again hi ⟨rfl, hS', hq'⟩ ha
  unfold S3_218
  by_cases hlt : i < a + 1
  · have h1 : 0 ≤ (a : Int) - i := by omega
    have h1' : i ≤ a := by omega
    simp only [nth_zero, aBin_geq, bnd_some', decide_eq_true h1, aCond_true]
    unfold S3_175
    have el : lastV (a + 1 - i) = (7, ((a - i : Nat) : Int)) := by unfold lastV; rw [if_neg (by omega)]; congr 1; omega
    have eai : ((a - i : Nat) : Int) = (a : Int) - i := by omega
    have hq7 : H'.at_ q = .cells [.int .i64 7, .int .i64 ((a - i : Nat) : Int)] .var 28 := by rw [hq'.at_, el]
    have hk3 : ∀ x y, Keep H'.next H' ((H'.alloc x).upd H'.next y) := fun x y => ((Keep.refl _ _).alloc (Nat.le_refl _) _).upd (Nat.le_refl _) _
    obtain ⟨g1, g2⟩ := chM_get (lim := 3 * k) (i := a + 1) (j := a - i) (by omega)
    simp [hq7]
    refine (c18 hS' (7, ((a - i : Nat) : Int)) 0).use ?_
    rw [g1]
    have hne : q ≠ H'.next := by have := hq'.lt; omega
    simp [at_alloc, at_upd, hne, hq7]
    refine (c18 (hS'.kept (hk3 _ _)) (7, ((a - i : Nat) : Int)) 1).use ?_
    rw [g2]
    unfold S3_174
    have hne2 : q ≠ H'.next + 1 := by have := hq'.lt; omega
    have w1 := wrap64 (x := (a : Int) - i - 1) (by omega) (by omega)
    simp [at_alloc, at_upd, hne, hne2, hne.symm, hne2.symm, hq7, eai, w1]
    have hk4 : ∀ x y z w, Keep H'.next H' ((((H'.alloc x).upd H'.next y).alloc z).upd (H'.next + 1) w) := fun x y z w => ((hk3 x y).alloc (by simp) _).upd (by omega) _
    have e3 : (a : Int) - ((i + 1 : Nat) : Int) = a - i - 1 := by omega
    rw [← e3]
    refine ha _ _ hlt ⟨rfl, (hS'.kept (hk4 _ _ _ _)).updnf hq'.nf, ?_⟩
    have := (hq'.kept (hk4 (.cells [.int .i64 0, .int .i64 0] .var 28) (.cells [.int .i64 4, .int .i64 ((a - i : Nat) : Int)] .var 28) (.cells [.int .i64 0, .int .i64 0] .var 28) (.cells (eV (lastV (a - i))) .var 28))).upd (y := .cells (eV (lastV (a - i))) .var 28)
    rw [show a + 1 - (i + 1) = a - i by omega]
    simpa [eai] using this
  · have hie : i = a + 1 := by omega
    subst hie
    have h1 : ¬ 0 ≤ (a : Int) - ((a + 1 : Nat) : Int) := by omega
    simp only [nth_zero, aBin_geq, bnd_some', decide_eq_false h1, aCond_false]
    rw [show a + 1 - (a + 1) = 0 by omega] at hq'
    have hq0 : Lv H' F q (.cells [.int .i64 0, .int .i64 0] .var 28) := by simpa [lastV] using hq'
    refine aLoop_vs (k - 1 - a) (fun r vs H' => ∃ F, vs = [.int .i64 r] ∧ St H' p (chM (3 * k) (a + 1) r) F ∧ Lv H' F q (.cells [.int .i64 0, .int .i64 0] .var 28)) ⟨F, rfl, hS', hq0⟩ ?_
    rintro r vs H2 again2 hr ⟨F2, rfl, hS2, hq2⟩ ha2
    exact l3_217 hk1 hk2 hak hr hS2 hq2 fun H3 F3 hlt hS3 hq3 => ha2 _ H3 hlt ⟨F3, rfl, hS3, hq3⟩

theorem l3_221 {G : AHeap} {p : Nat} {F : Nat → Prop} {A : Option Addr} {k kept : Nat} (hk1 : 1 ≤ k) (hk2 : k ≤ 40) (hkept : kept < 256) (hS : St G p (chM (3 * k) k 0) F) (hA : Lr G F A (allV k)) :
    S3_221 (.int .u8 kept) (fun r _ => r = .bool true) (.int .i64 k) (Pt p) [.slice A (allV k).length (allV k).length, .int .i64 k] G := by
  unfold S3_221
  obtain ⟨a, haa⟩ : ∃ a, a = kept % k := ⟨_, rfl⟩
  have hak : a < k := haa ▸ Nat.mod_lt _ (by omega)
  have wk := wrap64 (x := (kept : Int)) (by omega) (by omega)
  have e1 : ((kept : Int).tmod k) = (a : Int) := by rw [Int.tmod_eq_emod_of_nonneg (by omega), haa]; omega
  have hlen := allV_len k
  rw [aConvInt_int, bnd_some', wk, aBin_rem _ _ _ _ (by omega), bnd_some', e1]
  have i1 := hA.ow.rd.idx (k := .i64) (j := (a : Int)) (c := (allV k).length) (by omega) (by omega)
  rw [Int.toNat_natCast] at i1
  have hal : a < (allV k).length := by omega
  have l1 := hA.ow.rd.agg hal
  have e2 : (allV k)[a] = (7, (a : Int)) := by simp [allV]
  rw [e2] at l1
  simp [i1, l1, -aLdAgg_ptr]
  have hkr : Keep G.next G (G.alloc (.cells [.int .i64 7, .int .i64 a] (.row 2) 28)) := (Keep.refl _ _).alloc (Nat.le_refl _) _
  have hR : Rd 2 eV (G.next + 1) (G.alloc (.cells [.int .i64 7, .int .i64 a] (.row 2) 28)) (some ⟨G.next, 0, none⟩) [(7, (a : Int))] := Rd.mk' (by simp) (by omega) (AHeap.at_alloc_new _ _) (by simp) (by simp) (by simp)
  refine (c16 (hS.kept hkr) (chM_inv (by omega) (by omega)) (chM_vd _ _ _) (by simp) hR (by simp) (by simp) fun x hx hf => ?_).mono fun r H2 hr => ?_
  · cases hx
    have := hS.lt _ hf
    dsimp only at this
    omega
  have hsd : [((7 : Int), (a : Int))].all (chM (3 * k) k 0).sound = true := by simp [sound_obj (m := chM (3 * k) k 0) (n := (a : Int)) (by omega) (by rw [chM_len]; omega)]
  rw [if_pos hsd] at hr
  obtain ⟨s, hsl, hsr, C, F', rfl, hO, hS2, hF2, hCF⟩ := hr
  obtain ⟨ec, em⟩ := chM_collect hak hsl hsr
  rw [ec] at hS2
  unfold S3_220
  have w1 := wrap64 (x := (a : Int) + 1) (by omega) (by omega)
  have w2 := wrap64 (x := 3 * ((a : Int) + 1)) (by omega) (by omega)
  simp
  refine (c17 hS2).use ?_
  have eu : (chM (3 * k) (a + 1) 0).used = 3 * ((a : Int) + 1) := by simp [chM]
  rw [eu]
  simp [w1, w2]
  unfold S3_219
  simp only [List.map_cons, List.map_nil, em] at hO
  have i2 := hO.rd.idx (k := .i64) (j := (0 : Int)) (c := 1) (by omega) (by simp)
  have l2 := hO.rd.agg (j := 0) (by simp)
  simp at i2 l2
  simp [i2, l2, -aLdAgg_ptr, at_alloc]
  have hk3 : ∀ x y, Keep H2.next H2 ((H2.alloc x).upd H2.next y) := fun x y => ((Keep.refl _ _).alloc (Nat.le_refl _) _).upd (Nat.le_refl _) _
  exact l3_218 hk1 hk2 hak (hS2.kept (hk3 _ _)) ⟨by simp, by simp, fun hf => by have := hS2.lt _ hf; omega⟩
end Go.Proofs.Ytngldjajfpbmbaa.A

set_option linter.unusedVariables false
set_option linter.unusedSimpArgs false
namespace Go.Proofs.Ytngldjajfpbmbaa.A
open Go Go.Abs

theorem c3 {H : AHeap} {n kept : Nat} (hn : n < 256) (hkept : kept < 256) : ACalls Try.prog 3 [.int .u8 n, .int .u8 kept] H fun r _ => r = .bool true := by
  refine S3_calls ?_
  unfold S3
  have e0 : ((n : Int).tmod 40) = ((n % 40 : Nat) : Int) := by
    rw [Int.tmod_eq_emod_of_nonneg (by omega)]; omega
  obtain ⟨k, hk⟩ : ∃ k, k = n % 40 + 1 := ⟨_, rfl⟩
  have w0 := wrap64 (x := ((n % 40 : Nat) : Int)) (by omega) (by omega)
  have w1 : IntKind.i64.wrap (((n % 40 : Nat) : Int) + 1) = (k : Int) := by rw [wrap64 (by omega) (by omega)]; omega
  have w2 := wrap64 (x := 3 * (k : Int)) (by omega) (by omega)
  rw [aBin_rem _ _ _ _ (by decide)]
  simp only [bnd_some', aConvInt_int, aBin_add, aBin_mul, e0, w0, w1, w2]
  refine (c13 (by omega) (by omega)).mono fun r H1 ⟨p, F, hr, hS, hkp, hF⟩ => ?_
  subst hr
  unfold S3_225
  simp
  refine c14.use ?_
  simp
  unfold S3_224
  simp
  obtain ⟨G, hG⟩ : ∃ X, X = (H1.alloc (.cells [.int .i64 0, .int .i64 0] .var 28)).upd H1.next (.cells [.int .i64 0, .int .i64 0] .var 28) := ⟨_, rfl⟩
  have hkG : Keep H1.next H1 G := hG ▸ ((Keep.refl _ _).alloc (Nat.le_refl _) _).upd (Nat.le_refl _) _
  have eG : G.at_ H1.next = .cells [.int .i64 0, .int .i64 0] .var 28 := by rw [hG]; simp
  have hnG : G.next = H1.next + 1 := by rw [hG]; simp
  simp [at_alloc]
  rw [← hG]
  clear hG
  have hSG := hS.kept hkG
  have e13 : Sm.new (3 * (k : Int)) = chM (3 * k) 0 0 := by simp [Sm.new, chM, chL]
  rw [e13] at hSG
  have hq0 : Lv G F H1.next (.cells (eV (lastV 0)) .var 28) := ⟨eG, by omega, fun hf => by have := hS.lt _ hf; omega⟩
  generalize H1.next = q at *
  clear eG hnG hkG hS e13 hkp
  refine aLoop_vs k (fun i vs H' => ∃ A F, vs = [.slice A (allV i).length (allV i).length, .int .i64 i] ∧ St H' p (chM (3 * k) i 0) F ∧ Lv H' F q (.cells (eV (lastV i)) .var 28) ∧ Lr H' F A (allV i)) ⟨none, F, rfl, hSG, hq0, Lr.nil _ _⟩ ?_
  clear hSG hq0
  rintro i vs H' again hi ⟨A, F, rfl, hS, hq, hA⟩ ha
  unfold S3_223
  have hlen := allV_len i
  have hI : Inv (chM (3 * k) i 0) := chM_inv (by omega) (by omega)
  by_cases hlt : i < k
  · simp [hlt]
    unfold S3_50
    have w3 := wrap64 (x := (i : Int) + 1) (by omega) (by omega)
    simp [hq.at_]
    refine (mkLit hS hI 1 [(4, (i : Int)), lastV i] (by simp) (by simp)).mono fun r H2 ⟨hr, F2, hS2, hF2⟩ => ?_
    rw [chM_make (by omega)] at hr hS2
    subst hr
    have hq2 := hq.fr hF2
    have hA2 := hA.fr hF2
    simp [at_alloc, at_upd]
    unfold S3_49
    have hne : q ≠ H2.next := by have := hq2.lt; omega
    simp [at_alloc, at_upd, hne, hne.symm, hq2.at_]
    obtain ⟨G, hG⟩ : ∃ X, X = ((H2.alloc (.cells [.int .i64 0, .int .i64 0] .var 28)).upd H2.next (.cells [.int .i64 7, .int .i64 i] .var 28)).upd q (.cells [.int .i64 7, .int .i64 i] .var 28) := ⟨_, rfl⟩
    have hk2 : Keep H2.next H2 ((H2.alloc (.cells [.int .i64 0, .int .i64 0] .var 28)).upd H2.next (.cells [.int .i64 7, .int .i64 i] .var 28)) := ((Keep.refl _ _).alloc (Nat.le_refl _) _).upd (Nat.le_refl _) _
    have hSG : St G p (chM (3 * k) (i + 1) 0) F2 := hG ▸ (hS2.kept hk2).updnf hq2.nf
    have hqG : Lv G F2 q (.cells (eV (lastV (i + 1))) .var 28) := by
      have := (hq2.kept hk2).upd (y := .cells [.int .i64 7, .int .i64 i] .var 28)
      rw [← hG] at this
      simpa [lastV] using this
    have hAG : Lr G F2 A (allV i) := hG ▸ (hA2.kept hk2).updvar (hq2.kept hk2)
    have hnG : G.next = H2.next + 1 := by rw [hG]; simp
    simp only [← hG]
    clear hG
    have := app1 (v := (7, (i : Int))) (K := fun t66_46 H_47 => again [t66_46, .int .i64 (IntKind.i64.wrap ((i : Int) + 1))] H_47) hSG.lt hAG (by omega) fun H3 hA3 hn3 hat3 => by
      rw [w3]
      refine ha _ H3 hlt ⟨_, F2, by rw [allV_succ, List.length_append]; rfl, hSG.frame hn3 fun b hb => hat3 b (hSG.lt b hb) fun x hx => ?_, ⟨?_, Nat.lt_of_lt_of_le hqG.lt hn3, hqG.nf⟩, by rw [allV_succ]; exact hA3⟩
      · rintro rfl; exact hAG.nf x hx hb
      · rw [hat3 q hqG.lt]
        · exact hqG.at_
        · rintro x hx rfl
          obtain ⟨_, _, _, ds, hds⟩ := hAG.ow.blkOf hx
          rw [hqG.at_] at hds
          cases hds
    rw [hnG] at this
    exact this
  · have hie : i = k := by omega
    subst hie
    simp
    unfold S3_222
    simp
    refine (c15 hS hI 2 (Nat.le_refl _) (Rd.nil 2 eV H'.next H') (by simp) (by simp)).mono fun r H2 ⟨hr, F2, hS2, hF2⟩ => ?_
    rw [chM_full (by omega)] at hr hS2
    subst hr
    have hq2 := hq.fr hF2
    have hA2 := hA.fr hF2
    simp [at_alloc, at_upd]
    have hk2 : ∀ x y, Keep H2.next H2 ((H2.alloc x).upd H2.next y) := fun x y => ((Keep.refl _ _).alloc (Nat.le_refl _) _).upd (Nat.le_refl _) _
    obtain ⟨G, hG⟩ : ∃ X, X = ((H2.alloc (.cells [.int .i64 0, .int .i64 0] .var 28)).upd H2.next (.cells [.int .i64 0, .int .i64 0] .var 28)) := ⟨_, rfl⟩
    have hSG : St G p (chM (3 * i) i 0) F2 := hG ▸ hS2.kept (hk2 _ _)
    have hAG : Lr G F2 A (allV i) := hG ▸ hA2.kept (hk2 _ _)
    simp only [← hG]
    clear hG
    exact l3_221 (by omega) (by omega) hkept hSG hAG
theorem c3i {H : AHeap} {a b : Int} (ha : 0 ≤ a ∧ a < 256) (hb : 0 ≤ b ∧ b < 256) : ACalls Try.prog 3 [.int .u8 a, .int .u8 b] H fun r _ => r = .bool true := by
  obtain ⟨n, rfl⟩ := Int.eq_ofNat_of_zero_le ha.1
  obtain ⟨k, rfl⟩ := Int.eq_ofNat_of_zero_le hb.1
  exact c3 (by omega) (by omega)
end Go.Proofs.Ytngldjajfpbmbaa.A

set_option linter.unusedVariables false
set_option linter.unusedSimpArgs false
namespace Go.Proofs.Ytngldjajfpbmbaa.A
open Go Go.Abs

theorem flat_set {α : Type} {enc : α → List Value} {y : α} : ∀ (xs : List α) (j : Nat), (∀ x, xs[j]? = some x → enc y = enc x) → (xs.set j y).flatMap enc = xs.flatMap enc
  | [], j, _ => by simp
  | x :: xs, 0, h => by simp [h x (by simp)]
  | x :: xs, j + 1, h => by
    simp only [List.set_cons_succ, List.flatMap_cons]
    rw [flat_set xs j fun z hz => h z (by simpa using hz)]
theorem zip_set {α β : Type} : ∀ (xs : List α) (ys : List β) (j : Nat) (x : α) (y : β), ys[j]? = some y → (xs.set j x).zip ys = (xs.zip ys).set j (x, y)
  | [], ys, j, x, y, _ => by simp
  | _ :: _, [], j, x, y, h => by simp at h
  | a :: xs, b :: ys, 0, x, y, h => by simp at h; subst h; rfl
  | a :: xs, b :: ys, j + 1, x, y, h => by
    have := zip_set xs ys j x y (by simpa using h)
    simp [this]
def setOb (o : Ob) (i : Nat) (x : V) : Ob := ⟨o.kind, o.slots.set i x, o.sk, o.text⟩
theorem c19 {H : AHeap} {p : Nat} {m : Sm} {F : Nat → Prop} (h : St H p m F) (v : V) (i : Int) (x : V) :
    ACalls Try.prog 19 [Pt p, vV v, .int .i64 i, vV x] H fun r H' => r = .int .i64 (m.set v i x).1 ∧ St H' p (m.set v i x).2 F ∧ Fr F H F H' := by
  refine S19_calls ?_
  obtain ⟨A, os, NA, mb, h⟩ := h
  unfold S19
  have hk2 : ∀ x y, Keep H.next H ((H.alloc x).alloc y) := fun x y => ((Keep.refl _ _).alloc (Nat.le_refl _) _).alloc (by simp) _
  have hx : ∀ x y, StX ((H.alloc x).alloc y) p m F A os NA mb := fun x y => h.frame (hk2 x y).next fun b hb => (hk2 x y).at_ b (h.lt b hb)
  simp [at_alloc]
  have hk3 := hk2 (.cells [.int .i64 v.1, .int .i64 v.2] .var 28) (.cells [.int .i64 x.1, .int .i64 x.2] .var 28)
  cases hv : okRef m v with
  | false =>
    refine (c47 (hx _ _) v i none (by rw [hv]; intro h; cases h)).use ?_
    simp [slotRes, hv, Sm.set]
    exact ⟨⟨A, os, NA, mb, hx _ _⟩, Fr.keep hk3⟩
  | true =>
    obtain ⟨a, b, cs, ho, ha, hs, hb, hat, hl, hc, hsl⟩ := h.look hv
    refine (c47 (hx _ _) v i a (fun _ => ha)).use ?_
    by_cases h3 : 0 ≤ i ∧ i < (m.ob v).slots.length
    · simp [slotRes, hv, h3, Sm.set]
      unfold S19_17
      simp [at_alloc]
      refine (c30 ⟨A, os, NA, mb, hx _ _⟩ x).use ?_
      cases hsd : m.sound x with
      | false =>
        simp
        exact ⟨⟨A, os, NA, mb, hx _ _⟩, Fr.keep hk3⟩
      | true =>
        have hO := hsl.kept hk3
        obtain ⟨c, hac, _, hcl, y, hst, hO2, ds, hds⟩ := hO.st (j := i.toNat) (k := 0) (l := 2) (off := i.toNat * 2) (v := vV x) (y := x) (by omega) (by omega) (by simp) (by simp) (by omega) (by simp)
        have hst' : aSt 2 (slot 2 a i.toNat) (vV x) ((H.alloc (.cells [.int .i64 v.1, .int .i64 v.2] .var 28)).alloc (.cells [.int .i64 x.1, .int .i64 x.2] .var 28)) = some (((H.alloc (.cells [.int .i64 v.1, .int .i64 v.2] .var 28)).alloc (.cells [.int .i64 x.1, .int .i64 x.2] .var 28)).upd c y) := by rw [hac]; simpa [slot] using hst
        have hnc : aNilCheck (slot 2 a i.toNat) = some (slot 2 a i.toNat) := by rw [hac]; rfl
        have hFc : F c := h.fo _ ⟨c, 0, none⟩ (by rw [ha, hac])
        have hcH := h.lt c hFc
        simp [at_alloc, hnc, hst', -aSt_ptr]
        have h2 := hx (.cells [.int .i64 v.1, .int .i64 v.2] .var 28) (.cells [.int .i64 x.1, .int .i64 x.2] .var 28)
        generalize hG : ((H.alloc (.cells [.int .i64 v.1, .int .i64 v.2] .var 28)).alloc (.cells [.int .i64 x.1, .int .i64 x.2] .var 28)) = G at *
        have un : ∀ d, d ≠ c → (G.upd c y).at_ d = G.at_ d := fun d hd => AHeap.at_upd_ne _ _ hd
        have nc : ∀ (d : Nat) (es : List Value) (u : Use) (t : TypeId), G.at_ d = .cells es u t → t ≠ 28 → d ≠ c := by
          rintro d es u t hd ht rfl
          rw [hds] at hd
          cases hd
          exact ht rfl
        refine ⟨⟨A, os, NA, mb, ?_⟩, ⟨?_, fun b hb hf => ?_, fun b hb => .inl hb⟩⟩
        · refine ⟨by simp [h2.len], ?_, ?_, ?_, h2.dist, ?_, ?_, h2.fp, h2.fA, h2.fo, h2.fN, h2.fm, h2.lt⟩
          · rw [un _ (nc _ _ _ _ h2.hp (by decide)), h2.hp]
            simp
          · have hz := zip_at ho ha
            have e1 : (m.objs.set v.2.toNat (setOb (m.ob v) i.toNat x)).zip os = (m.objs.zip os).set v.2.toNat (setOb (m.ob v) i.toNat x, a) := zip_set _ _ _ _ _ ha
            have hOO := h2.objs.at (H' := G.upd c y) (Nat.le_refl _) fun z hz => un _ (by
              obtain ⟨_, _, _, es, hes⟩ := h2.objs.blkOf hz
              exact nc _ _ _ _ hes (by decide))
            show Ow 10 encO 94 0 (G.upd c y) A ((m.objs.set v.2.toNat (setOb (m.ob v) i.toNat x)).zip os)
            rw [e1]
            have e2 : ((m.objs.zip os).set v.2.toNat (setOb (m.ob v) i.toNat x, a)).flatMap encO = (m.objs.zip os).flatMap encO := flat_set _ _ fun z hz' => by
              rw [hz] at hz'
              cases hz'
              simp [encO, setOb]
            refine ⟨fun _ _ => rfl, ?_⟩
            rcases hOO.2 with ⟨g1, g2⟩ | ⟨b, cs, g1, g2, g3, g4, g5, g6⟩
            · rw [g2]; exact .inl ⟨g1, rfl⟩
            · exact .inr ⟨b, cs, g1, g2, g3, g4, by rw [List.length_set]; exact g5, by rw [List.length_set, e2]; exact g6⟩
          · intro j o' a' h1 h2'
            have h1' : (m.objs.set v.2.toNat (setOb (m.ob v) i.toNat x))[j]? = some o' := h1
            rw [List.getElem?_set] at h1'
            by_cases e : v.2.toNat = j
            · subst e
              rw [if_pos rfl] at h1'
              split at h1'
              · cases h1'
                rw [ha] at h2'
                cases h2'
                exact hO2
              · cases h1'
            · rw [if_neg e] at h1'
              have := h2.slots j o' a' h1' h2'
              refine this.at (Nat.le_refl _) ?_
              rintro z rfl
              refine un _ ?_
              intro ez
              exact e (h2.dist _ _ ⟨c, 0, none⟩ z (by rw [ha, hac]) h2' ez.symm)
          · exact h2.names.at (Nat.le_refl _) fun z hz => un _ (by
              obtain ⟨_, _, _, es, hes⟩ := h2.names.blkOf hz
              exact nc _ _ _ _ hes (by decide))
          · rw [un]
            · exact h2.map
            · rintro rfl
              have := h2.map
              rw [hds] at this
              cases this
        · have := hk3.next; simpa using this
        · rw [un b (by rintro rfl; exact hf hFc)]
          exact hk3.at_ b hb
    · simp [slotRes, hv, h3, Sm.set]
      exact ⟨⟨A, os, NA, mb, hx _ _⟩, Fr.keep hk3⟩
theorem total_set : ∀ (xs : List Ob) (j : Nat) (o o' : Ob), xs[j]? = some o → o'.cells = o.cells → total (xs.set j o') = total xs
  | [], j, o, o', h, _ => by simp at h
  | x :: xs, 0, o, o', h, e => by simp at h; subst h; simp [total, e]
  | x :: xs, j + 1, o, o', h, e => by
    have := total_set xs j o o' (by simpa using h) e
    simp [total] at *
    exact this
theorem ob_at {m : Sm} {v : V} (hv : okRef m v = true) : m.objs[v.2.toNat]? = some (m.ob v) := by
  obtain ⟨h1, h2, h3⟩ := okRef_iff.1 hv
  have hlt : v.2.toNat < m.objs.length := by omega
  simp [Sm.ob, List.getD_eq_getElem?_getD, hlt]
theorem Inv.set {m : Sm} (h : Inv m) (v : V) (i : Int) (x : V) : Inv (m.set v i x).2 := by
  unfold Sm.set
  split
  · rename_i hv
    split
    · split
      · refine ⟨?_, h.le, h.lim⟩
        have hv' : okRef m v = true := hv
        have : total (m.objs.set v.2.toNat (setOb (m.ob v) i.toNat x)) = total m.objs := total_set _ _ _ _ (ob_at hv') (by simp [setOb, Ob.cells])
        simp only [setOb] at this
        simp only [this]
        exact h.sum
      · exact h
    · exact h
  · exact h
theorem Vd.set {m : Sm} (h : Vd m) (v : V) (i : Int) (x : V) : Vd (m.set v i x).2 := by
  unfold Sm.set
  split
  · rename_i hv
    have hv' : okRef m v = true := hv
    have hm : m.ob v ∈ m.objs := List.mem_of_getElem? (ob_at hv')
    split
    · split
      · rename_i hs
        refine ⟨fun o ho w hw h7 => ?_, fun o ho h10 => ?_⟩
        · simp only [List.length_set] at ho ⊢
          rcases List.mem_or_eq_of_mem_set ho with ho | rfl
          · exact h.ok o ho w hw h7
          · simp only at hw
            rcases List.mem_or_eq_of_mem_set hw with hw | rfl
            · exact h.ok _ hm w hw h7
            · exact sound_ix hs h7
        · simp only at ho
          rcases List.mem_or_eq_of_mem_set ho with ho | rfl
          · exact h.syn o ho h10
          · simp only at h10 ⊢
            rw [h.syn _ hm h10]; rfl
      · exact h
    · exact h
  · exact h
end Go.Proofs.Ytngldjajfpbmbaa.A

set_option linter.unusedVariables false
set_option linter.unusedSimpArgs false
namespace Go.Proofs.Ytngldjajfpbmbaa.A
open Go Go.Abs

/-- A ring of boxes, of which the first i are closed. -/
def rgO (k i j : Nat) : Ob := mkOb 3 [if j < i then (7, (((j + 1) % k : Nat) : Int)) else (0, 0)]
def rgL (k n i : Nat) : List Ob := (List.range n).map (rgO k i)
def rgM (k n i : Nat) : Sm := ⟨1000, 2 * (n : Int), rgL k n i, []⟩
theorem rgL_len (k n i : Nat) : (rgL k n i).length = n := by simp [rgL]
theorem rgO_cells (k i j : Nat) : (rgO k i j).cells = 2 := by simp [rgO, mkOb, Ob.cells]
theorem rgL_total (k i : Nat) : ∀ n : Nat, total (rgL k n i) = 2 * n
  | 0 => rfl
  | n + 1 => by
    have := rgL_total k i n
    simp only [rgL] at this
    rw [rgL, List.range_succ, List.map_append, total_append, this]; simp [total, rgO_cells]; omega
theorem rgM_inv {k n i : Nat} (h : n ≤ 21) : Inv (rgM k n i) := by
  refine ⟨?_, ?_, by simp [rgM]⟩
  · simp only [rgM, rgL_total]; omega
  · simp only [rgM]; omega
theorem rgL_get {k n i j : Nat} (h : j < n) : (rgL k n i)[j]? = some (rgO k i j) := by simp [rgL, h]
theorem rgM_vd (k i : Nat) (hk : 0 < k) : Vd (rgM k k i) := by
  refine ⟨fun o ho v hv h7 => ?_, fun o ho h10 => ?_⟩
  · simp only [rgM, rgL_len] at ho ⊢
    simp only [rgL, List.mem_map, List.mem_range] at ho
    obtain ⟨j, hj, rfl⟩ := ho
    simp only [rgO, mkOb, List.mem_singleton] at hv
    have := Nat.mod_lt (j + 1) hk
    split at hv
    · subst hv; constructor <;> (dsimp only; omega)
    · subst hv; simp at h7
  · simp only [rgM, rgL, List.mem_map, List.mem_range] at ho
    obtain ⟨j, hj, rfl⟩ := ho
    simp [rgO, mkOb] at h10
theorem rgM_make {k n : Nat} (h : n < 21) : (rgM k n 0).make 3 [(0, 0)] = (((7, (n : Int)), 0), rgM k (n + 1) 0) := by
  have h1 : (rgM k n 0).sound (0, 0) = true := by simp [Sm.sound]
  have h3 : ¬ (rgM k n 0).lim - (rgM k n 0).used < ((mkOb 3 [(0, 0)]).cells : Int) := by
    simp only [rgM, mkOb, Ob.cells]
    simp
    omega
  unfold Sm.make
  rw [if_pos (by simp [shaped]), if_pos (by simp [h1]), if_neg h3]
  have e1 : (rgM k n 0).objs.length = n := rgL_len _ _ _
  have e2 : (rgM k n 0).put (mkOb 3 [(0, 0)]) = rgM k (n + 1) 0 := by
    simp only [Sm.put, rgM, rgL, List.range_succ, List.map_append]
    congr 1
  rw [e1, e2]
theorem rgM_ob {k n i j : Nat} (h : j < n) : (rgM k n i).ob (7, (j : Int)) = rgO k i j := by
  simp only [Sm.ob, rgM, Int.toNat_natCast, List.getD_eq_getElem?_getD, rgL_get h, Option.getD_some]
theorem rgM_ref {k n i j : Nat} (h : j < n) : okRef (rgM k n i) (7, (j : Int)) = true := by
  rw [okRef_iff]; simp [rgM, rgL_len]; omega
theorem rgM_set {k i : Nat} (h : i < k) : (rgM k k i).set (7, (i : Int)) 0 (7, (((i + 1) % k : Nat) : Int)) = (0, rgM k k (i + 1)) := by
  have hm := Nat.mod_lt (i + 1) (show 0 < k by omega)
  have hs : (rgM k k i).sound (7, (((i + 1) % k : Nat) : Int)) = true := sound_obj (by omega) (by simp only [rgM, rgL_len]; omega)
  unfold Sm.set
  rw [if_pos (rgM_ref h), rgM_ob h, if_pos (by simp [rgO, mkOb]), if_pos hs]
  congr 1
  simp only [rgM]
  congr 1
  refine List.ext_getElem? fun j => ?_
  rw [List.getElem?_set]
  by_cases e : i = j
  · subst e
    simp only [Int.toNat_natCast, if_pos, rgL_len, if_pos h, rgL_get h]
    simp [rgO, mkOb]
  · rw [if_neg (by simpa using e)]
    rcases Nat.lt_or_ge j k with h1 | h1
    · rw [rgL_get h1, rgL_get h1]
      have : j < i + 1 ↔ j < i := by omega
      simp only [rgO, this]
    · rw [List.getElem?_eq_none (by rw [rgL_len]; exact h1), List.getElem?_eq_none (by rw [rgL_len]; exact h1)]
theorem rgM_get {k j : Nat} (h : j < k) : (rgM k k k).get (7, (j : Int)) 0 = ((7, (((j + 1) % k : Nat) : Int)), 0) := by
  unfold Sm.get
  rw [if_pos (rgM_ref h), rgM_ob h, if_pos (by simp [rgO, mkOb])]
  simp [rgO, mkOb, h]
theorem rgM_reach {k : Nat} (hk : 2 ≤ k) (i : Nat) : Reach (rgM k k k) [(7, ((k / 2 : Nat) : Int)), (7, 0)] i ↔ i < k := by
  constructor
  · intro h
    induction h with
    | root hv h7 => simp at hv; rcases hv with rfl | rfl <;> simp <;> omega
    | @step i o v hi ho hv h7 ih =>
      simp only [rgM, rgL_get ih] at ho
      cases ho
      simp only [rgO, mkOb, if_pos ih, List.mem_singleton] at hv
      subst hv
      exact Nat.mod_lt (i + 1) (show 0 < k by omega)
  · induction i with
    | zero => intro _; exact Reach.root (v := (7, 0)) (by simp) rfl
    | succ i ih =>
      intro h
      have h1 := ih (by omega)
      have := Reach.step h1 (o := rgO k k i) (by simp only [rgM]; exact rgL_get (by omega)) (v := (7, (((i + 1) % k : Nat) : Int))) (by simp only [rgO, mkOb]; rw [if_pos (by omega)]; simp) rfl
      rw [Int.toNat_natCast, Nat.mod_eq_of_lt h] at this
      exact this
theorem rgL_take (k i : Nat) {n j : Nat} (h : j ≤ n) : (rgL k n i).take j = rgL k j i := by
  simp [rgL, ← List.map_take, List.take_range, Nat.min_eq_left h]
theorem rgM_collect {k : Nat} (hk : 2 ≤ k) {s : List Bool} (hl : s.length = (rgM k k k).objs.length) (hs : ∀ i, s.getD i false = true ↔ Reach (rgM k k k) [(7, ((k / 2 : Nat) : Int)), (7, 0)] i) :
    (rgM k k k).collect s = rgM k k k ∧ ∀ j : Nat, j < k → mv (place (rgM k k k) s) (7, (j : Int)) = (7, (j : Int)) := by
  have hs' : ∀ i, s.getD i false = true ↔ i < k := fun i => (hs i).trans (rgM_reach hk i)
  simp only [rgM, rgL_len] at hl
  have ho : (rgM k k k).objs = rgL k k k := rfl
  have hkk : ∀ j, j ≤ k → keepP (rgL k j k) s = rgL k j k := fun j hj => by
    rw [keepP_prefix _ s j (by rw [rgL_len]; omega) fun i hi => by rw [rgL_len] at hi; rw [hs']; omega]
    exact rgL_take _ _ (Nat.le_refl _)
  have hp : ∀ j : Nat, j < k → mv (place (rgM k k k) s) (7, (j : Int)) = (7, (j : Int)) := by
    intro j hj
    unfold mv
    rw [if_pos rfl]
    have hjk : j < (rgM k k k).objs.length := by rw [ho, rgL_len]; exact hj
    simp only [place, placeTo, Int.toNat_natCast, List.getD_eq_getElem?_getD, List.getElem?_map, List.getElem?_range hjk, Option.map_some, Option.getD_some]
    rw [if_pos ⟨hjk, by rw [← List.getD_eq_getElem?_getD, hs']; exact hj⟩, ho, rgL_take _ _ (by omega), hkk j (by omega), rgL_len]
  refine ⟨?_, hp⟩
  have hm : (rgL k k k).map (mvOb (place (rgM k k k) s)) = rgL k k k := by
    unfold rgL
    rw [List.map_map]
    refine List.map_congr_left fun j hj => ?_
    rw [List.mem_range] at hj
    simp only [Function.comp, rgO, mvOb, mkOb]
    congr 1
    have := hp ((j + 1) % k) (Nat.mod_lt _ (by omega))
    simp only [if_pos hj, List.map_cons, List.map_nil, this]
  unfold Sm.collect
  rw [ho, hkk k (Nat.le_refl _), hm, rgL_total]
  simp only [rgM]
  congr 1
theorem none_collect (m : Sm) {s : List Bool} (hl : s.length = m.objs.length) (hs : ∀ i, s.getD i false = true ↔ Reach m [] i) : m.collect s = ⟨m.lim, 0, [], m.names⟩ := by
  have hr : ∀ i, ¬ Reach m [] i := by
    intro i h
    induction h with
    | root hv => simp at hv
    | step _ _ _ _ ih => exact ih
  have hk : keepP m.objs s = [] := by
    rw [keepP_prefix _ s 0 (by omega) fun i _ => (hs i).trans ⟨fun h => absurd h (hr i), fun h => by omega⟩]
    simp
  unfold Sm.collect
  rw [hk]
  rfl
end Go.Proofs.Ytngldjajfpbmbaa.A

set_option linter.unusedVariables false
set_option linter.unusedSimpArgs false
namespace Go.Proofs.Ytngldjajfpbmbaa.A
open Go Go.Abs

theorem eqV (a b : V) : aBin .eql (.cells [.int, .int]) (vV a) (vV b) = some (.bool (decide (a = b))) := by
  obtain ⟨a1, a2⟩ := a
  obtain ⟨b1, b2⟩ := b
  simp [aBin, aEqK, sameCells, sameCell]
theorem neV (a b : V) : aBin .neq (.cells [.int, .int]) (vV a) (vV b) = some (.bool (!decide (a = b))) := by
  obtain ⟨a1, a2⟩ := a
  obtain ⟨b1, b2⟩ := b
  simp [aBin, aEqK, sameCells, sameCell]
theorem allV_get {i j : Nat} (h : j < (allV i).length) : (allV i)[j] = (7, (j : Int)) := by simp [allV]

theorem l4_204 {H0 H : AHeap} {p : Nat} {F : Nat → Prop} {k : Nat} (hk : 2 ≤ k) (hk2 : k ≤ 21) {r : Value} {s : List Bool} (hsl : s.length = (rgM k k k).objs.length) (hs : ∀ i, s.getD i false = true ↔ Reach (rgM k k k) [(7, ((k / 2 : Nat) : Int)), (7, 0)] i) (h : collPost H0 p F (rgM k k k) [(7, ((k / 2 : Nat) : Int)), (7, 0)] s r H) :
    S4_204 (fun r _ => r = .bool true) (.int .i64 k) (Pt p) r H := by
  obtain ⟨C, F', rfl, hO, hS, hF, hCF⟩ := h
  obtain ⟨ec, ep⟩ := rgM_collect hk hsl hs
  rw [ec] at hS
  have e0 : mv (place (rgM k k k) s) (7, 0) = (7, 0) := ep 0 (by omega)
  simp only [List.map_cons, List.map_nil, e0, ep (k / 2) (by omega)] at hO
  unfold S4_204
  have w1 := wrap64 (x := 2 * (k : Int)) (by omega) (by omega)
  simp
  refine (c17 hS).use ?_
  simp [rgM, w1]
  unfold S4_203
  have i0 := hO.rd.idx (k := .i64) (j := (0 : Int)) (c := 2) (by omega) (by simp)
  have l0 := hO.rd.agg (j := 0) (by simp)
  simp at i0 l0
  simp [i0, l0, -aLdAgg_ptr, at_alloc]
  have hk3 : ∀ x y, Keep H.next H ((H.alloc x).upd H.next y) := fun x y => ((Keep.refl _ _).alloc (Nat.le_refl _) _).upd (Nat.le_refl _) _
  have hq0 : ∀ x y, Lv ((H.alloc x).upd H.next y) F' H.next y := fun x y => ⟨by simp, by simp, fun hf => by have := hS.lt _ hf; omega⟩
  have hC : Lr H F' C [(7, ((k / 2 : Nat) : Int)), (7, 0)] := ⟨hO.lower (Nat.zero_le _), hCF⟩
  obtain ⟨q, hqe⟩ : ∃ q, q = H.next := ⟨_, rfl⟩
  simp only [← hqe]
  rw [← hqe] at hk3 hq0
  refine aLoop_st k (fun i => [.int .i64 i]) (fun i H' => St H' p (rgM k k k) F' ∧ Lv H' F' q (.cells (eV (7, (((k / 2 + i) % k : Nat) : Int))) .var 28) ∧ Lr H' F' C [(7, ((k / 2 : Nat) : Int)), (7, 0)]) rfl ⟨?_, ?_, ?_⟩ ?_
  · exact hS.kept (by rw [← hqe]; exact hk3 _ _)
  · have e1 : (k / 2 + 0) % k = k / 2 := Nat.mod_eq_of_lt (by omega)
    rw [e1]
    exact hq0 _ _
  · exact hC.kept (by rw [← hqe]; exact hk3 _ _)
  rintro i H' again hi ⟨hS', hq', hC'⟩ ha
  unfold S4_202
  by_cases hlt : i < k
  · simp [hlt]
    unfold S4_162
    have w2 := wrap64 (x := (i : Int) + 1) (by omega) (by omega)
    have hqa := hq'.at_
    generalize hj : (k / 2 + i) % k = j at *
    have hjk : j < k := hj ▸ Nat.mod_lt _ (by omega)
    simp [hqa]
    refine (c18 hS' (7, (j : Int)) 0).use ?_
    rw [rgM_get hjk]
    simp [hqa, w2]
    have e1 : (j + 1) % k = (k / 2 + (i + 1)) % k := by rw [← hj, ← Nat.add_assoc, Nat.mod_add_mod]
    refine ha _ hlt ⟨hS'.updnf hq'.nf, ?_, hC'.updvar hq'⟩
    rw [← e1]
    simpa using hq'.upd (y := .cells (eV (7, (((j + 1) % k : Nat) : Int))) .var 28)
  · have hie : i = k := by omega
    subst hie
    simp
    unfold S4_201
    have e1 : (i / 2 + i) % i = i / 2 := by rw [Nat.add_mod_right]; exact Nat.mod_eq_of_lt (by omega)
    rw [e1] at hq'
    have i0 := hC'.ow.rd.idx (k := .i64) (j := (0 : Int)) (c := 2) (by omega) (by simp)
    have l0 := hC'.ow.rd.agg (j := 0) (by simp)
    have i1 := hC'.ow.rd.idx (k := .i64) (j := (1 : Int)) (c := 2) (by omega) (by simp)
    have l1 := hC'.ow.rd.agg (j := 1) (by simp)
    have lq : aLdAgg 2 (Pt q) H' = some (vV (7, ((i / 2 : Nat) : Int))) := by simp [hq'.at_]
    have l0' : aLdAgg 2 (slot 2 C 0) H' = some (vV (7, ((i / 2 : Nat) : Int))) := l0
    have l1' : aLdAgg 2 (slot 2 C 1) H' = some (vV (7, 0)) := l1
    have ne1 : ¬ ((7, ((i / 2 : Nat) : Int)) : V) = (7, 0) := by intro e; have := congrArg Prod.snd e; simp at this; omega
    have i0' : aIdxAddr 2 (.slice C 2 2) (.int .i64 0) = some (slot 2 C 0) := i0
    have i1' : aIdxAddr 2 (.slice C 2 2) (.int .i64 1) = some (slot 2 C 1) := i1
    simp only [lq, i0', i1', l0', l1', eqV, neV, bnd_some', decide_true, aGuardK_tt, aPick_tt, decide_eq_false ne1, Bool.not_false]

theorem l4_206 {H : AHeap} {p : Nat} {F : Nat → Prop} {A : Option Addr} {k i : Nat} {b : Bool} (hk : 2 ≤ k) (hk2 : k ≤ 21) (hi : i ≤ k) (hS : St H p (rgM k k i) F) (hA : Lr H F A (allV k)) {again : List Value → AHeap → Prop}
    (ha : ∀ H', i < k → St H' p (rgM k k (i + 1)) F → Lr H' F A (allV k) → again [.int .i64 ((i + 1 : Nat) : Int)] H') :
    S4_206 (.bool b) (fun r _ => r = .bool true) (.int .i64 k) (Pt p) [.slice A (allV k).length (allV k).length, .int .i64 k] [.int .i64 i] H again := by
  unfold S4_206
  have hlen := allV_len k
  by_cases hlt : i < k
  · simp [hlt]
    unfold S4_55
    have w1 := wrap64 (x := (i : Int) + 1) (by omega) (by omega)
    have e1 : ((i : Int) + 1).tmod k = (((i + 1) % k : Nat) : Int) := by
      rw [Int.tmod_eq_emod_of_nonneg (by omega)]
      exact (Int.natCast_emod (i + 1) k).symm
    have hm := Nat.mod_lt (i + 1) (show 0 < k by omega)
    have i1 := hA.ow.rd.idx (k := .i64) (j := (i : Int)) (c := (allV k).length) (by omega) (by omega)
    rw [Int.toNat_natCast] at i1
    have l1 := hA.ow.rd.agg (j := i) (by omega)
    rw [allV_get] at l1
    have i2 := hA.ow.rd.idx (k := .i64) (j := (((i + 1) % k : Nat) : Int)) (c := (allV k).length) (by omega) (by omega)
    rw [Int.toNat_natCast] at i2
    have l2 := hA.ow.rd.agg (j := (i + 1) % k) (by omega)
    rw [allV_get] at l2
    simp only [nth_zero, i1, l1, bnd_some', aBin_add, w1, aBin_rem _ _ _ _ (show (k : Int) ≠ 0 by omega), e1, i2, l2]
    refine (c19 hS (7, (i : Int)) 0 (7, (((i + 1) % k : Nat) : Int))).mono fun r H2 ⟨hr, hS2, hF2⟩ => ?_
    rw [rgM_set hlt] at hr hS2
    exact ha H2 hlt hS2 (hA.fr hF2)
  · have hie : i = k := by omega
    subst hie
    simp
    cases b with
    | false =>
      simp
      refine (c16 hS (rgM_inv (by omega)) (rgM_vd _ _ (by omega)) (Nat.le_refl _) (Rd.nil 2 eV H.next H) (by simp) (by simp) fun x hx => by cases hx).mono fun r H2 hr => ?_
      rw [if_pos (by simp)] at hr
      obtain ⟨s, hsl, hsr, C, F', rfl, hO, hS2, hF2, hCF⟩ := hr
      rw [none_collect _ hsl hsr] at hS2
      unfold S4_93
      simp
      refine (c17 hS2).use ?_
      simp
    | true =>
      simp
      unfold S4_205
      have e1 : (i : Int).tdiv 2 = ((i / 2 : Nat) : Int) := by rw [Int.tdiv_eq_ediv_of_nonneg (by omega)]; omega
      have w1 := wrap64 (x := ((i / 2 : Nat) : Int)) (by omega) (by omega)
      have i1 := hA.ow.rd.idx (k := .i64) (j := ((i / 2 : Nat) : Int)) (c := (allV i).length) (by omega) (by omega)
      rw [Int.toNat_natCast] at i1
      have l1 := hA.ow.rd.agg (j := i / 2) (by omega)
      rw [allV_get] at l1
      have i2 := hA.ow.rd.idx (k := .i64) (j := 0) (c := (allV i).length) (by omega) (by omega)
      have l2 := hA.ow.rd.agg (j := 0) (by omega)
      rw [allV_get] at l2
      simp only [Int.toNat_zero] at i2
      simp only [nth_zero, aBin_quo _ _ _ _ (show (2 : Int) ≠ 0 by decide), e1, w1, i1, l1, i2, l2, bnd_some']
      simp
      have hkr : Keep H.next H (H.alloc (.cells [.int .i64 7, .int .i64 ((i / 2 : Nat) : Int), .int .i64 7, .int .i64 0] (.row 2) 28)) := (Keep.refl _ _).alloc (Nat.le_refl _) _
      have hR : Rd 2 eV (H.next + 1) (H.alloc (.cells [.int .i64 7, .int .i64 ((i / 2 : Nat) : Int), .int .i64 7, .int .i64 0] (.row 2) 28)) (some ⟨H.next, 0, none⟩) [(7, ((i / 2 : Nat) : Int)), (7, 0)] := Rd.mk' (by simp) (by omega) (AHeap.at_alloc_new _ _) (by simp) (by simp) (by simp)
      refine (c16 (hS.kept hkr) (rgM_inv (by omega)) (rgM_vd _ _ (by omega)) (by simp) hR (by simp) (by simp) fun x hx hf => ?_).mono fun r H2 hr => ?_
      · cases hx
        have := hS.lt _ hf
        dsimp only at this
        omega
      have hsd : [((7 : Int), ((i / 2 : Nat) : Int)), ((7 : Int), (0 : Int))].all (rgM i i i).sound = true := by
        simp only [List.all_cons, List.all_nil, Bool.and_true, Bool.and_eq_true]
        exact ⟨sound_obj (by omega) (by simp only [rgM, rgL_len]; omega), sound_obj (by omega) (by simp only [rgM, rgL_len]; omega)⟩
      rw [if_pos hsd] at hr
      obtain ⟨s, hsl, hsr, hc⟩ := hr
      exact l4_204 hk hk2 hsl hsr hc

theorem c4 {H : AHeap} {n : Nat} {b : Bool} (hn : n < 256) : ACalls Try.prog 4 [.int .u8 n, .bool b] H fun r _ => r = .bool true := by
  refine S4_calls ?_
  unfold S4
  have e0 : ((n : Int).tmod 20) = ((n % 20 : Nat) : Int) := by
    rw [Int.tmod_eq_emod_of_nonneg (by omega)]; omega
  obtain ⟨k, hk⟩ : ∃ k, k = n % 20 + 2 := ⟨_, rfl⟩
  have w0 := wrap64 (x := ((n % 20 : Nat) : Int)) (by omega) (by omega)
  have w1 : IntKind.i64.wrap (((n % 20 : Nat) : Int) + 2) = (k : Int) := by rw [wrap64 (by omega) (by omega)]; omega
  rw [aBin_rem _ _ _ _ (by decide)]
  simp only [bnd_some', aConvInt_int, aBin_add, e0, w0, w1]
  refine (c13 (by omega) (by omega)).mono fun r H1 ⟨p, F, hr, hS, hkp, hF⟩ => ?_
  subst hr
  simp
  refine c14.use ?_
  unfold S4_208
  simp
  have e13 : Sm.new 1000 = rgM k 0 0 := by simp [Sm.new, rgM, rgL]
  rw [e13] at hS
  refine aLoop_vs k (fun i vs H' => ∃ A F, vs = [.slice A (allV i).length (allV i).length, .int .i64 i] ∧ St H' p (rgM k i 0) F ∧ Lr H' F A (allV i)) ⟨none, F, rfl, hS, Lr.nil _ _⟩ ?_
  rintro i vs H' again hi ⟨A, F, rfl, hS, hA⟩ ha
  unfold S4_207
  have hlen := allV_len i
  by_cases hlt : i < k
  · simp [hlt]
    unfold S4_41
    have w3 := wrap64 (x := (i : Int) + 1) (by omega) (by omega)
    simp
    refine (mkLit hS (rgM_inv (by omega)) 3 [(0, 0)] (by simp) (by simp)).mono fun r H2 ⟨hr, F2, hS2, hF2⟩ => ?_
    rw [rgM_make (by omega)] at hr hS2
    subst hr
    have hA2 := hA.fr hF2
    unfold S4_40
    simp [at_alloc, at_upd]
    obtain ⟨G, hG⟩ : ∃ X, X = ((H2.alloc (.cells [.int .i64 0, .int .i64 0] .var 28)).upd H2.next (.cells [.int .i64 7, .int .i64 i] .var 28)) := ⟨_, rfl⟩
    have hk2 : Keep H2.next H2 G := hG ▸ ((Keep.refl _ _).alloc (Nat.le_refl _) _).upd (Nat.le_refl _) _
    have hSG := hS2.kept hk2
    have hAG := hA2.kept hk2
    have hnG : G.next = H2.next + 1 := by rw [hG]; simp
    simp only [← hG]
    clear hG
    have := app1 (v := (7, (i : Int))) (K := fun t66_46 H_47 => again [t66_46, .int .i64 (IntKind.i64.wrap ((i : Int) + 1))] H_47) hSG.lt hAG (by omega) fun H3 hA3 hn3 hat3 => by
      rw [w3]
      refine ha _ H3 hlt ⟨_, F2, by rw [allV_succ, List.length_append]; rfl, hSG.frame hn3 fun b hb => hat3 b (hSG.lt b hb) fun x hx => ?_, by rw [allV_succ]; exact hA3⟩
      rintro rfl; exact hAG.nf x hx hb
    rw [hnG] at this
    exact this
  · have hie : i = k := by omega
    subst hie
    simp
    refine aLoop_st i (fun j => [.int .i64 j]) (fun j H' => St H' p (rgM i i j) F ∧ Lr H' F A (allV i)) rfl ⟨hS, hA⟩ ?_
    rintro j H2 again2 hj ⟨hS2, hA2⟩ ha2
    have := l4_206 (b := b) (by omega) (by omega) hj hS2 hA2 fun H3 hlt3 hS3 hA3 => ha2 H3 hlt3 ⟨hS3, hA3⟩
    exact this
theorem c4i {H : AHeap} {a : Int} {b : Bool} (ha : 0 ≤ a ∧ a < 256) : ACalls Try.prog 4 [.int .u8 a, .bool b] H fun r _ => r = .bool true := by
  obtain ⟨n, rfl⟩ := Int.eq_ofNat_of_zero_le ha.1
  exact c4 (by omega)
end Go.Proofs.Ytngldjajfpbmbaa.A
