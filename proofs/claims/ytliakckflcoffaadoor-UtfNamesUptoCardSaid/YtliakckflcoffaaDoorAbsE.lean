/- Each operation's run, beside what it does to abstract values. -/
import Derived.Test.YtliakckflcoffaaDoorAbsD
set_option linter.unusedVariables false
namespace Go.Abs
open Go

section
variable {P : Program} {G B : Nat} {φ : Phi} {H : AHeap} {w : World}

theorem run_isAgg {t : TypeId} {b : Bool} (h : tyAgg P t = some b) : (isAgg t).run P w = .ok b w := by
  unfold tyAgg at h
  cases hu : P.underlying t with
  | none => rw [hu] at h; simp at h
  | some d =>
    rw [hu] at h
    cases d <;> simp at h <;> subst h <;> simp [isAgg, run_underlying hu]
theorem run_sizeOf {t : TypeId} {n : Nat} (h : tySize P t = some n) : (sizeOf t).run P w = .ok n w := by
  unfold tySize at h
  cases hi : P.info? t with
  | none => simp [hi] at h
  | some i => simp [hi] at h; subst h; simp [sizeOf, typeInfo, hi]

theorem okCell_of_all {l : List Value} (h : l.all okCell = true) : ∀ v ∈ l, okCell v = true := by simpa using h

theorem load_sound (hr : Rel G B φ H w) {t : TypeId} {x u v : Value} (hx : VRel φ x u) (h : aLoad P t x H = some v) : ∃ v', (Instr.loadAt t u).run P w = .ok v' w ∧ VRel φ v v' := by
  unfold aLoad at h
  split at h
  · rename_i n h1 h2
    unfold aLdAgg at h
    split at h
    · rename_i b o
      split at h
      · rename_i cs k t0 hat
        split at h
        · rename_i hlen
          obtain ⟨_, p, hp, rfl⟩ := hx.ptrInv
          obtain rfl := Option.some.inj h
          have hc : ∀ j u, ((cs.drop o).take n)[j]? = some u → ∃ v, w.cell? ⟨p.blk, p.off + o + j, none⟩ = some v ∧ VRel φ u v := by
            intro j u hj
            rw [List.getElem?_take] at hj
            split at hj
            · rw [List.getElem?_drop] at hj
              obtain ⟨v, hv, hvr, _⟩ := cells_at hr hp hat _ u hj
              exact ⟨v, by rw [Nat.add_assoc]; exact hv, hvr⟩
            · cases hj
          have hln : ((cs.drop o).take n).length = n := by rw [List.length_take, List.length_drop]; omega
          refine ⟨.agg ((List.range n).map fun j => (w.cell? ⟨p.blk, p.off + o + j, none⟩).getD .nilIface).toArray, ?_, agg_of ⟨by simp [hln], fun j u v hu hv => ?_⟩⟩
          · have hrun := run_loadCells_list (P := P) w ⟨p.blk, p.off + o, none⟩ ((List.range n).map fun j => (w.cell? ⟨p.blk, p.off + o + j, none⟩).getD .nilIface) (fun j v hv => by
              have hj : j < n := by have := (List.getElem?_eq_some_iff.1 hv).1; simpa using this
              obtain ⟨v', hv', _⟩ := hc j _ (List.getElem?_eq_getElem (by rw [hln]; exact hj))
              simp [hj, hv'] at hv
              rw [addr_add, hv', hv])
            simp only [List.length_map, List.length_range] at hrun
            simp only [Instr.loadAt, Instr.sureAddr, loadVar, Sem.run_bind, Sem.run_pure, Result.andThen_ok, run_isAgg h1, run_sizeOf h2, if_true, hrun]
          · obtain ⟨v', hv', hr'⟩ := hc j u hu
            have hj : j < n := by have := (List.getElem?_eq_some_iff.1 hu).1; omega
            simp [hj, hv'] at hv
            subst hv
            exact hr'
        · cases h
      · cases h
    · cases h
  · rename_i n h1 h2
    unfold aLdCell at h
    split at h
    · rename_i b o
      split at h
      · rename_i cs k t0 hat
        obtain ⟨_, p, hp, rfl⟩ := hx.ptrInv
        obtain ⟨v', hv, hvr, _⟩ := cells_at hr hp hat o v h
        refine ⟨v', ?_, hvr⟩
        simp [Instr.loadAt, Instr.sureAddr, loadVar, run_isAgg h1, run_load, hv]
      · cases h
    · cases h
  · cases h

theorem setCells_length : ∀ (vs cs : List Value) (o : Nat), (setCells cs o vs).length = cs.length
  | [], cs, o => rfl
  | v :: vs, cs, o => by rw [setCells, setCells_length vs]; simp
theorem setCells_get : ∀ (vs cs : List Value) (o j : Nat), (setCells cs o vs)[j]? = if o ≤ j ∧ j < o + vs.length ∧ j < cs.length then vs[j - o]? else cs[j]?
  | [], cs, o, j => by simp [setCells]; intros; omega
  | v :: vs, cs, o, j => by
    rw [setCells, setCells_get vs, List.getElem?_set, List.length_set, List.length_cons]
    by_cases h1 : o = j
    · subst h1
      by_cases h2 : o < cs.length
      · rw [if_neg (by omega), if_pos rfl, if_pos h2, if_pos (by omega)]
        simp
      · rw [if_neg (by omega), if_pos rfl, if_neg h2, if_neg (by omega), List.getElem?_eq_none (by omega)]
    · by_cases h2 : o + 1 ≤ j ∧ j < o + 1 + vs.length ∧ j < cs.length
      · rw [if_pos h2, if_pos (by omega), show j - o = (j - (o + 1)) + 1 by omega, List.getElem?_cons_succ]
      · rw [if_neg h2, if_neg h1, if_neg (by omega)]
theorem setCells_eq (vs cs : List Value) (o : Nat) (h : o + vs.length ≤ cs.length) : setCells cs o vs = cs.take o ++ vs ++ cs.drop (o + vs.length) := by
  apply List.ext_getElem?
  intro j
  rw [setCells_get, List.append_assoc, List.getElem?_append, List.getElem?_append, List.length_take, List.getElem?_take, List.getElem?_drop, Nat.min_eq_left (by omega)]
  by_cases h1 : j < o
  · rw [if_neg (by omega), if_pos h1, if_pos h1]
  · by_cases h2 : j < o + vs.length
    · rw [if_pos (by omega), if_neg h1, if_pos (by omega)]
    · rw [if_neg (by omega), if_neg h1, if_neg (by omega)]
      congr 1
      omega
theorem VRels.setCells : ∀ (vs us cs ds : List Value) (o : Nat), VRels φ vs us → VRels φ cs ds → VRels φ (setCells cs o vs) (setCells ds o us)
  | [], us, cs, ds, o, h, k => by
    have : us = [] := List.eq_nil_of_length_eq_zero h.1.symm
    subst this
    exact k
  | v :: vs, us, cs, ds, o, h, k => by
    cases us with
    | nil => exact absurd h.1 (by simp)
    | cons u us =>
      have h0 : VRel φ v u := h.2 0 v u (by simp) (by simp)
      have h1 : VRels φ vs us := ⟨by have := h.1; simpa using this, fun i a b ha hb => h.2 (i + 1) a b (by simpa using ha) (by simpa using hb)⟩
      exact VRels.setCells vs us _ _ _ h1 (k.set o h0)
theorem setCells_ok : ∀ (vs cs : List Value) (o : Nat), (∀ v ∈ vs, okCell v = true) → (∀ v ∈ cs, okCell v = true) → ∀ v ∈ setCells cs o vs, okCell v = true
  | [], cs, o, h, k => k
  | v :: vs, cs, o, h, k => setCells_ok vs (cs.set o v) (o + 1) (fun u hu => h u (List.mem_cons_of_mem _ hu)) (fun u hu => by
      rcases List.mem_or_eq_of_mem_set hu with h1 | rfl
      · exact k u h1
      · exact h _ (List.mem_cons_self))

theorem store_sound (hr : Rel G B φ H w) {t : TypeId} {n : Nat} (ht : tySize P t = some n) {x y u v : Value} (hx : VRel φ x u) (hy : VRel φ y v) {H' : AHeap} (h : aSt n x y H = some H') :
    ∃ w', (Instr.storeAt t u v).run P w = .ok () w' ∧ Step G B φ H w φ H' w' := by
  unfold aSt at h
  split at h
  · rename_i b o
    split at h
    · rename_i cs k t0 hat
      split at h
      · rename_i hc
        obtain ⟨hko, hn, hlen, hok⟩ := hc
        obtain rfl := Option.some.inj h
        obtain ⟨_, p, hp, rfl⟩ := hx.ptrInv
        have hv := vcells_rel hy hok
        have hB := hr.blk b p hp
        rw [hat] at hB
        obtain ⟨c, t', fr, g0, g1, g2, g3, g4, g5, g6⟩ := hB
        obtain ⟨k1, k2, k3, k4⟩ := g5 hko
        subst k2
        have hvl : v.cells.toList.length = n := by rw [← hv.1, hn]
        have hv1 : ∀ z ∈ v.cells.toList, z.oneCell' = true := by
          intro z hz
          obtain ⟨j, hj⟩ := List.getElem?_of_mem hz
          have hj' : j < (vcells y).length := by rw [hv.1]; exact (List.getElem?_eq_some_iff.1 hj).1
          exact (hv.2 j _ z (List.getElem?_eq_getElem hj') hj).okCell (okCell_of_all hok _ (List.getElem_mem hj'))
        have hrun := run_storeCells_at P p.blk o t' v.cells.toList 0 c w g0 (by rw [hvl]; omega) hv1
        rw [Nat.add_zero] at hrun
        have hcl : o + v.cells.toList.length ≤ c.toList.length := by rw [hvl, Array.length_toList]; omega
        rw [← setCells_eq v.cells.toList c.toList o hcl] at hrun
        rw [k3, List.drop_zero] at g3
        refine ⟨w.setRow p.blk (setCells c.toList o v.cells.toList).toArray, ?_, Step.setRow hr b p hp cs _ t0 k hko hat c _ t' (0, 0) g0 (by simp [setCells_length]) (setCells_length _ _ _) ?_ (setCells_ok _ _ _ (okCell_of_all hok) g4)⟩
        · have hsz : v.cells.size = n := by simpa using hvl
          simp only [Instr.storeAt, Instr.sureAddr, storeVar, Sem.run_bind, Sem.run_pure, Result.andThen_ok, run_sizeOf ht, hsz, ne_eq, not_true_eq_false, if_false, k3, Nat.zero_add]
          exact hrun
        · rw [setCells_length, List.toList_toArray]
          have h1 := VRels.setCells _ _ _ _ o hv g3
          -- the cells ahead of the block's end are those of the whole row
          have h2 : (setCells c.toList o v.cells.toList).take cs.length = setCells (c.toList.take cs.length) o v.cells.toList := by
            apply List.ext_getElem?
            intro j
            have hcs : cs.length ≤ c.toList.length := by have := Array.length_toList (xs := c); omega
            rw [List.getElem?_take, setCells_get, setCells_get, List.getElem?_take, List.length_take]
            by_cases h1 : j < cs.length
            · by_cases h2 : o ≤ j ∧ j < o + v.cells.toList.length
              · rw [if_pos h1, if_pos (by omega), if_pos (by omega)]
              · rw [if_pos h1, if_neg (by omega), if_neg (by omega), if_pos h1]
            · rw [if_neg h1, if_neg (by omega), if_neg h1]
          rw [h2]
          exact h1
      · cases h
    · cases h
  · cases h
end
end Go.Abs
