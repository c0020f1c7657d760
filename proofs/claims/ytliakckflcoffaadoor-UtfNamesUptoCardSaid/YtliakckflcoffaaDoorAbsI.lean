/- What is made: variables, wholes, rows, maps. -/
import Derived.Test.YtliakckflcoffaaDoorAbsH
set_option linter.unusedVariables false
set_option linter.unusedSimpArgs false
namespace Go.Abs
open Go

/-- The parts of a whole, each with its place. -/
def resolve (place : Nat → Option (Nat × Nat)) : List (Nat × Value) → Option (List (Nat × Nat × Value))
  | [] => some []
  | (i, v) :: rest => match place i, resolve place rest with
    | some (off, n), some r => some ((off, n, v) :: r)
    | _, _ => none

section
variable {P : Program} {G B : Nat} {φ : Phi} {H : AHeap} {w : World}

theorem fill_cells : ∀ (l : List Value) (k off : Nat) (cells : Array Value),
    ((l.zipIdx k).foldl (fun cs (x : Value × Nat) => cs.setIfInBounds (off + x.2) x.1) cells).toList = setCells cells.toList (off + k) l
  | [], k, off, cells => rfl
  | v :: l, k, off, cells => by
    rw [List.zipIdx_cons, List.foldl_cons, fill_cells l (k + 1) off, setCells]
    simp [Nat.add_assoc]

theorem fill_sound (place : Nat → Option (Nat × Nat)) : ∀ (ps qs : List (Nat × Value)) (rs : List (Nat × Nat × Value)) (ac : List Value) (cc : Array Value) (ac' : List Value),
    ps.map (·.1) = qs.map (·.1) → VRels φ (ps.map (·.2)) (qs.map (·.2)) → VRels φ ac cc.toList → resolve place ps = some rs → aFill ac rs = some ac' →
    ∃ cc', Instr.fill place cc qs = some cc' ∧ VRels φ ac' cc'.toList
  | [], qs, rs, ac, cc, ac', h1, h2, h3, h4, h5 => by
    have : qs = [] := by simpa using h1.symm
    subst this
    simp only [resolve, Option.some.injEq] at h4
    subst h4
    simp only [aFill, Option.some.injEq] at h5
    subst h5
    exact ⟨cc, rfl, h3⟩
  | (i, v) :: ps, qs, rs, ac, cc, ac', h1, h2, h3, h4, h5 => by
    cases qs with
    | nil => simp at h1
    | cons q qs =>
      obtain ⟨j, u⟩ := q
      simp only [List.map_cons, List.cons.injEq] at h1
      obtain ⟨rfl, h1⟩ := h1
      have hvu : VRel φ v u := h2.2 0 v u (by simp) (by simp)
      have h2' : VRels φ (ps.map (·.2)) (qs.map (·.2)) := ⟨by simpa using h2.1, fun k a b ha hb => h2.2 (k + 1) a b (by simpa using ha) (by simpa using hb)⟩
      simp only [resolve] at h4
      split at h4
      · rename_i off n r hp hr
        obtain rfl := Option.some.inj h4
        simp only [aFill] at h5
        split at h5
        · rename_i hc
          obtain ⟨c1, c2, c3⟩ := hc
          have hv := vcells_rel hvu c3
          have hsz : u.cells.size = n := by have := hv.1; simp at this; omega
          have hl : ac.length = cc.size := by simpa using h3.1
          simp only [Instr.fill, hp]
          rw [if_neg (by simp [hsz]; omega)]
          refine fill_sound place ps qs r (setCells ac off (vcells v)) _ ac' h1 h2' ?_ hr h5
          have e : (u.cells.zipIdx.foldl (fun cs (x : Value × Nat) => cs.setIfInBounds (off + x.2) x.1) cc).toList = setCells cc.toList off u.cells.toList := by
            rw [← Array.foldl_toList, Array.toList_zipIdx]
            exact fill_cells u.cells.toList 0 off cc
          have e' : (Array.foldl (fun cs (x : Value × Nat) => match x with | (c, j) => cs.setIfInBounds (off + j) c) cc u.cells.zipIdx).toList = setCells cc.toList off u.cells.toList := e
          rw [e']
          exact VRels.setCells _ _ _ _ off hv h3
        · cases h5
      · cases h4

theorem VRels.plain : ∀ {l : List Value}, l.all plainCell = true → VRels φ l l := by
  intro l h
  refine ⟨rfl, fun i u v hu hv => ?_⟩
  rw [hu] at hv
  obtain rfl := Option.some.inj hv
  exact .plain (by simpa using (List.all_eq_true.1 h) u (List.mem_of_getElem? hu))
theorem okCell_of_plain {v : Value} (h : plainCell v = true) : okCell v = true := by cases v <;> first | rfl | (simp [plainCell] at h)

theorem box_sound (hr : Rel G B φ H w) {t : TypeId} {y v : Value} (hy : VRel φ y v) (hok : (vcells y).all okCell = true) :
    ∃ φ', (Instr.box t v).run P w = .ok (.pointer (some ⟨w.heap.size, 0, none⟩)) (w.alloc (.cells v.cells t)) ∧ Step G B φ H w φ' (H.alloc (.cells (vcells y) .var t)) (w.alloc (.cells v.cells t)) ∧ VRel φ' (.pointer (some ⟨H.next, 0, none⟩)) (.pointer (some ⟨w.heap.size, 0, none⟩)) := by
  have hs := Step.allocCells hr (vcells y) v.cells t .var 0 (vcells_rel hy hok) (okCell_of_all hok) (fun s hs => by cases hs)
  refine ⟨_, by simp [Instr.box, newVar, newRow], hs, ?_⟩
  have := VRel.ptr (φ := φ.upd H.next (some (some ⟨w.heap.size, 0, v.cells.size, 0⟩))) (b := H.next) (o := 0) (p := ⟨w.heap.size, 0, v.cells.size, 0⟩) (by simp)
  simpa using this

theorem tyZero_inv {t : TypeId} {cs : List Value} (h : tyZero P t = some cs) (hp : cs.all plainCell = true) : ∃ i z, P.info? t = some i ∧ i.zero = some z ∧ z.cells.toList = cs := by
  unfold tyZero at h
  obtain ⟨i, hi, h1⟩ := Option.bind_eq_some_iff.1 h
  obtain ⟨z, hz, rfl⟩ := Option.map_eq_some_iff.1 h1
  refine ⟨i, z, hi, hz, ?_⟩
  cases z <;> first | rfl | (simp [vcells, plainCell] at hp)

theorem alloc_sound (hr : Rel G B φ H w) {t : TypeId} {cs : List Value} (hz : tyZero P t = some cs) (hp : cs.all plainCell = true) :
    ∃ φ' w', (Instr.alloc t true (.tuple #[])).run P w = .ok (.pointer (some ⟨w.heap.size, 0, none⟩)) w' ∧ Step G B φ H w φ' (H.alloc (.cells cs .var t)) w' ∧ VRel φ' (.pointer (some ⟨H.next, 0, none⟩)) (.pointer (some ⟨w.heap.size, 0, none⟩)) := by
  obtain ⟨i, z, hi, hzz, rfl⟩ := tyZero_inv hz hp
  have hs := Step.allocCells hr z.cells.toList z.cells t .var 0 (VRels.plain hp) (fun v hv => okCell_of_plain ((List.all_eq_true.1 hp) v hv)) (fun s hs => by cases hs)
  refine ⟨_, _, ?_, hs, ?_⟩
  · simp [Instr.alloc, zeroValue, typeInfo, hi, hzz, newVar, newRow]
  · have := VRel.ptr (φ := φ.upd H.next (some (some ⟨w.heap.size, 0, z.cells.size, 0⟩))) (b := H.next) (o := 0) (p := ⟨w.heap.size, 0, z.cells.size, 0⟩) (by simp)
    simpa using this

/-- The places of a struct's fields. -/
def structPlaces (P : Program) (t : TypeId) : Option (List (Nat × Nat)) := match P.underlying t with
  | some (.struct fields) => fields.toList.mapM (fun f => (P.info? f.type).map fun i => (f.offset, i.size))
  | _ => none

theorem build_sound {t : TypeId} {places : List (Nat × Nat)} (hpl : structPlaces P t = some places) {zs : List Value} (hz : tyZero P t = some zs) (hzp : zs.all plainCell = true) {ps qs : List (Nat × Value)} {rs : List (Nat × Nat × Value)} {cs : List Value}
    (h1 : ps.map (·.1) = qs.map (·.1)) (h2 : VRels φ (ps.map (·.2)) (qs.map (·.2))) (h3 : resolve (fun i => places[i]?) ps = some rs) (h4 : aFill zs rs = some cs) :
    ∃ v, (Instr.build t qs.toArray).run P w = .ok v w ∧ VRel φ (.agg cs.toArray) v := by
  obtain ⟨i, z, hi, hzz, rfl⟩ := tyZero_inv hz hzp
  obtain ⟨cc, hc, hr⟩ := fill_sound (φ := φ) (fun i => places[i]?) ps qs rs z.cells.toList z.cells cs h1 h2 (VRels.plain hzp) h3 h4
  refine ⟨.agg cc, run_build w t qs.toArray cc ?_, ?_⟩
  · unfold structPlaces at hpl
    split at hpl
    · rename_i fields hu
      unfold Program.built
      simp only [hi, hu, hzz, hpl]
      simpa using hc
    · cases hpl
  · have := agg_of hr
    simpa only [Array.toArray_toList] using this

theorem buildSlice_run {t e : TypeId} {len n : Nat} (ht : P.underlying t = some (.slice e)) (hn : tySize P e = some (n + 1)) (hsmall : len * (n + 1) ≤ 16777216) {zs : List Value} (hz : tyZero P e = some zs) (hzp : zs.all plainCell = true) (hzl : zs.length = n + 1)
    {ps qs : List (Nat × Value)} {rs : List (Nat × Nat × Value)} {cs : List Value}
    (h1 : ps.map (·.1) = qs.map (·.1)) (h2 : VRels φ (ps.map (·.2)) (qs.map (·.2))) (h3 : resolve (fun i => some (i * (n + 1), n + 1)) ps = some rs) (h4 : aFill (List.replicate len zs).flatten rs = some cs) (hcl : cs.length = len * (n + 1)) :
    ∃ v cc, (Instr.buildSlice t len qs.toArray).run P w = .ok v (w.alloc (.cells cc e)) ∧ v = .slice (some ⟨w.heap.size, 0, none⟩) len len ∧ VRels φ cs cc.toList ∧ cc.size = len * (n + 1) := by
  obtain ⟨i, z, hi, hzz, rfl⟩ := tyZero_inv hz hzp
  have hsz : i.size = n + 1 := by unfold tySize at hn; simpa [hi] using hn
  have hzs : z.cells.size = n + 1 := by simpa using hzl
  have hzeros : ((Array.range (len * (n + 1))).map (z.cells[· % z.cells.size]!)).toList = (List.replicate len z.cells.toList).flatten := by
    apply List.ext_getElem
    · simp [hzs, List.length_flatten]
    · intro j h1 h2
      simp only [Array.toList_map, Array.toList_range, List.getElem_map, List.getElem_range]
      have hj : j < len * (n + 1) := by simpa using h1
      rw [hzs]
      have hmod : j % (n + 1) < z.cells.size := by rw [hzs]; exact Nat.mod_lt _ (Nat.succ_pos n)
      rw [getElem!_pos z.cells _ hmod]
      clear h1 hj hsmall h4 hcl
      induction len generalizing j with
      | zero => simp at h2
      | succ len ih =>
        simp only [List.replicate_succ, List.flatten_cons]
        by_cases hjn : j < n + 1
        · rw [List.getElem_append_left (by simpa [hzs] using hjn)]
          simp [Nat.mod_eq_of_lt hjn]
        · have hge : z.cells.toList.length ≤ j := by simp [hzs]; omega
          rw [List.getElem_append_right hge]
          have hlen : z.cells.toList.length = n + 1 := by simpa using hzs
          have h2' : j - z.cells.toList.length < (List.replicate len z.cells.toList).flatten.length := by
            have := h2
            simp only [List.replicate_succ, List.flatten_cons, List.length_append] at this
            omega
          have hmod' : (j - (n + 1)) % (n + 1) < z.cells.size := by rw [hzs]; exact Nat.mod_lt _ (Nat.succ_pos n)
          have := ih (j - z.cells.toList.length) h2' (by rw [hlen]; exact hmod')
          rw [← this]
          congr 1
          rw [hlen, Nat.mod_eq_sub_mod (show j ≥ n + 1 by omega)]
  have hrep : VRels φ (List.replicate len z.cells.toList).flatten (List.replicate len z.cells.toList).flatten := VRels.plain (by
    rw [List.all_eq_true]
    intro v hv
    obtain ⟨l, hl, hvl⟩ := List.mem_flatten.1 hv
    rw [List.eq_of_mem_replicate hl] at hvl
    exact (List.all_eq_true.1 hzp) v hvl)
  obtain ⟨cc, hc, hcr⟩ := fill_sound (φ := φ) (fun i => some (i * (n + 1), n + 1)) ps qs rs _ ((Array.range (len * (n + 1))).map (z.cells[· % z.cells.size]!)) cs h1 h2 (by rw [hzeros]; exact hrep) h3 h4
  have hccs : cc.size = len * (n + 1) := by have := hcr.1; simp at this; omega
  refine ⟨.slice (some ⟨w.heap.size, 0, none⟩) len len, cc, ?_, rfl, hcr, hccs⟩
  · rcases Nat.eq_zero_or_pos len with h0 | h0
    · subst h0
      have hps : Instr.fill (fun i => some (i * (n + 1), n + 1)) #[] qs = some cc := by simpa [Array.range_zero'] using hc
      simp [Instr.buildSlice, run_underlying ht, sizeOf, typeInfo, hi, hsz, newRow, Array.range_zero', hps]
    · have hpos : ¬ len * (n + 1) = 0 := Nat.ne_of_gt (Nat.mul_pos h0 (Nat.succ_pos n))
      have hsm : ¬ len * (n + 1) > 2 ^ 24 := by omega
      simp [Instr.buildSlice, run_underlying ht, sizeOf, typeInfo, zeroValue, hi, hzz, hsz, newRow, hc, hsm, hpos]

theorem buildSlice_sound (hr : Rel G B φ H w) {t e : TypeId} {len n : Nat} (ht : P.underlying t = some (.slice e)) (hn : tySize P e = some (n + 1)) (hsmall : len * (n + 1) ≤ 16777216) {zs : List Value} (hz : tyZero P e = some zs) (hzp : zs.all plainCell = true) (hzl : zs.length = n + 1)
    {ps qs : List (Nat × Value)} {rs : List (Nat × Nat × Value)} {cs : List Value}
    (h1 : ps.map (·.1) = qs.map (·.1)) (h2 : VRels φ (ps.map (·.2)) (qs.map (·.2))) (h3 : resolve (fun i => some (i * (n + 1), n + 1)) ps = some rs) (h4 : aFill (List.replicate len zs).flatten rs = some cs) (hok : cs.all okCell = true) (hcl : cs.length = len * (n + 1)) :
    ∃ φ' w' v, (Instr.buildSlice t len qs.toArray).run P w = .ok v w' ∧ Step G B φ H w φ' (H.alloc (.cells cs (.row (n + 1)) e)) w' ∧ VRel φ' (.slice (some ⟨H.next, 0, none⟩) len len) v := by
  obtain ⟨v, cc, h5, rfl, hcr, hccs⟩ := buildSlice_run (P := P) (φ := φ) (w := w) ht hn hsmall hz hzp hzl h1 h2 h3 h4 hcl
  have hs := Step.allocCells hr cs cc e (.row (n + 1)) (n + 1) hcr (okCell_of_all hok) (fun s hs => by cases hs; exact ⟨rfl, len, hcl⟩)
  refine ⟨_, _, _, h5, hs, ?_⟩
  · have := VRel.slice (φ := φ.upd H.next (some (some ⟨w.heap.size, 0, cc.size, n + 1⟩))) (b := H.next) (o := 0) (n := len) (c := len) (p := ⟨w.heap.size, 0, cc.size, n + 1⟩) (by simp) (Nat.le_refl _) (by
      have : len ≤ len * (n + 1) := Nat.le_mul_of_pos_right _ (Nat.succ_pos n)
      simp only [maxLen]; omega) (.inr (.inr (by simp [hccs])))
    simpa using this
end
end Go.Abs
