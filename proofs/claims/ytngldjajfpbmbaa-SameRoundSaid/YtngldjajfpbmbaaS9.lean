/- Contracts of functions that the statement reaches; each theorem carries its own conditions, the last theorem of the claim has none. -/
import Derived.Test.YtngldjajfpbmbaaS8
set_option linter.unusedVariables false
set_option linter.unusedSimpArgs false
namespace Go.Proofs.Ytngldjajfpbmbaa.A
open Go Go.Abs

/-- Where a value is behind a giving up. -/
def mv (pl : List Int) (v : V) : V := if v.1 = 7 then (7, pl.getD v.2.toNat 0) else v
theorem _root_.Go.Abs.Ow.blkOf {α : Type} {n : Nat} {enc : α → List Value} {e : TypeId} {lo : Nat} {H : AHeap} {A : Option Addr} {xs : List α} (h : Ow n enc e lo H A xs) {x : Addr} (hx : A = some x) : x.off = 0 ∧ lo ≤ x.block ∧ x.block < H.next ∧ ∃ cs, H.at_ x.block = .cells cs (.row n) e := by
  rcases h.2 with ⟨h1, _⟩ | ⟨b, cs, h1, h2, h3, h4, _⟩
  · rw [h1] at hx; cases hx
  · rw [h1] at hx; cases hx; exact ⟨rfl, h2, h3, cs, h4⟩

theorem mid_at {xs : List V} {f : V → V} {i : Nat} (h : i < xs.length) : ((xs.take i).map f ++ xs.drop i)[i]? = some xs[i] := by
  rw [List.getElem?_append_right (by simp; omega)]
  simp [Nat.min_eq_left (Nat.le_of_lt h)]
theorem mid_set {xs : List V} {f : V → V} {i : Nat} (h : i < xs.length) : ((xs.take i).map f ++ xs.drop i).set i (f xs[i]) = (xs.take (i + 1)).map f ++ xs.drop (i + 1) := by
  rw [List.set_append_right _ _ (by simp; omega)]
  simp only [List.length_map, List.length_take, Nat.min_eq_left (Nat.le_of_lt h), Nat.sub_self]
  rw [List.drop_eq_getElem_cons h, List.set_cons_zero, List.take_succ_eq_append_getElem h, List.map_append]
  simp

theorem c46 {H : AHeap} {q : Nat} {Q A : Option Addr} {pl : List Int} {xs : List V} (hq : H.at_ q = .cells [.slice Q pl.length pl.length] .var 77) (hql : q < H.next) (hQ : Ow 1 eI 3 0 H Q pl) (hA : Ow 2 eV 28 0 H A xs) (hn : xs.length ≤ 1048576)
    (hx : ∀ v ∈ xs, v.1 = 7 → 0 ≤ v.2 ∧ v.2 < pl.length) :
    ACalls Try.prog 46 [.slice A xs.length xs.length, Pt q] H fun r H' => r = .tuple #[] ∧ Ow 2 eV 28 0 H' A (xs.map (mv pl)) ∧ H.next ≤ H'.next ∧ ∀ b, b < H.next → (∀ x, A = some x → x.block ≠ b) → H'.at_ b = H.at_ b := by
  refine S46_calls ?_
  unfold S46
  simp
  refine aLoop_st xs.length (fun i => [.int .i64 i]) (fun i H' => Ow 2 eV 28 0 H' A ((xs.take i).map (mv pl) ++ xs.drop i) ∧ H.next ≤ H'.next ∧ ∀ b, b < H.next → (∀ x, A = some x → x.block ≠ b) → H'.at_ b = H.at_ b) rfl ⟨by simpa using hA, Nat.le_refl _, fun _ _ _ => rfl⟩ ?_
  rintro i H' again hi ⟨hO, hn', hat⟩ ha
  unfold S46_27
  by_cases h : i < xs.length
  · have hlen : ((xs.take i).map (mv pl) ++ xs.drop i).length = xs.length := by simp; omega
    have hlt : i < ((xs.take i).map (mv pl) ++ xs.drop i).length := by omega
    have w1 := wrap64 (x := (i : Int) + 1) (by omega) (by omega)
    have i1 := hO.rd.idx (k := .i64) (j := (i : Int)) (c := xs.length) (by omega) (by omega)
    rw [hlen, Int.toNat_natCast] at i1
    have l1 := hO.rd.agg hlt
    have ev : ((xs.take i).map (mv pl) ++ xs.drop i)[i] = xs[i] := by
      have := mid_at (f := mv pl) h
      rw [List.getElem?_eq_getElem hlt] at this
      exact Option.some.inj this
    rw [ev] at l1
    simp [h]
    unfold S46_26
    rw [aJoin_eq]
    simp [i1, l1, w1, at_alloc, -aLdAgg_ptr]
    obtain ⟨G, hG⟩ : ∃ X, X = ((H'.alloc (.cells [.int .i64 0, .int .i64 0] .var 28)).upd H'.next (.cells [.int .i64 xs[i].1, .int .i64 xs[i].2] .var 28)) := ⟨_, rfl⟩
    simp only [← hG]
    have hkG : Keep H'.next H' G := hG ▸ ((Keep.refl _ _).alloc (Nat.le_refl _) _).upd (Nat.le_refl _) _
    have hnG : G.next = H'.next + 1 := by rw [hG]; simp
    have eG : G.at_ H'.next = .cells [.int .i64 xs[i].1, .int .i64 xs[i].2] .var 28 := by rw [hG]; simp [at_upd]
    clear hG
    have hOG := hO.kept hkG
    by_cases h7 : xs[i].1 = 7
    · obtain ⟨v0, v1⟩ := hx xs[i] (List.getElem_mem h) h7
      simp [h7]
      unfold S46_25
      have hqA : ∀ x, A = some x → x.block ≠ q := by
        rintro x hx rfl
        obtain ⟨_, _, _, cs, hcs⟩ := hA.blkOf hx
        rw [hq] at hcs
        cases hcs
      have e1 : G.at_ q = .cells [.slice Q pl.length pl.length] .var 77 := by
        rw [hkG.at_ q (by omega), hat q hql hqA, hq]
      have hQG : Ow 1 eI 3 0 G Q pl := by
        refine hQ.at (by omega) ?_
        intro x hx
        obtain ⟨_, _, hb, cs, hcs⟩ := hQ.blkOf hx
        rw [hkG.at_ _ (by omega), hat _ hb]
        rintro y hy e
        obtain ⟨_, _, _, ds, hds⟩ := hA.blkOf hy
        rw [e, hcs] at hds
        cases hds
      have i2 := hQG.rd.idx (k := .i64) (j := xs[i].2) (c := pl.length) v0 v1
      have l2 := hQG.rd.ld (enc := Value.int .i64) (j := xs[i].2.toNat) (by omega)
      have l3 : aLdCell (.pointer (some ⟨H'.next, 1, none⟩)) G = some (.int .i64 xs[i].2) := by simp [eG]
      have l4 : aLdCell (.pointer (some ⟨q, 0, none⟩)) G = some (.slice Q pl.length pl.length) := by simp [e1]
      have hm : mv pl xs[i] = (7, pl[xs[i].2.toNat]'(by omega)) := by
        unfold mv
        rw [if_pos h7, List.getD_eq_getElem?_getD, List.getElem?_eq_getElem (by omega)]
        rfl
      obtain ⟨b, hb, _, hbl, x, hst, hO2, cs, hcs⟩ := hOG.st (j := i) (k := 1) (l := 1) (off := i * 2 + 1) (v := .int .i64 (pl[xs[i].2.toNat]'(by omega))) (y := mv pl xs[i]) hlt rfl (by simp) (by simp) (by omega) (by rw [ev, hm]; simp [h7])
      have hs2 : slot 2 A i = .pointer (some ⟨b, i * 2, none⟩) := by rw [hb]; simp [slot]
      simp [l3, l4, i2, l2, i1, hs2, hst, -aLdCell_ptr, -aSt_ptr, w1]
      rw [mid_set h] at hO2
      refine ha _ h ⟨hO2, by simp; omega, fun c hc hcA => ?_⟩
      rw [AHeap.at_upd_ne _ _ (fun e => hcA _ hb (by rw [e])), hkG.at_ c (by omega)]
      exact hat c hc hcA
    · simp [h7, w1]
      have hm : mv pl xs[i] = xs[i] := by unfold mv; rw [if_neg h7]
      have hset : (xs.take i).map (mv pl) ++ xs.drop i = (xs.take (i + 1)).map (mv pl) ++ xs.drop (i + 1) := by
        rw [List.drop_eq_getElem_cons h, List.take_succ_eq_append_getElem h, List.map_append]
        simp [hm]
      rw [hset] at hOG
      refine ha _ h ⟨hOG, by omega, fun c hc hcA => ?_⟩
      rw [hkG.at_ c (by omega)]
      exact hat c hc hcA
  · have hie : i = xs.length := by omega
    subst hie
    simp at hO
    simp
    exact ⟨hO, hn', hat⟩

/-! What is kept. -/
def keepP {α : Type} : List α → List Bool → List α
  | x :: xs, b :: bs => if b then x :: keepP xs bs else keepP xs bs
  | _, _ => []
theorem keepP_nil {α : Type} (s : List Bool) : keepP ([] : List α) s = [] := by cases s <;> rfl
theorem keepP_map {α β : Type} (f : α → β) : ∀ (xs : List α) (s : List Bool), keepP (xs.map f) s = (keepP xs s).map f
  | [], s => by simp [keepP_nil]
  | x :: xs, [] => by simp [keepP]
  | x :: xs, b :: bs => by cases b <;> simp [keepP, keepP_map f xs bs]
theorem keepP_take {α : Type} : ∀ (xs : List α) (s : List Bool) (i : Nat) (x : α), xs[i]? = some x → keepP (xs.take (i + 1)) s = keepP (xs.take i) s ++ (if s.getD i false then [x] else [])
  | [], s, i, x, h => by simp at h
  | y :: ys, [], i, x, h => by cases i <;> simp [keepP]
  | y :: ys, b :: bs, 0, x, h => by simp at h; subst h; cases b <;> simp [keepP, keepP_nil]
  | y :: ys, b :: bs, i + 1, x, h => by
    have := keepP_take ys bs i x (by simpa using h)
    simp at this
    cases b <;> simp [keepP, this]
theorem keepP_idx {α : Type} : ∀ (xs : List α) (s : List Bool) (i : Nat) (z : α), (keepP xs s)[i]? = some z → ∃ j : Nat, xs[j]? = some z ∧ s.getD j false = true ∧ (keepP (xs.take j) s).length = i
  | [], s, i, z, h => by simp [keepP_nil] at h
  | y :: ys, [], i, z, h => by simp [keepP] at h
  | y :: ys, true :: bs, 0, z, h => by simp [keepP] at h; subst h; exact ⟨0, by simp, by simp, by simp [keepP]⟩
  | y :: ys, true :: bs, i + 1, z, h => by
    simp [keepP] at h
    obtain ⟨j, h1, h2, h3⟩ := keepP_idx ys bs i z h
    exact ⟨j + 1, by simpa using h1, by simpa using h2, by simp [keepP, h3]⟩
  | y :: ys, false :: bs, i, z, h => by
    simp [keepP] at h
    obtain ⟨j, h1, h2, h3⟩ := keepP_idx ys bs i z h
    exact ⟨j + 1, by simpa using h1, by simpa using h2, by simp [keepP, h3]⟩
theorem keepP_at {α : Type} : ∀ (xs : List α) (s : List Bool) (j : Nat) (z : α), xs[j]? = some z → s.getD j false = true → (keepP xs s)[(keepP (xs.take j) s).length]? = some z
  | [], s, j, z, h, _ => by simp at h
  | y :: ys, [], j, z, _, h => by simp at h
  | y :: ys, true :: bs, 0, z, h, _ => by simp at h; subst h; simp [keepP]
  | y :: ys, false :: bs, 0, z, h, h' => by simp at h'
  | y :: ys, true :: bs, j + 1, z, h, h' => by
    have := keepP_at ys bs j z (by simpa using h) (by simpa using h')
    simpa [keepP] using this
  | y :: ys, false :: bs, j + 1, z, h, h' => by
    have := keepP_at ys bs j z (by simpa using h) (by simpa using h')
    simpa [keepP] using this
theorem keepP_len_le {α : Type} : ∀ (xs : List α) (s : List Bool), (keepP xs s).length ≤ xs.length
  | [], s => by simp [keepP_nil]
  | y :: ys, [] => by simp [keepP]
  | y :: ys, b :: bs => by have := keepP_len_le ys bs; cases b <;> simp [keepP] <;> omega
theorem keepP_total : ∀ (xs : List Ob) (s : List Bool), total (keepP xs s) ≤ total xs
  | [], s => by simp [keepP_nil]
  | y :: ys, [] => by simp [keepP, total]
  | y :: ys, b :: bs => by have := keepP_total ys bs; cases b <;> simp [keepP, total] at * <;> omega
theorem keepP_mem {α : Type} {xs : List α} {s : List Bool} {z : α} (h : z ∈ keepP xs s) : z ∈ xs := by
  obtain ⟨i, hi⟩ := List.getElem?_of_mem h
  obtain ⟨j, hj, _⟩ := keepP_idx xs s i z hi
  exact List.mem_of_getElem? hj

/-- Where the kept are. -/
def placeTo (m : Sm) (s : List Bool) (i : Nat) : List Int := (List.range m.objs.length).map fun j => if j < i ∧ s.getD j false = true then ((keepP (m.objs.take j) s).length : Int) else 0
def place (m : Sm) (s : List Bool) : List Int := placeTo m s m.objs.length
theorem placeTo_len (m : Sm) (s : List Bool) (i : Nat) : (placeTo m s i).length = m.objs.length := by simp [placeTo]
theorem placeTo_zero (m : Sm) (s : List Bool) : placeTo m s 0 = List.replicate m.objs.length 0 := by
  refine List.ext_getElem (by simp [placeTo]) fun j h1 h2 => ?_
  simp [placeTo]
theorem placeTo_succ (m : Sm) (s : List Bool) (i : Nat) (hi : i < m.objs.length) : placeTo m s (i + 1) = if s.getD i false = true then (placeTo m s i).set i ((keepP (m.objs.take i) s).length : Int) else placeTo m s i := by
  split
  · rename_i h
    refine List.ext_getElem (by simp [placeTo]) fun j h1 h2 => ?_
    rw [List.getElem_set]
    by_cases e : i = j
    · subst e
      rw [if_pos rfl]
      simp only [placeTo, List.getElem_map, List.getElem_range]
      rw [if_pos ⟨by omega, h⟩]
    · rw [if_neg e]
      simp only [placeTo, List.getElem_map, List.getElem_range]
      have : j < i + 1 ↔ j < i := by omega
      simp only [this]
  · rename_i h
    refine List.ext_getElem (by simp [placeTo]) fun j h1 h2 => ?_
    simp only [placeTo, List.getElem_map, List.getElem_range]
    by_cases e : i = j
    · subst e
      rw [if_neg (fun hh => h hh.2), if_neg (fun hh => h hh.2)]
    · have : j < i + 1 ↔ j < i := by omega
      simp only [this]
def mvOb (pl : List Int) (o : Ob) : Ob := ⟨o.kind, o.slots.map (mv pl), o.sk, o.text⟩
theorem encO_mv (pl : List Int) (o : Ob) (a : Option Addr) : encO (mvOb pl o, a) = encO (o, a) := by simp [encO, mvOb]
theorem cells_mv (pl : List Int) (o : Ob) : (mvOb pl o).cells = o.cells := by simp [Ob.cells, mvOb]
def Sm.collect (m : Sm) (s : List Bool) : Sm := ⟨m.lim, (total (keepP m.objs s) : Nat), (keepP m.objs s).map (mvOb (place m s)), m.names⟩
end Go.Proofs.Ytngldjajfpbmbaa.A
