/- What is kept behind a call; append. -/
import Derived.Test.YtliakckflcoffaaDoorAbsB
import Derived.Lib.AppendStr
namespace Go.Abs
open Go

def Blk.vin (K : Nat → Prop) : Blk → Prop
  | .cells cs _ _ => ∀ v ∈ cs, VIn K v
  | .map es => ∀ e ∈ es, VIn K e.1 ∧ VIn K e.2
  | .dead => True

theorem VRels.cut {φ ψ : Phi} {K : Nat → Prop} (hK : ∀ b, K b → ψ b = φ b) {a b : List Value} (h : VRels φ a b) (hi : ∀ v ∈ a, VIn K v) : VRels ψ a b :=
  ⟨h.1, fun i u v hu hv => (h.2 i u v hu hv).cut hK (hi u (List.mem_of_getElem? hu))⟩
theorem VRels.vin {φ : Phi} {a b : List Value} (h : VRels φ a b) : ∀ v ∈ a, VIn (fun b => (φ b).isSome = true) v := by
  intro v hv
  obtain ⟨i, hi⟩ := List.getElem?_of_mem hv
  obtain ⟨u, _, hr⟩ := h.get hi
  exact hr.vin

theorem BRel.cut {φ ψ : Phi} {K : Nat → Prop} (hK : ∀ b, K b → ψ b = φ b) {B : Nat} {x : Blk} {p : Place} {w : World} (h : BRel φ B x p w) (hi : x.vin K) : BRel ψ B x p w := by
  cases x with
  | cells cs own t => obtain ⟨c, t', fr, h1, h2, h3, h4, h5⟩ := h; exact ⟨c, t', fr, h1, h2, h3, h4.cut hK hi, h5⟩
  | map es =>
    obtain ⟨ms, k, h1, h2, h3, h4⟩ := h
    refine ⟨ms, k, h1, h2, h3.cut hK ?_, h4.cut hK ?_⟩
    · intro v hv; obtain ⟨e, he, rfl⟩ := List.mem_map.1 hv; exact (hi e he).1
    · intro v hv; obtain ⟨e, he, rfl⟩ := List.mem_map.1 hv; exact (hi e he).2
  | dead => trivial
theorem BRel.vin {φ : Phi} {B : Nat} {x : Blk} {p : Place} {w : World} (h : BRel φ B x p w) : x.vin (fun b => (φ b).isSome = true) := by
  cases x with
  | cells cs own t => obtain ⟨c, t', fr, h1, h2, h3, h4, h5⟩ := h; exact h4.vin
  | map es =>
    obtain ⟨ms, k, h1, h2, h3, h4⟩ := h
    exact fun e he => ⟨h3.vin _ (List.mem_map_of_mem he), h4.vin _ (List.mem_map_of_mem he)⟩
  | dead => trivial
theorem Blk.vin.mono {K L : Nat → Prop} (hKL : ∀ b, K b → L b) {x : Blk} (h : x.vin K) : x.vin L := by
  cases x with
  | cells cs own t => exact fun v hv => (h v hv).mono hKL
  | map es => exact fun e he => ⟨(h e he).1.mono hKL, (h e he).2.mono hKL⟩
  | dead => trivial

/-- What is kept of a heap behind a call that began at another. -/
structure Tidy (H H' H'' : AHeap) : Prop where
  next : H.next ≤ H''.next
  at_ : ∀ b, H''.at_ b = H'.at_ b ∨ H''.at_ b = .dead
  closed : ∀ b, (H''.at_ b).alive = true → (b < H.next ∧ H''.at_ b = H.at_ b) ∨ (b < H''.next ∧ (H''.at_ b).vin (fun c => c < H.next ∨ (c < H''.next ∧ (H''.at_ c).alive = true)))

open Classical in
theorem Step.tidy {G B : Nat} {φ φ' : Phi} {H H' : AHeap} {w w' : World} (hr : Rel G B φ H w) (h : Step G B φ H w φ' H' w') (H'' : AHeap) (ht : Tidy H H' H'') :
    ∃ φ'', Step G B φ H w φ'' H'' w' ∧ ∀ v u, VIn (fun c => c < H.next ∨ (c < H''.next ∧ (H''.at_ c).alive = true)) v → VRel φ' v u → VRel φ'' v u := by
  have hK : ∀ b, (b < H.next ∨ (b < H''.next ∧ (H''.at_ b).alive = true)) → (fun b => if b < H.next ∨ (b < H''.next ∧ (H''.at_ b).alive = true) then φ' b else none) b = φ' b := fun b hb => if_pos hb
  have hsub : ∀ b p, (fun b => if b < H.next ∨ (b < H''.next ∧ (H''.at_ b).alive = true) then φ' b else none) b = some p → φ' b = some p ∧ (b < H.next ∨ (b < H''.next ∧ (H''.at_ b).alive = true)) := by
    intro b p hb
    simp only at hb
    split at hb
    · rename_i hc; exact ⟨hb, hc⟩
    · cases hb
  have hal : ∀ b, (H''.at_ b).alive = true → H''.at_ b = H'.at_ b := by
    intro b hb
    rcases ht.at_ b with h1 | h1
    · exact h1
    · rw [h1] at hb; simp [Blk.alive] at hb
  refine ⟨fun b => if b < H.next ∨ (b < H''.next ∧ (H''.at_ b).alive = true) then φ' b else none, ⟨⟨h.rel.base, fun g hg => ?_, fun b p hb => ?_, fun b hb => ?_, fun b p hb => ?_, fun b b' p p' hb hb' ho ha he => ?_⟩, ht.next, fun b hb => ?_, h.os, h.tape, h.output, h.size, h.keep, fun k ⟨b, p, h1, h2, h3⟩ => ?_⟩, fun v u hv hu => hu.cut hK hv⟩
  · obtain ⟨p, hp, h1⟩ := hr.glob g hg
    have hlt := hr.dom g _ hp
    exact ⟨p, (hK g (.inl hlt)).trans ((h.ext g hlt).trans hp), h1⟩
  · rcases (hsub b p hb).2 with h1 | h1
    · exact Nat.lt_of_lt_of_le h1 ht.next
    · exact h1.1
  · cases hc : H''.at_ b with
    | dead => rfl
    | cells _ _ _ =>
      rcases ht.closed b (by rw [hc]; rfl) with h1 | h1
      · have := ht.next; omega
      · omega
    | map _ =>
      rcases ht.closed b (by rw [hc]; rfl) with h1 | h1
      · have := ht.next; omega
      · omega
  · by_cases ha : (H''.at_ b).alive = true
    · have hB := h.rel.blk b p (hsub b _ hb).1
      rw [← hal b ha] at hB
      refine hB.cut hK ?_
      rcases ht.closed b ha with ⟨h1, h2⟩ | ⟨h1, h2⟩
      · rw [h2]
        have h0 : φ b = some (some p) := (h.ext b h1).symm.trans (hsub b _ hb).1
        exact (hr.blk b p h0).vin.mono fun c hc => by
          cases hq : φ c with
          | none => rw [hq] at hc; simp at hc
          | some q => exact .inl (hr.dom c q hq)
      · exact h2
    · cases hc : H''.at_ b with
      | dead => trivial
      | cells _ _ _ => rw [hc] at ha; simp [Blk.alive] at ha
      | map _ => rw [hc] at ha; simp [Blk.alive] at ha
  · rw [hal b (Blk.alive_of_own ho)] at ho
    rw [hal b' ha] at ha
    exact h.rel.apart b b' p p' (hsub b _ hb).1 (hsub b' _ hb').1 ho ha he
  · exact (hK b (.inl hb)).trans (h.ext b hb)
  · rw [hal b (Blk.alive_of_own h2)] at h2
    exact h.own k ⟨b, p, (hsub b _ h1).1, h2, h3⟩

/-- The block behind a row that is appended to is gone (its row lives on in the new block). -/
def AHeap.kill (H : AHeap) : Value → AHeap
  | .slice (some ⟨b, _, _⟩) _ _ => H.upd b .dead
  | _ => H

theorem AHeap.next_kill (H : AHeap) (v : Value) : (H.kill v).next = H.next := by
  unfold AHeap.kill; split <;> rfl

theorem run_append_none {P : Program} (w : World) (t ty e : TypeId) (i : TypeInfo) (ht : P.underlying t = some (.slice e)) (hi : P.info? e = some i)
    (A A' : Option Addr) (n c c' : Nat) (hn : n ≤ c) :
    (Builtin.append_ #[t, t] ty #[.slice A n c, .slice A' 0 c']).run P w = .ok (.slice A n c) w := by
  cases A <;> cases A' <;> simp [Builtin.append_, run_underlying ht, sizeOf, typeInfo, hi, Builtin.lenOf, Builtin.firstCells, hn, storeCells, loadCells, loadCellsFrom]

/-- Where a slice reads, cell by cell. -/
theorem cells_at {φ : Phi} {G B : Nat} {H : AHeap} {w : World} (h : Rel G B φ H w) {b : Nat} {p : Place} (hp : φ b = some (some p)) {cs : List Value} {k : Use} {t : TypeId} (hx : H.at_ b = .cells cs k t)
    (j : Nat) (u : Value) (hj : cs[j]? = some u) : ∃ v, w.cell? ⟨p.blk, p.off + j, none⟩ = some v ∧ VRel φ u v ∧ okCell u = true := by
  have hB := h.blk b p hp
  rw [hx] at hB
  obtain ⟨c, t', fr, g0, g1, g2, g3, g4, g5⟩ := hB
  obtain ⟨v, hv, hr⟩ := g3.get hj
  refine ⟨v, ?_, hr, g4 u (List.mem_of_getElem? hj)⟩
  have hl : j < cs.length := (List.getElem?_eq_some_iff.1 hj).1
  rw [List.getElem?_take, if_pos hl, List.getElem?_drop] at hv
  simp only [World.cell?, g0, Option.isSome_none, Bool.false_eq_true, if_false]
  simpa using hv

theorem addr_add (g o j : Nat) : (⟨g, o, none⟩ : Addr).add j = ⟨g, o + j, none⟩ := by unfold Addr.add; split <;> simp_all

theorem AHeap.kill_at {H : AHeap} {b o n m : Nat} {s : Option Nat} (c : Nat) : (H.kill (.slice (some ⟨b, o, s⟩) n m)).at_ c = if c = b then .dead else H.at_ c := rfl

/-- A row is taken over by a new abstract block. -/
theorem Step.renew {G B : Nat} {φ : Phi} {H : AHeap} {w w1 : World} (h : Rel G B φ H w) (v : Value) (row : Option Nat) (hg : w.grownBy w1 row)
    (hrow : ∀ k, row = some k → ∃ b n p, v = .slice (some ⟨b, 0, none⟩) n n ∧ φ b = some (some p) ∧ (H.at_ b).own = true ∧ p.blk = k)
    (x : Blk) (q : Option Place) (hx : ∀ p, q = some p → BRel (φ.upd H.next (some q)) B x p w1 ∧ (some p.blk = row ∨ w.heap.size ≤ p.blk)) :
    Step G B φ H w (φ.upd H.next (some q)) ((H.kill v).alloc x) w1 := by
  have hn : φ H.next = none := by
    cases e : φ H.next with
    | none => rfl
    | some q => have := h.dom _ _ e; omega
  have hle := Phi.le_upd φ (some q) hn
  have hat : ∀ c, c ≠ H.next → (((H.kill v).alloc x).at_ c = H.at_ c ∧ ∀ n, v ≠ .slice (some ⟨c, 0, none⟩) n n) ∨ (((H.kill v).alloc x).at_ c = .dead) ∨ (((H.kill v).alloc x).at_ c = H.at_ c ∧ row = none) := by
    intro c hc
    rw [AHeap.at_alloc_ne _ _ (by rw [AHeap.next_kill]; exact hc)]
    by_cases hv : ∃ b o s n m, v = .slice (some ⟨b, o, s⟩) n m
    · obtain ⟨b, o, s, n, m, rfl⟩ := hv
      rw [AHeap.kill_at]
      by_cases e : c = b
      · exact .inr (.inl (if_pos e))
      · refine .inl ⟨if_neg e, fun n' he => ?_⟩
        injection he with he
        injection he with he
        injection he with he
        exact e he.symm
    · refine .inl ⟨?_, fun n he => hv ⟨_, _, _, _, _, he⟩⟩
      unfold AHeap.kill
      split
      · exact absurd ⟨_, _, _, _, _, rfl⟩ hv
      · rfl
  -- another block that is alive does not lie in the row
  have hapart : ∀ c pc, φ c = some (some pc) → c ≠ H.next → (((H.kill v).alloc x).at_ c).alive = true → ((H.kill v).alloc x).at_ c = H.at_ c ∧ some pc.blk ≠ row := by
    intro c pc hc hne ha
    rcases hat c hne with ⟨h1, h2⟩ | h1 | ⟨h1, h2⟩
    · refine ⟨h1, fun he => ?_⟩
      obtain ⟨b, n, p, hv, hb, ho, hk⟩ := hrow _ he.symm
      rw [h1] at ha
      have := h.apart b c p pc hb hc ho ha hk
      subst this
      exact h2 n hv
    · rw [h1] at ha; simp [Blk.alive] at ha
    · exact ⟨h1, by rw [h2]; simp⟩
  have hlt : ∀ c pc, φ c = some (some pc) → c ≠ H.next → (((H.kill v).alloc x).at_ c).alive = true → pc.blk < w.heap.size := by
    intro c pc hc hne ha
    obtain ⟨h1, _⟩ := hapart c pc hc hne ha
    rw [h1] at ha
    exact (h.blk c pc hc).lt ha
  have hnew : ((H.kill v).alloc x).at_ H.next = x := by
    have := AHeap.at_alloc_new (H.kill v) x
    rwa [AHeap.next_kill] at this
  have hnext : ((H.kill v).alloc x).next = H.next + 1 := by rw [AHeap.next_alloc, AHeap.next_kill]
  have hdead : ∀ y : Blk, y.alive ≠ true → y = .dead := by intro y hy; cases y <;> first | rfl | (simp [Blk.alive] at hy)
  refine ⟨⟨Nat.le_trans h.base hg.size, fun g hg => (h.glob g hg).imp fun p hp => ⟨hle _ _ hp.1, hp.2⟩, fun c p hc => ?_, fun c hc => ?_, fun c p hc => ?_, fun c c' p p' hc hc' ho ha he => ?_⟩, by rw [hnext]; omega, fun c hc => Phi.upd_ne _ _ (Nat.ne_of_lt hc), hg.os, hg.tape, hg.output, hg.size, fun k hk hno => ?_, fun k ⟨c, p, h1, h2, h3⟩ => ?_⟩
  · rw [hnext]
    by_cases e : c = H.next
    · omega
    · rw [Phi.upd_ne _ _ e] at hc; have := h.dom c p hc; omega
  · rw [hnext] at hc
    have hcn : c ≠ H.next := by omega
    have hw := h.wf c (by omega)
    rcases hat c hcn with h1 | h1 | h1
    · rw [h1.1]; exact hw
    · exact h1
    · rw [h1.1]; exact hw
  · by_cases e : c = H.next
    · subst e
      rw [Phi.upd_same] at hc
      injection hc with hc
      subst hc
      rw [hnew]
      exact (hx p rfl).1
    · rw [Phi.upd_ne _ _ e] at hc
      by_cases ha : (((H.kill v).alloc x).at_ c).alive = true
      · obtain ⟨h1, h2⟩ := hapart c p hc e ha
        have hl := hlt c p hc e ha
        rw [h1]
        exact ((h.blk c p hc).mono hle).heap (hg.block _ hl h2)
      · rw [hdead _ ha]; trivial
  · by_cases e : c = H.next <;> by_cases e' : c' = H.next
    · rw [e, e']
    · subst e
      rw [Phi.upd_same] at hc
      injection hc with hc
      subst hc
      rw [Phi.upd_ne _ _ e'] at hc'
      have h1 := (hapart c' p' hc' e' ha).2
      have h2 := hlt c' p' hc' e' ha
      rcases (hx p rfl).2 with h3 | h3
      · rw [he] at h3; exact absurd h3 h1
      · omega
    · subst e'
      rw [Phi.upd_same] at hc'
      injection hc' with hc'
      subst hc'
      rw [Phi.upd_ne _ _ e] at hc
      have h1 := (hapart c p hc e (Blk.alive_of_own ho)).2
      have h2 := hlt c p hc e (Blk.alive_of_own ho)
      rcases (hx p' rfl).2 with h3 | h3
      · rw [← he] at h3; exact absurd h3 h1
      · omega
    · rw [Phi.upd_ne _ _ e] at hc
      rw [Phi.upd_ne _ _ e'] at hc'
      rw [(hapart c p hc e (Blk.alive_of_own ho)).1] at ho
      rw [(hapart c' p' hc' e' ha).1] at ha
      exact h.apart c c' p p' hc hc' ho ha he
  · refine hg.block k hk fun he => hno ?_
    obtain ⟨b, n, p, hv, hb, ho, hk⟩ := hrow k he.symm
    exact ⟨b, p, hb, ho, hk⟩
  · by_cases e : c = H.next
    · subst e
      rw [Phi.upd_same] at h1
      injection h1 with h1
      subst h1
      rcases (hx p rfl).2 with h4 | h4
      · obtain ⟨b, n, p', hv, hb, ho, hk⟩ := hrow _ h4.symm
        exact .inl ⟨b, p', hb, ho, by rw [hk]; exact h3⟩
      · exact .inr (by omega)
    · rw [Phi.upd_ne _ _ e] at h1
      rw [(hapart c p h1 e (Blk.alive_of_own h2)).1] at h2
      exact .inl ⟨c, p, h1, h2, h3⟩

/-- append(v, x...): the row is another block now. -/
theorem Step.append {P : Program} {G B : Nat} {φ : Phi} {H : AHeap} {w : World} (h : Rel G B φ H w) (t ty e : TypeId) (i : TypeInfo) (z : Value)
    (ht : P.underlying t = some (.slice e)) (hi : P.info? e = some i) (hz : i.zero = some z) (hzs : z.cells.size = i.size) (hsz : 0 < i.size)
    (v v' : Value) (cs : List Value) (n : Nat) (hv : (v = .slice none 0 0 ∧ cs = [] ∧ n = 0) ∨ ∃ b cs0, v = .slice (some ⟨b, 0, none⟩) n n ∧ H.at_ b = .cells cs0 (.row i.size) e ∧ cs = cs0.take (n * i.size))
    (hn : cs.length = n * i.size) (hvv : VRel φ v v')
    (A : Option Addr) (m c : Nat) (news : List Value) (hnl : news.length = m * i.size) (hnok : ∀ u ∈ news, okCell u = true)
    (hA : 0 < m → ∃ a, A = some a ∧ ∀ j u, news[j]? = some u → ∃ u', w.cell? (a.add j) = some u' ∧ VRel φ u u')
    (h63 : n + m ≤ maxLen) (hbytes : (n + m) * i.bytes ≤ 140737488355328) :
    ∃ r w' φ', (Builtin.append_ #[t, t] ty #[v', .slice A m c]).run P w = .ok r w' ∧ Step G B φ H w φ' ((H.kill v).alloc (.cells (cs ++ news) (.row i.size) e)) w' ∧
      VRel φ' (.slice (some ⟨H.next, 0, none⟩) (n + m) (n + m)) r := by
  have hfr : φ H.next = none := by
    cases e : φ H.next with
    | none => rfl
    | some q => have := h.dom _ _ e; omega
  -- what the concrete slice owns
  have hown : ∃ xs, w.ownsRow B e i.size v' n xs ∧ VRels φ cs xs ∧ (∀ k, v'.ownBlock = some k → ∃ b n p, v = .slice (some ⟨b, 0, none⟩) n n ∧ φ b = some (some p) ∧ (H.at_ b).own = true ∧ p.blk = k) ∧ (∃ A c, v' = .slice A n c ∧ n ≤ c ∧ c ≤ maxLen) := by
    rcases hv with ⟨rfl, rfl, rfl⟩ | ⟨b, cs0, rfl, hx, rfl⟩
    · rw [hvv.sliceNil]
      exact ⟨[], World.ownsRow_nil _ _ _ _, VRels.nil φ, by simp [Value.ownBlock], none, 0, rfl, Nat.le_refl _, by simp⟩
    · obtain ⟨_, _, h1⟩ := hvv.sliceInv
      rcases h1 with ⟨p, cap, hp, hnc, hm, hl, rfl⟩ | ⟨rfl, _, A', hA', rfl⟩
      · have hB := h.blk b p hp
        rw [hx] at hB
        obtain ⟨c1, t', fr, g0, g1, g2, g3, g4, g5, g6⟩ := hB
        obtain ⟨k1, k2, k3, k4⟩ := g5 rfl
        obtain ⟨k5, k6, k7⟩ := g6.1 _ rfl
        subst k2; subst k4
        have hlen : n * i.size ≤ cs0.length := by rw [List.length_take] at hn; omega
        have hcap : c1.size = cap * i.size := by
          rcases hl with hl | hl | hl
          · omega
          · omega
          · rw [g1, ← hl, k3, k5]; omega
        refine ⟨c1.toList.take (n * i.size), ⟨?_, .inr ⟨p.blk, cap, c1, by rw [k3], k1, g0, hnc, hm, hcap, rfl⟩⟩, ?_, ?_, _, cap, rfl, hnc, hm⟩
        · rw [List.length_take, Array.length_toList, hcap]
          exact Nat.min_eq_left (Nat.mul_le_mul_right _ hnc)
        · have := g3.take (n * i.size)
          rw [k3, List.drop_zero, List.take_take] at this
          rwa [Nat.min_eq_left hlen] at this
        · intro k hk
          simp only [Value.ownBlock, Option.some.injEq] at hk
          exact ⟨b, n, p, rfl, hp, by rw [hx]; rfl, hk⟩
      · rcases hA' with rfl | hA'
        · refine ⟨[], World.ownsRow_nil _ _ _ _, by simpa using VRels.nil φ, by simp [Value.ownBlock], none, 0, rfl, Nat.le_refl _, by simp⟩
        · omega
  obtain ⟨xs, hown, hxs, hrow, Ac, cc, hvc, hncc, hmcc⟩ := hown
  rcases Nat.eq_zero_or_pos m with hm0 | hm0
  · -- nothing is appended
    subst hm0
    have hn0 : news = [] := List.eq_nil_of_length_eq_zero (by simpa using hnl)
    subst hn0
    subst hvc
    have hrun := run_append_none (P := P) w t ty e i ht hi Ac A n cc c hncc
    rcases hown.2 with ⟨he, h0⟩ | ⟨g, cap, cur, he, hg1, hg2, hg3, hg4, hg5, hg6⟩
    · injection he with h1 h2 h3
      subst h1; subst h2; subst h3
      refine ⟨_, w, φ.upd H.next (some none), hrun, Step.renew h v none (World.grownBy.refl w _) (by simp) _ none (by simp), ?_⟩
      exact .empty (p := none) (by simp) (.inl rfl)
    · injection he with h1 h2 h3
      subst h1; subst h3
      refine ⟨_, w, φ.upd H.next (some (some ⟨g, 0, cur.size, i.size⟩)), hrun, Step.renew h v (some g) (World.grownBy.refl w _) (fun k hk => hrow k (by simpa [Value.ownBlock] using hk)) _ _ (fun p hp => ?_), ?_⟩
      · cases hp
        refine ⟨⟨cur, e, (0, 0), hg2, rfl, by simp [hn, hg5]; exact Nat.mul_le_mul_right _ hg3, ?_, ?_, fun _ => ⟨hg1, rfl, rfl, rfl⟩, fun s hs => ?_, fun h => by cases h⟩, .inl rfl⟩
        · rw [List.append_nil, List.drop_zero, hn, hg6]
          exact hxs.mono (Phi.le_upd φ _ hfr)
        · rw [List.append_nil]
          rcases hv with ⟨_, rfl, _⟩ | ⟨b, cs0, rfl, hx, rfl⟩
          · simp
          · obtain ⟨_, _, p', hvv', hp', ho', hk'⟩ := hrow g (by simp [Value.ownBlock])
            injection hvv' with hvv'
            injection hvv' with hvv'
            injection hvv' with hvv'
            subst hvv'
            have hB := h.blk b p' hp'
            rw [hx] at hB
            obtain ⟨c1, t', fr, g0, g1, g2, g3, g4, g5, g6⟩ := hB
            exact fun u hu => g4 u (List.mem_of_mem_take hu)
        · injection hs with hs; subst hs; exact ⟨rfl, _, hg5⟩
      · have := VRel.slice (φ := φ.upd H.next (some (some ⟨g, 0, cur.size, i.size⟩))) (b := H.next) (o := 0) (n := n) (c := cc) (p := ⟨g, 0, cur.size, i.size⟩) (by simp) hncc hmcc (.inr (.inr (by simp [hg5])))
        simpa using this
  · obtain ⟨a, rfl, hcells⟩ := hA hm0
    -- what is appended, in the world
    have hnews : ∃ news', news'.length = news.length ∧ VRels φ news news' ∧ ∀ j u, news'[j]? = some u → w.cell? (a.add j) = some u := by
      refine ⟨(List.range news.length).map fun j => (w.cell? (a.add j)).getD .nilIface, by simp, ⟨by simp, fun j u u' hu hu' => ?_⟩, fun j u hu => ?_⟩
      · obtain ⟨u1, h1, h2⟩ := hcells j u hu
        have hj : j < news.length := (List.getElem?_eq_some_iff.1 hu).1
        simp [hj, h1] at hu'
        subst hu'
        exact h2
      · have hj : j < news.length := by have := (List.getElem?_eq_some_iff.1 hu).1; simpa using this
        obtain ⟨u1, h1, h2⟩ := hcells j news[j] (List.getElem?_eq_getElem hj)
        simp [hj, h1] at hu
        rw [h1, hu]
    obtain ⟨news', hl', hnr, hnc'⟩ := hnews
    obtain ⟨r, w1, hrun, hown1, hgr, _, hblk⟩ := run_append_own_at (P := P) w B t ty e i z i.size i.bytes ht hi hz rfl rfl hzs hsz v' n xs hown a m c news' (by rw [hl', hnl]) hnc'
      (fun u hu => by
        obtain ⟨j, hj⟩ := List.getElem?_of_mem hu
        have hj' : j < news.length := by rw [← hl']; exact (List.getElem?_eq_some_iff.1 hj).1
        exact (hnr.2 j news[j] u (List.getElem?_eq_getElem hj') hj).okCell (hnok _ (List.getElem_mem hj')))
      h63 hbytes h.base
    rcases hown1.2 with ⟨_, h0⟩ | ⟨g, cap, cur, rfl, hg1, hg2, hg3, hg4, hg5, hg6⟩
    · omega
    · refine ⟨_, w1, φ.upd H.next (some (some ⟨g, 0, cur.size, i.size⟩)), hrun, Step.renew h v v'.ownBlock hgr hrow _ _ (fun p hp => ?_), ?_⟩
      · cases hp
        refine ⟨⟨cur, e, (0, 0), hg2, rfl, by simp [hn, hnl, hg5, ← Nat.add_mul]; exact Nat.mul_le_mul_right _ hg3, ?_, ?_, fun _ => ⟨hg1, rfl, rfl, rfl⟩, fun s hs => ?_, fun h => by cases h⟩, ?_⟩
        · rw [List.drop_zero, List.length_append, hn, hnl, ← Nat.add_mul, hg6]
          exact (hxs.append hnr).mono (Phi.le_upd φ _ hfr)
        · intro u hu
          rcases List.mem_append.1 hu with hu | hu
          · rcases hv with ⟨_, rfl, _⟩ | ⟨b, cs0, rfl, hx, rfl⟩
            · simp at hu
            · obtain ⟨i0, hi0⟩ := List.getElem?_of_mem hu
              have hlt : i0 < n * i.size := by rw [← hn]; exact (List.getElem?_eq_some_iff.1 hi0).1
              obtain ⟨_, _, h1⟩ := hvv.sliceInv
              rcases h1 with ⟨p, cap', hp, _⟩ | ⟨rfl, _⟩
              · exact ((cells_at h hp hx i0 u (by rw [List.getElem?_take, if_pos hlt] at hi0; exact hi0)).elim fun _ hh => hh.2.2)
              · simp at hlt
          · exact hnok u hu
        · injection hs with hs; subst hs; exact ⟨rfl, _, hg5⟩
        · rcases hblk with hb | hb
          · exact .inl (by rw [← hb]; rfl)
          · simp only [Value.ownBlock, Option.some.injEq] at hb
            exact .inr (by simp [hb])
      · have := VRel.slice (φ := φ.upd H.next (some (some ⟨g, 0, cur.size, i.size⟩))) (b := H.next) (o := 0) (n := n + m) (c := cap) (p := ⟨g, 0, cur.size, i.size⟩) (by simp) hg3 hg4 (.inr (.inr (by simp [hg5])))
        simpa using this

/-- append(v, s...), s a text that is not empty: which block the row lies in. -/
theorem run_append_string_at {P : Program} (w : World) (base : Nat) (t u ty e : TypeId) (i : TypeInfo) (z : Value) (ht : P.underlying t = some (.slice e)) (hu : P.underlying u = some .string) (hi : P.info? e = some i) (hz : i.zero = some z)
    (hzs : z.cells.size = 1) (hsize : i.size = 1) (hby : i.bytes = 1) (v : Value) (n : Nat) (xs : List Value) (hown : w.ownsRow base e 1 v n xs) (s : ByteArray) (hpos : 0 < s.size)
    (h63 : n + s.size ≤ maxLen) (hbytes : n + s.size ≤ 140737488355328) (hbase : base ≤ w.heap.size) :
    ∃ v' w', (Builtin.append_ #[t, u] ty #[v, .string s]).run P w = .ok v' w' ∧ w'.ownsRow base e 1 v' (n + s.size) (xs ++ Lib.strCells s) ∧ w.grownBy w' v.ownBlock ∧
      (v'.ownBlock = v.ownBlock ∨ v'.ownBlock = some w.heap.size) := by
  have hsmall : n + s.size ≤ 9223372036854775807 := by simp only [maxLen] at h63; omega
  have hxl : xs.length = n := by simpa using hown.1
  have hlen : (xs ++ Lib.strCells s).length = (n + s.size) * 1 := by rw [List.length_append, hxl, Lib.strCells_length, Nat.mul_one]
  have grown : ∀ (old : Nat), old < n + s.size → ∀ (row : Option Nat),
      (w.drew.alloc (.cells (xs.toArray ++ (Lib.strCells s).toArray ++ Builtin.zeroCells z.cells (grownCap w (n + s.size) old e - (n + s.size))) e)).ownsRow base e 1
        (.slice (some ⟨w.heap.size, 0, none⟩) (n + s.size) (grownCap w (n + s.size) old e)) (n + s.size) (xs ++ Lib.strCells s) ∧
      w.grownBy (w.drew.alloc (.cells (xs.toArray ++ (Lib.strCells s).toArray ++ Builtin.zeroCells z.cells (grownCap w (n + s.size) old e - (n + s.size))) e)) row := by
    intro old ho row
    have hge := grownCap_ge w (n + s.size) old e
    have hcm : grownCap w (n + s.size) old e ≤ maxLen := grownCap_le_maxLen w (n + s.size) old e h63
    refine ⟨⟨hlen, .inr ⟨w.heap.size, _, _, rfl, hbase, heap_alloc_new w.drew _, hge, hcm, ?_, ?_⟩⟩, ⟨rfl, rfl, rfl, by simp, fun k hk _ => heap_alloc_old w.drew _ hk⟩⟩
    · simp only [Array.size_append, List.size_toArray, size_zeroCells, hzs, hxl, Lib.strCells_length]
      omega
    · simp only [Array.toList_append, List.append_assoc]
      rw [← List.append_assoc, ← hlen]
      exact List.take_left
  rcases hown.2 with ⟨rfl, rfl⟩ | ⟨g, cap, cur, rfl, hbg, hg, hnc, hcm, hcs, htake⟩
  · have hx : xs = [] := List.eq_nil_of_length_eq_zero hxl
    subst hx
    have hr := run_append_nil_string (P := P) w t u ty e i z ht hu hi hz s (by omega) (by omega) (by rw [hby]; omega)
    have hgr := grown 0 (by omega) (Value.ownBlock (.slice none 0 0))
    simp only [Nat.zero_add, List.nil_append, Array.empty_append] at hgr ⊢
    have e1 : (s.data.map fun b => Value.int .u8 b.toNat) = (Lib.strCells s).toArray := by
      apply Array.ext'
      simp [Lib.strCells]
    rw [e1] at hr
    exact ⟨_, _, hr, hgr.1, hgr.2, .inr rfl⟩
  · by_cases hroom : n + s.size ≤ cap
    · have hcs' : cur.size = cap := by simpa using hcs
      have hr := Lib.run_append_room_string (P := P) w t u ty e i ht hu hi hsize g n cap cur hg s hroom (by omega)
      refine ⟨_, _, hr, ⟨hlen, .inr ⟨g, cap, _, rfl, hbg, setRow_heap w g cur _ e _ hg, hroom, hcm, ?_, ?_⟩⟩, ⟨rfl, rfl, rfl, by simp, fun k _ hk => setRow_other w g k _ (fun e => hk (by simp [Value.ownBlock, e]))⟩, .inl rfl⟩
      · simp only [List.size_toArray, List.length_append, List.length_take, List.length_drop, Array.length_toList, Lib.strCells_length]
        omega
      · have ht' : cur.toList.take n = xs := by simpa using htake
        rw [ht', ← hlen]
        exact List.take_left
    · have holds : ∀ j u, xs[j]? = some u → w.cell? ((⟨g, 0, none⟩ : Addr).add j) = some u := hown.cells (g := g) rfl
      have hr := Lib.run_append_grow_string (P := P) w t u ty e i z ht hu hi hz ⟨g, 0, none⟩ n cap xs (by rw [hsize]; simpa using hxl) holds s (by omega) (by omega) (by rw [hby]; exact growslice_fits (by omega) (by omega))
      have hgr := grown cap (by omega) (Value.ownBlock (.slice (some ⟨g, 0, none⟩) n cap))
      exact ⟨_, _, hr, hgr.1, hgr.2, .inr rfl⟩

theorem run_append_string_none {P : Program} (w : World) (t u ty e : TypeId) (i : TypeInfo) (ht : P.underlying t = some (.slice e)) (hu : P.underlying u = some .string) (hi : P.info? e = some i)
    (A : Option Addr) (n c : Nat) (hn : n ≤ c) (s : ByteArray) (h0 : s.size = 0) :
    (Builtin.append_ #[t, u] ty #[.slice A n c, .string s]).run P w = .ok (.slice A n c) w := by
  have hs : Lib.strCells s = [] := List.eq_nil_of_length_eq_zero (by rw [Lib.strCells_length, h0])
  have hf := Lib.run_firstCells_string (P := P) w i.size s
  rw [hs, h0] at hf
  cases A <;> simp [Builtin.append_, run_underlying ht, run_underlying hu, sizeOf, typeInfo, hi, Builtin.lenOf, hn, storeCells, h0, hf]

/-- append(v, s...), s a text. -/
theorem Step.appendStr {P : Program} {G B : Nat} {φ : Phi} {H : AHeap} {w : World} (h : Rel G B φ H w) (t tu ty e : TypeId) (i : TypeInfo) (z : Value)
    (ht : P.underlying t = some (.slice e)) (htu : P.underlying tu = some .string) (hi : P.info? e = some i) (hz : i.zero = some z) (hzs : z.cells.size = i.size) (hsz : i.size = 1) (hby : i.bytes = 1)
    (v v' : Value) (cs : List Value) (n : Nat) (hv : (v = .slice none 0 0 ∧ cs = [] ∧ n = 0) ∨ ∃ b cs0, v = .slice (some ⟨b, 0, none⟩) n n ∧ H.at_ b = .cells cs0 (.row i.size) e ∧ cs = cs0.take (n * i.size))
    (hn : cs.length = n * i.size) (hvv : VRel φ v v')
    (s : ByteArray)
    (h63 : n + s.size ≤ maxLen) (hbytes : n + s.size ≤ 140737488355328) :
    ∃ r w' φ', (Builtin.append_ #[t, tu] ty #[v', .string s]).run P w = .ok r w' ∧ Step G B φ H w φ' ((H.kill v).alloc (.cells (cs ++ Lib.strCells s) (.row i.size) e)) w' ∧
      VRel φ' (.slice (some ⟨H.next, 0, none⟩) (n + s.size) (n + s.size)) r := by
  have hsz1 : 0 < i.size := by omega
  have hfr : φ H.next = none := by
    cases e : φ H.next with
    | none => rfl
    | some q => have := h.dom _ _ e; omega
  -- what the concrete slice owns
  have hown : ∃ xs, w.ownsRow B e i.size v' n xs ∧ VRels φ cs xs ∧ (∀ k, v'.ownBlock = some k → ∃ b n p, v = .slice (some ⟨b, 0, none⟩) n n ∧ φ b = some (some p) ∧ (H.at_ b).own = true ∧ p.blk = k) ∧ (∃ A c, v' = .slice A n c ∧ n ≤ c ∧ c ≤ maxLen) := by
    rcases hv with ⟨rfl, rfl, rfl⟩ | ⟨b, cs0, rfl, hx, rfl⟩
    · rw [hvv.sliceNil]
      exact ⟨[], World.ownsRow_nil _ _ _ _, VRels.nil φ, by simp [Value.ownBlock], none, 0, rfl, Nat.le_refl _, by simp⟩
    · obtain ⟨_, _, h1⟩ := hvv.sliceInv
      rcases h1 with ⟨p, cap, hp, hnc, hm, hl, rfl⟩ | ⟨rfl, _, A', hA', rfl⟩
      · have hB := h.blk b p hp
        rw [hx] at hB
        obtain ⟨c1, t', fr, g0, g1, g2, g3, g4, g5, g6⟩ := hB
        obtain ⟨k1, k2, k3, k4⟩ := g5 rfl
        obtain ⟨k5, k6, k7⟩ := g6.1 _ rfl
        subst k2; subst k4
        have hlen : n * i.size ≤ cs0.length := by rw [List.length_take] at hn; omega
        have hcap : c1.size = cap * i.size := by
          rcases hl with hl | hl | hl
          · omega
          · omega
          · rw [g1, ← hl, k3, k5]; omega
        refine ⟨c1.toList.take (n * i.size), ⟨?_, .inr ⟨p.blk, cap, c1, by rw [k3], k1, g0, hnc, hm, hcap, rfl⟩⟩, ?_, ?_, _, cap, rfl, hnc, hm⟩
        · rw [List.length_take, Array.length_toList, hcap]
          exact Nat.min_eq_left (Nat.mul_le_mul_right _ hnc)
        · have := g3.take (n * i.size)
          rw [k3, List.drop_zero, List.take_take] at this
          rwa [Nat.min_eq_left hlen] at this
        · intro k hk
          simp only [Value.ownBlock, Option.some.injEq] at hk
          exact ⟨b, n, p, rfl, hp, by rw [hx]; rfl, hk⟩
      · rcases hA' with rfl | hA'
        · refine ⟨[], World.ownsRow_nil _ _ _ _, by simpa using VRels.nil φ, by simp [Value.ownBlock], none, 0, rfl, Nat.le_refl _, by simp⟩
        · omega
  obtain ⟨xs, hown, hxs, hrow, Ac, cc, hvc, hncc, hmcc⟩ := hown
  rcases Nat.eq_zero_or_pos s.size with hm0 | hm0
  · -- nothing is appended
    have hs0 : Lib.strCells s = [] := List.eq_nil_of_length_eq_zero (by rw [Lib.strCells_length, hm0])
    rw [hs0, hm0, Nat.add_zero]
    subst hvc
    have hrun := run_append_string_none (P := P) w t tu ty e i ht htu hi Ac n cc hncc s hm0
    rcases hown.2 with ⟨he, h0⟩ | ⟨g, cap, cur, he, hg1, hg2, hg3, hg4, hg5, hg6⟩
    · injection he with h1 h2 h3
      subst h1; subst h2; subst h3
      refine ⟨_, w, φ.upd H.next (some none), hrun, Step.renew h v none (World.grownBy.refl w _) (by simp) _ none (by simp), ?_⟩
      exact .empty (p := none) (by simp) (.inl rfl)
    · injection he with h1 h2 h3
      subst h1; subst h3
      refine ⟨_, w, φ.upd H.next (some (some ⟨g, 0, cur.size, i.size⟩)), hrun, Step.renew h v (some g) (World.grownBy.refl w _) (fun k hk => hrow k (by simpa [Value.ownBlock] using hk)) _ _ (fun p hp => ?_), ?_⟩
      · cases hp
        refine ⟨⟨cur, e, (0, 0), hg2, rfl, by simp [hn, hg5]; exact Nat.mul_le_mul_right _ hg3, ?_, ?_, fun _ => ⟨hg1, rfl, rfl, rfl⟩, fun s hs => ?_, fun h => by cases h⟩, .inl rfl⟩
        · rw [List.append_nil, List.drop_zero, hn, hg6]
          exact hxs.mono (Phi.le_upd φ _ hfr)
        · rw [List.append_nil]
          rcases hv with ⟨_, rfl, _⟩ | ⟨b, cs0, rfl, hx, rfl⟩
          · simp
          · obtain ⟨_, _, p', hvv', hp', ho', hk'⟩ := hrow g (by simp [Value.ownBlock])
            injection hvv' with hvv'
            injection hvv' with hvv'
            injection hvv' with hvv'
            subst hvv'
            have hB := h.blk b p' hp'
            rw [hx] at hB
            obtain ⟨c1, t', fr, g0, g1, g2, g3, g4, g5, g6⟩ := hB
            exact fun u hu => g4 u (List.mem_of_mem_take hu)
        · injection hs with hs; subst hs; exact ⟨rfl, _, hg5⟩
      · have := VRel.slice (φ := φ.upd H.next (some (some ⟨g, 0, cur.size, i.size⟩))) (b := H.next) (o := 0) (n := n) (c := cc) (p := ⟨g, 0, cur.size, i.size⟩) (by simp) hncc hmcc (.inr (.inr (by simp [hg5])))
        simpa using this
  · have hsl : (Lib.strCells s).length = s.size * i.size := by rw [Lib.strCells_length, hsz, Nat.mul_one]
    have hnr : VRels φ (Lib.strCells s) (Lib.strCells s) := ⟨rfl, fun j u v hu hv => by
      rw [hu] at hv
      cases hv
      have hu := List.mem_of_getElem? hu
      simp only [Lib.strCells, List.mem_map] at hu
      obtain ⟨b, _, rfl⟩ := hu
      exact .plain rfl⟩
    have hnok : ∀ u ∈ Lib.strCells s, okCell u = true := by
      intro u hu
      simp only [Lib.strCells, List.mem_map] at hu
      obtain ⟨b, _, rfl⟩ := hu
      rfl
    have hown' : w.ownsRow B e 1 v' n xs := by rw [← hsz]; exact hown
    obtain ⟨r, w1, hrun, hown2, hgr, hblk⟩ := run_append_string_at (P := P) w B t tu ty e i z ht htu hi hz (by rw [hzs, hsz]) hsz hby v' n xs hown' s hm0 h63 hbytes h.base
    have hown1 : w1.ownsRow B e i.size r (n + s.size) (xs ++ Lib.strCells s) := by rw [hsz]; exact hown2
    rcases hown1.2 with ⟨_, h0⟩ | ⟨g, cap, cur, rfl, hg1, hg2, hg3, hg4, hg5, hg6⟩
    · omega
    · refine ⟨_, w1, φ.upd H.next (some (some ⟨g, 0, cur.size, i.size⟩)), hrun, Step.renew h v v'.ownBlock hgr hrow _ _ (fun p hp => ?_), ?_⟩
      · cases hp
        refine ⟨⟨cur, e, (0, 0), hg2, rfl, by simp [hn, hsl, hg5, ← Nat.add_mul]; exact Nat.mul_le_mul_right _ hg3, ?_, ?_, fun _ => ⟨hg1, rfl, rfl, rfl⟩, fun s hs => ?_, fun h => by cases h⟩, ?_⟩
        · rw [List.drop_zero, List.length_append, hn, hsl, ← Nat.add_mul, hg6]
          exact (hxs.append hnr).mono (Phi.le_upd φ _ hfr)
        · intro u hu
          rcases List.mem_append.1 hu with hu | hu
          · rcases hv with ⟨_, rfl, _⟩ | ⟨b, cs0, rfl, hx, rfl⟩
            · simp at hu
            · obtain ⟨i0, hi0⟩ := List.getElem?_of_mem hu
              have hlt : i0 < n * i.size := by rw [← hn]; exact (List.getElem?_eq_some_iff.1 hi0).1
              obtain ⟨_, _, h1⟩ := hvv.sliceInv
              rcases h1 with ⟨p, cap', hp, _⟩ | ⟨rfl, _⟩
              · exact ((cells_at h hp hx i0 u (by rw [List.getElem?_take, if_pos hlt] at hi0; exact hi0)).elim fun _ hh => hh.2.2)
              · simp at hlt
          · exact hnok u hu
        · injection hs with hs; subst hs; exact ⟨rfl, _, hg5⟩
        · rcases hblk with hb | hb
          · exact .inl (by rw [← hb]; rfl)
          · simp only [Value.ownBlock, Option.some.injEq] at hb
            exact .inr (by simp [hb])
      · have := VRel.slice (φ := φ.upd H.next (some (some ⟨g, 0, cur.size, i.size⟩))) (b := H.next) (o := 0) (n := n + s.size) (c := cap) (p := ⟨g, 0, cur.size, i.size⟩) (by simp) hg3 hg4 (.inr (.inr (by simp [hg5])))
        simpa using this
end Go.Abs
