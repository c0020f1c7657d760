/- The abstract heap, how it stands to a world, and what a step may do. -/
import Derived.Test.YtliakckflcoffaaDoorAbsA
namespace Go.Abs
open Go

/-- How cells may be used: read alone ('exact': and they are all that lies there); a variable of the call's own; a row of the call's own, its elements of so many cells. -/
inductive Use
  | read
  | var
  | row (size : Nat)
  | exact
def Use.own : Use → Bool
  | .read => false
  | .exact => false
  | _ => true

inductive Blk
  | cells (cs : List Value) (k : Use) (t : TypeId)
  | map (es : List (Value × Value))
  | dead

def Blk.own : Blk → Bool
  | .cells _ k _ => k.own
  | .map _ => true
  | .dead => false
def Blk.alive : Blk → Bool
  | .dead => false
  | _ => true
theorem Blk.alive_of_own {x : Blk} (h : x.own = true) : x.alive = true := by cases x <;> first | rfl | (simp [Blk.own] at h)

structure AHeap where
  next : Nat
  at_ : Nat → Blk

def AHeap.upd (H : AHeap) (b : Nat) (x : Blk) : AHeap := ⟨H.next, fun i => if i = b then x else H.at_ i⟩
def AHeap.alloc (H : AHeap) (x : Blk) : AHeap := ⟨H.next + 1, fun i => if i = H.next then x else H.at_ i⟩

@[simp] theorem AHeap.next_upd (H : AHeap) (b : Nat) (x : Blk) : (H.upd b x).next = H.next := rfl
@[simp] theorem AHeap.next_alloc (H : AHeap) (x : Blk) : (H.alloc x).next = H.next + 1 := rfl
@[simp] theorem AHeap.at_upd_same (H : AHeap) (b : Nat) (x : Blk) : (H.upd b x).at_ b = x := by simp [AHeap.upd]
theorem AHeap.at_upd_ne (H : AHeap) {b c : Nat} (x : Blk) (h : c ≠ b) : (H.upd b x).at_ c = H.at_ c := by simp [AHeap.upd, h]
@[simp] theorem AHeap.at_alloc_new (H : AHeap) (x : Blk) : (H.alloc x).at_ H.next = x := by simp [AHeap.alloc]
theorem AHeap.at_alloc_ne (H : AHeap) {c : Nat} (x : Blk) (h : c ≠ H.next) : (H.alloc x).at_ c = H.at_ c := by simp [AHeap.alloc, h]
theorem AHeap.ext' {H K : AHeap} (h : H.next = K.next) (k : ∀ b, H.at_ b = K.at_ b) : H = K := by
  cases H; cases K; simp at h; subst h; congr 1; funext b; exact k b

def Phi.upd (φ : Phi) (b : Nat) (p : Option (Option Place)) : Phi := fun i => if i = b then p else φ i
@[simp] theorem Phi.upd_same (φ : Phi) (b : Nat) (p : Option (Option Place)) : φ.upd b p b = p := by simp [Phi.upd]
theorem Phi.upd_ne (φ : Phi) {b c : Nat} (p : Option (Option Place)) (h : c ≠ b) : φ.upd b p c = φ c := by simp [Phi.upd, h]
theorem Phi.le_upd (φ : Phi) {b : Nat} (p : Option (Option Place)) (h : φ b = none) : φ.le (φ.upd b p) := by
  intro c q hc
  rw [Phi.upd_ne _ _ (by intro e; subst e; rw [h] at hc; cases hc)]
  exact hc

/-- What the world holds where an abstract block lies. -/
def BRel (φ : Phi) (B : Nat) (x : Blk) (p : Place) (w : World) : Prop :=
  match x with
  | .cells cs k t => ∃ c t' fr, w.heap[p.blk]? = some (.cells c t' fr) ∧ c.size = p.lim ∧ p.off + cs.length ≤ c.size ∧
      VRels φ cs ((c.toList.drop p.off).take cs.length) ∧ (∀ v ∈ cs, okCell v = true) ∧ (k.own = true → B ≤ p.blk ∧ fr = (0, 0) ∧ p.off = 0 ∧ t' = t) ∧
      (∀ s, k = .row s → p.esz = s ∧ ∃ m, p.lim = m * s) ∧ (k = .exact → p.lim = cs.length ∧ p.off = 0)
  | .map es => ∃ ms clock, w.heap[p.blk]? = some (.map ms clock) ∧ B ≤ p.blk ∧ VRels φ (es.map (·.1)) (ms.toList.map (·.key)) ∧ VRels φ (es.map (·.2)) (ms.toList.map (·.val))
  | .dead => True

theorem BRel.heap {φ : Phi} {B : Nat} {x : Blk} {p : Place} {w w' : World} (h : BRel φ B x p w) (e : w'.heap[p.blk]? = w.heap[p.blk]?) : BRel φ B x p w' := by
  cases x with
  | cells cs own t => obtain ⟨c, t', fr, h1, h2⟩ := h; exact ⟨c, t', fr, e.trans h1, h2⟩
  | map es => obtain ⟨ms, k, h1, h2⟩ := h; exact ⟨ms, k, e.trans h1, h2⟩
  | dead => trivial
theorem BRel.lt {φ : Phi} {B : Nat} {x : Blk} {p : Place} {w : World} (h : BRel φ B x p w) (hx : x.alive = true) : p.blk < w.heap.size := by
  cases x with
  | cells cs own t => obtain ⟨c, t', fr, h1, h2⟩ := h; exact (Array.getElem?_eq_some_iff.1 h1).1
  | map es => obtain ⟨ms, k, h1, h2⟩ := h; exact (Array.getElem?_eq_some_iff.1 h1).1
  | dead => simp [Blk.alive] at hx
theorem BRel.mono {φ ψ : Phi} {B : Nat} {x : Blk} {p : Place} {w : World} (h : BRel φ B x p w) (hle : φ.le ψ) : BRel ψ B x p w := by
  cases x with
  | cells cs own t => obtain ⟨c, t', fr, h1, h2, h3, h4, h5⟩ := h; exact ⟨c, t', fr, h1, h2, h3, h4.mono hle, h5⟩
  | map es => obtain ⟨ms, k, h1, h2, h3, h4⟩ := h; exact ⟨ms, k, h1, h2, h3.mono hle, h4.mono hle⟩
  | dead => trivial
theorem BRel.base {φ : Phi} {B : Nat} {x : Blk} {p : Place} {w : World} (h : BRel φ B x p w) (hx : x.own = true) : B ≤ p.blk := by
  cases x with
  | cells cs own t => obtain ⟨c, t', fr, h1, h2, h3, h4, h5, h6, h7⟩ := h; exact (h6 hx).1
  | map es => obtain ⟨ms, k, h1, h2, h3⟩ := h; exact h2
  | dead => simp [Blk.own] at hx

structure Rel (G B : Nat) (φ : Phi) (H : AHeap) (w : World) : Prop where
  base : B ≤ w.heap.size
  glob : ∀ g, g < G → ∃ p, φ g = some (some p) ∧ p.blk = g ∧ p.off = 0
  dom : ∀ b p, φ b = some p → b < H.next
  wf : ∀ b, H.next ≤ b → H.at_ b = .dead
  blk : ∀ b p, φ b = some (some p) → BRel φ B (H.at_ b) p w
  apart : ∀ b b' p p', φ b = some (some p) → φ b' = some (some p') → (H.at_ b).own = true → (H.at_ b').alive = true → p.blk = p'.blk → b = b'

/-- The concrete blocks that an abstract heap's own blocks lie in. -/
def Own (φ : Phi) (H : AHeap) (k : Nat) : Prop := ∃ b p, φ b = some (some p) ∧ (H.at_ b).own = true ∧ p.blk = k

structure Step (G B : Nat) (φ : Phi) (H : AHeap) (w : World) (φ' : Phi) (H' : AHeap) (w' : World) : Prop where
  rel : Rel G B φ' H' w'
  next : H.next ≤ H'.next
  ext : ∀ b, b < H.next → φ' b = φ b
  os : w'.os = w.os
  tape : w'.tape = w.tape
  output : w'.output = w.output
  size : w.heap.size ≤ w'.heap.size
  keep : ∀ k, k < w.heap.size → ¬ Own φ H k → w'.heap[k]? = w.heap[k]?
  own : ∀ k, Own φ' H' k → Own φ H k ∨ w.heap.size ≤ k

theorem Step.refl {G B : Nat} {φ : Phi} {H : AHeap} {w : World} (h : Rel G B φ H w) : Step G B φ H w φ H w :=
  ⟨h, Nat.le_refl _, fun _ _ => rfl, rfl, rfl, rfl, Nat.le_refl _, fun _ _ _ => rfl, fun _ h => .inl h⟩

theorem Step.trans {G B : Nat} {φ φ' φ'' : Phi} {H H' H'' : AHeap} {w w' w'' : World} (h : Step G B φ H w φ' H' w') (k : Step G B φ' H' w' φ'' H'' w'') : Step G B φ H w φ'' H'' w'' where
  rel := k.rel
  next := Nat.le_trans h.next k.next
  ext b hb := (k.ext b (Nat.lt_of_lt_of_le hb h.next)).trans (h.ext b hb)
  os := k.os.trans h.os
  tape := k.tape.trans h.tape
  output := k.output.trans h.output
  size := Nat.le_trans h.size k.size
  keep i hi hn := by
    rw [k.keep i (Nat.lt_of_lt_of_le hi h.size) (fun ho => ?_), h.keep i hi hn]
    rcases h.own i ho with h1 | h1
    · exact hn h1
    · omega
  own i ho := by
    rcases k.own i ho with h1 | h1
    · exact h.own i h1
    · exact .inr (Nat.le_trans h.size h1)

theorem Step.le {G B : Nat} {φ φ' : Phi} {H H' : AHeap} {w w' : World} (hr : Rel G B φ H w) (h : Step G B φ H w φ' H' w') : φ.le φ' := fun b p hb => (h.ext b (hr.dom b p hb)).trans hb

theorem Step.below {G B : Nat} {φ φ' : Phi} {H H' : AHeap} {w w' : World} (hr : Rel G B φ H w) (h : Step G B φ H w φ' H' w') : RowKit.Below B w w' :=
  ⟨h.os, h.tape, h.output, h.size, fun k hk => h.keep k (Nat.lt_of_lt_of_le hk hr.base) fun ⟨b, p, h1, h2, h3⟩ => by have := (hr.blk b p h1).base h2; omega⟩

/-- A world with the same memory. -/
theorem Rel.same {G B : Nat} {φ : Phi} {H : AHeap} {w w' : World} (h : Rel G B φ H w) (e : w'.heap = w.heap) : Rel G B φ H w' :=
  ⟨by rw [e]; exact h.base, h.glob, h.dom, h.wf, fun b p hb => (h.blk b p hb).heap (by rw [e]), h.apart⟩
theorem Step.same {G B : Nat} {φ : Phi} {H : AHeap} {w w' : World} (h : Rel G B φ H w) (e : w'.heap = w.heap) (h1 : w'.os = w.os) (h2 : w'.tape = w.tape) (h3 : w'.output = w.output) : Step G B φ H w φ H w' :=
  ⟨h.same e, Nat.le_refl _, fun _ _ => rfl, h1, h2, h3, by rw [e]; exact Nat.le_refl _, fun _ _ _ => by rw [e], fun _ h => .inl h⟩

/-- A block more in the abstract heap, nowhere yet. -/
theorem Rel.reserve {G B : Nat} {φ : Phi} {H : AHeap} {w : World} (h : Rel G B φ H w) (x : Blk) : Rel G B φ (H.alloc x) w := by
  have hne : ∀ b p, φ b = some p → b ≠ H.next := fun b p hb => Nat.ne_of_lt (h.dom b p hb)
  refine ⟨h.base, h.glob, fun b p hb => Nat.lt_succ_of_lt (h.dom b p hb), fun b hb => by rw [AHeap.next_alloc] at hb; rw [AHeap.at_alloc_ne _ _ (by omega)]; exact h.wf b (by omega), fun b p hb => ?_, fun b b' p p' hb hb' ho ha => ?_⟩
  · rw [AHeap.at_alloc_ne _ _ (hne b _ hb)]; exact h.blk b p hb
  · rw [AHeap.at_alloc_ne _ _ (hne b _ hb)] at ho
    rw [AHeap.at_alloc_ne _ _ (hne b' _ hb')] at ha
    exact h.apart b b' p p' hb hb' ho ha
theorem Step.reserve {G B : Nat} {φ : Phi} {H : AHeap} {w : World} (h : Rel G B φ H w) (x : Blk) : Step G B φ H w φ (H.alloc x) w :=
  ⟨h.reserve x, Nat.le_succ _, fun _ _ => rfl, rfl, rfl, rfl, Nat.le_refl _, fun _ _ _ => rfl, fun k ⟨b, p, h1, h2, h3⟩ => .inl ⟨b, p, h1, by
    rwa [AHeap.at_alloc_ne _ _ (Nat.ne_of_lt (h.dom b _ h1))] at h2, h3⟩⟩

theorem heap_alloc (w : World) (o : Obj) (k : Nat) : (w.alloc o).heap[k]? = if k = w.heap.size then some o else w.heap[k]? := by
  show (w.heap.push o)[k]? = _
  rw [Array.getElem?_push]

/-- A reserved block gets its place: a new concrete block. -/
theorem Rel.realize {G B : Nat} {φ : Phi} {H : AHeap} {w : World} (h : Rel G B φ H w) (b : Nat) (hb : b < H.next) (hn : φ b = none) (o : Obj) (p : Place) (hp : p.blk = w.heap.size)
    (hB : BRel (φ.upd b (some (some p))) B (H.at_ b) p (w.alloc o)) : Rel G B (φ.upd b (some (some p))) H (w.alloc o) := by
  have hle := Phi.le_upd φ (some (some p)) hn
  refine ⟨by simp; have := h.base; omega, fun g hg => (h.glob g hg).imp fun p hp => ⟨hle _ _ hp.1, hp.2⟩, fun c q hc => ?_, h.wf, fun c q hc => ?_, fun c c' q q' hc hc' ho ha he => ?_⟩
  · by_cases e : c = b
    · subst e; exact hb
    · rw [Phi.upd_ne _ _ e] at hc; exact h.dom c q hc
  · by_cases e : c = b
    · subst e; rw [Phi.upd_same] at hc; cases hc; exact hB
    · rw [Phi.upd_ne _ _ e] at hc
      have h1 := h.blk c q hc
      by_cases hx : (H.at_ c).alive = true
      · refine (h1.mono hle).heap ?_
        rw [heap_alloc, if_neg (by have := h1.lt hx; omega)]
      · cases hc' : H.at_ c with
        | dead => trivial
        | cells _ _ _ => rw [hc'] at hx; simp [Blk.alive] at hx
        | map _ => rw [hc'] at hx; simp [Blk.alive] at hx
  · by_cases e : c = b <;> by_cases e' : c' = b
    · rw [e, e']
    · subst e
      rw [Phi.upd_same] at hc; cases hc
      rw [Phi.upd_ne _ _ e'] at hc'
      have := (h.blk c' q' hc').lt ha
      omega
    · subst e'
      rw [Phi.upd_same] at hc'; cases hc'
      rw [Phi.upd_ne _ _ e] at hc
      have := (h.blk c q hc).lt (Blk.alive_of_own ho)
      omega
    · rw [Phi.upd_ne _ _ e] at hc
      rw [Phi.upd_ne _ _ e'] at hc'
      exact h.apart c c' q q' hc hc' ho ha he

/-- A block more, here and there. -/
theorem Step.alloc {G B : Nat} {φ : Phi} {H : AHeap} {w : World} (h : Rel G B φ H w) (x : Blk) (o : Obj) (p : Place) (hp : p.blk = w.heap.size)
    (hB : BRel (φ.upd H.next (some (some p))) B x p (w.alloc o)) : Step G B φ H w (φ.upd H.next (some (some p))) (H.alloc x) (w.alloc o) := by
  have hn : φ H.next = none := by
    cases e : φ H.next with
    | none => rfl
    | some q => have := h.dom _ _ e; omega
  refine ⟨(h.reserve x).realize H.next (by simp) hn o p hp (by simpa using hB), by simp, fun b hb => Phi.upd_ne _ _ (Nat.ne_of_lt hb), rfl, rfl, rfl, by simp, fun k hk _ => ?_, fun k ⟨b, q, h1, h2, h3⟩ => ?_⟩
  · rw [heap_alloc, if_neg (Nat.ne_of_lt hk)]
  · by_cases e : b = H.next
    · subst e; rw [Phi.upd_same] at h1; cases h1; exact .inr (by omega)
    · rw [Phi.upd_ne _ _ e] at h1; rw [AHeap.at_alloc_ne _ _ e] at h2; exact .inl ⟨b, q, h1, h2, h3⟩

/-- A row of cells, new. -/
theorem Step.allocCells {G B : Nat} {φ : Phi} {H : AHeap} {w : World} (h : Rel G B φ H w) (cs : List Value) (c : Array Value) (t : TypeId) (k : Use) (esz : Nat)
    (hv : VRels φ cs c.toList) (hok : ∀ v ∈ cs, okCell v = true) (hk : ∀ s, k = .row s → esz = s ∧ ∃ m, cs.length = m * s) :
    Step G B φ H w (φ.upd H.next (some (some ⟨w.heap.size, 0, c.size, esz⟩))) (H.alloc (.cells cs k t)) (w.alloc (.cells c t)) := by
  have hn : φ H.next = none := by
    cases e : φ H.next with
    | none => rfl
    | some q => have := h.dom _ _ e; omega
  have hl : cs.length = c.size := by simpa using hv.1
  refine Step.alloc h _ _ _ rfl ⟨c, t, (0, 0), by rw [heap_alloc, if_pos rfl], rfl, by simp [hl], ?_, hok, fun _ => ⟨h.base, rfl, rfl, rfl⟩, fun s hs => by rw [← hl]; exact hk s hs, fun _ => ⟨hl.symm, rfl⟩⟩
  have : (c.toList.drop 0).take cs.length = c.toList := by rw [List.drop_zero]; exact List.take_of_length_le (by simp [hl])
  rw [this]
  exact hv.mono (Phi.le_upd φ _ hn)

theorem heap_setRow (w : World) (g k : Nat) (old cs : Array Value) (t : TypeId) (fr : Nat × Nat) (hg : w.heap[g]? = some (.cells old t fr)) : (w.setRow g cs).heap[k]? = if k = g then some (.cells cs t fr) else w.heap[k]? := by
  split
  · rename_i e; subst e; exact setRow_heap w k old cs t fr hg
  · rename_i e; exact setRow_other w g k cs e

/-- A store into an own block: its cells are others. -/
theorem Step.setRow {G B : Nat} {φ : Phi} {H : AHeap} {w : World} (h : Rel G B φ H w) (b : Nat) (p : Place) (hp : φ b = some (some p)) (cs cs' : List Value) (t : TypeId) (k : Use) (hko : k.own = true) (hx : H.at_ b = .cells cs k t)
    (c c' : Array Value) (t' : TypeId) (fr : Nat × Nat) (hg : w.heap[p.blk]? = some (.cells c t' fr)) (hs : c'.size = c.size) (hl : cs'.length = cs.length) (hv : VRels φ cs' (c'.toList.take cs'.length)) (hok : ∀ v ∈ cs', okCell v = true) :
    Step G B φ H w φ (H.upd b (.cells cs' k t)) (w.setRow p.blk c') := by
  have hB := h.blk b p hp
  rw [hx] at hB
  obtain ⟨c0, t0, fr0, g0, g1, g2, g3, g4, g5, g6⟩ := hB
  rw [hg] at g0
  cases g0
  obtain ⟨k1, k2, k3, k4⟩ := g5 hko
  have hown : (H.at_ b).own = true := by rw [hx]; exact hko
  have hal : ∀ d, ((H.upd b (.cells cs' k t)).at_ d).alive = (H.at_ d).alive := by
    intro d
    by_cases e : d = b
    · subst e; rw [AHeap.at_upd_same, hx]; rfl
    · rw [AHeap.at_upd_ne _ _ e]
  have hon : ∀ d, ((H.upd b (.cells cs' k t)).at_ d).own = (H.at_ d).own := by
    intro d
    by_cases e : d = b
    · subst e; rw [AHeap.at_upd_same, hx]; rfl
    · rw [AHeap.at_upd_ne _ _ e]
  refine ⟨⟨by simpa using h.base, h.glob, h.dom, fun d hd => by rw [AHeap.at_upd_ne _ _ (by have := h.dom b _ hp; have hd' : H.next ≤ d := hd; omega)]; exact h.wf d hd, fun d q hd => ?_, fun d d' q q' hd hd' ho ha he => ?_⟩, Nat.le_refl _, fun _ _ => rfl, rfl, rfl, rfl, by simp, fun k hk hno => ?_, fun k ⟨d, q, h1, h2, h3⟩ => .inl ⟨d, q, h1, by rw [← hon d]; exact h2, h3⟩⟩
  · by_cases e : d = b
    · subst e
      rw [hp] at hd
      cases hd
      rw [AHeap.at_upd_same]
      refine ⟨c', t', fr, by rw [heap_setRow w _ _ c c' t' fr hg, if_pos rfl], by omega, by omega, ?_, hok, fun _ => ⟨k1, k2, k3, k4⟩, g6.1, fun e => by subst e; cases hko⟩
      rw [k3, List.drop_zero]
      exact hv
    · rw [AHeap.at_upd_ne _ _ e]
      by_cases ha : (H.at_ d).alive = true
      · refine (h.blk d q hd).heap ?_
        rw [heap_setRow w _ _ c c' t' fr hg, if_neg]
        intro he
        exact e (h.apart b d p q hp hd hown ha he.symm).symm
      · cases hc' : H.at_ d with
        | dead => trivial
        | cells _ _ _ => rw [hc'] at ha; simp [Blk.alive] at ha
        | map _ => rw [hc'] at ha; simp [Blk.alive] at ha
  · rw [hon] at ho
    rw [hal] at ha
    exact h.apart d d' q q' hd hd' ho ha he
  · rw [heap_setRow w _ _ c c' t' fr hg, if_neg]
    intro e
    exact hno ⟨b, p, hp, hown, e.symm⟩
end Go.Abs
