/- Arguments in memory: slices of plain values, each a block that is only read. -/
import Derived.Test.YtliakckflcoffaaDoorAbsW
import Derived.ChangeSlices
import Derived.Lib.SmallJoins
import Derived.SizedLaws
import Derived.Carry
set_option linter.unusedVariables false
namespace Go.Abs
open Go

/-- One block more, that is only read. -/
theorem Rel.addRead {G : Nat} {φ : Phi} {H : AHeap} {W : World} (hr : Rel G W.heap.size φ H W) {vs : List Value} {p : Place} {c : Array Value} {t' : TypeId} {fr : Nat × Nat}
    (hh : W.heap[p.blk]? = some (.cells c t' fr)) (hlim : c.size = p.lim) (hsz : p.off + vs.length ≤ c.size) (hv : VRels φ vs ((c.toList.drop p.off).take vs.length)) (hok : ∀ v ∈ vs, okCell v = true) :
    Rel G W.heap.size (φ.upd H.next (some (some p))) (H.alloc (.cells vs .read 0)) W := by
  have hno : φ H.next = none := by
    cases h : φ H.next with
    | none => rfl
    | some q => exact absurd (hr.dom _ _ h) (Nat.lt_irrefl _)
  have hle := Phi.le_upd φ (some (some p)) hno
  have hin : ∀ b q, φ.upd H.next (some (some p)) b = some (some q) → (b = H.next ∧ q = p) ∨ (b ≠ H.next ∧ φ b = some (some q)) := by
    intro b q hb
    by_cases e : b = H.next
    · subst e
      rw [Phi.upd_same] at hb
      exact .inl ⟨rfl, (Option.some.inj (Option.some.inj hb)).symm⟩
    · rw [Phi.upd_ne _ _ e] at hb
      exact .inr ⟨e, hb⟩
  refine ⟨hr.base, ?_, ?_, ?_, ?_, ?_⟩
  · intro g hg
    obtain ⟨q, h1, h2⟩ := hr.glob g hg
    exact ⟨q, hle _ _ h1, h2⟩
  · intro b q hb
    by_cases e : b = H.next
    · subst e; simp
    · rw [Phi.upd_ne _ _ e] at hb
      have := hr.dom _ _ hb
      simp; omega
  · intro b hb
    rw [AHeap.next_alloc] at hb
    rw [AHeap.at_alloc_ne _ _ (by omega)]
    exact hr.wf b (by omega)
  · intro b q hb
    rcases hin b q hb with ⟨rfl, rfl⟩ | ⟨e, hb'⟩
    · rw [AHeap.at_alloc_new]
      exact ⟨c, t', fr, hh, hlim, hsz, hv.mono hle, hok, fun h => (by cases h), fun s h => (by cases h), fun h => (by cases h)⟩
    · rw [AHeap.at_alloc_ne _ _ e]
      exact (hr.blk b q hb').mono hle
  · intro b b' q q' hb hb' ho ha heq
    rcases hin b q hb with ⟨rfl, rfl⟩ | ⟨e, hb1⟩
    · rw [AHeap.at_alloc_new] at ho
      cases ho
    · rw [AHeap.at_alloc_ne _ _ e] at ho
      have hB := (hr.blk b q hb1).base ho
      rcases hin b' q' hb' with ⟨rfl, rfl⟩ | ⟨e', hb1'⟩
      · have := (Array.getElem?_eq_some_iff.1 hh).1
        omega
      · rw [AHeap.at_alloc_ne _ _ e'] at ha
        exact hr.apart b b' q q' hb1 hb1' ho ha heq

/-- One block more, of which nothing lies anywhere. -/
theorem Rel.addNone {G : Nat} {φ : Phi} {H : AHeap} {W : World} (hr : Rel G W.heap.size φ H W) (x : Blk) : Rel G W.heap.size (φ.upd H.next (some none)) (H.alloc x) W := by
  have hno : φ H.next = none := by
    cases h : φ H.next with
    | none => rfl
    | some q => exact absurd (hr.dom _ _ h) (Nat.lt_irrefl _)
  have hle := Phi.le_upd φ (some none) hno
  have hin : ∀ b q, φ.upd H.next (some none) b = some (some q) → b ≠ H.next ∧ φ b = some (some q) := by
    intro b q hb
    by_cases e : b = H.next
    · subst e
      rw [Phi.upd_same] at hb
      cases hb
    · rw [Phi.upd_ne _ _ e] at hb
      exact ⟨e, hb⟩
  refine ⟨hr.base, ?_, ?_, ?_, ?_, ?_⟩
  · intro g hg
    obtain ⟨q, h1, h2⟩ := hr.glob g hg
    exact ⟨q, hle _ _ h1, h2⟩
  · intro b q hb
    by_cases e : b = H.next
    · subst e; simp
    · rw [Phi.upd_ne _ _ e] at hb
      have := hr.dom _ _ hb
      simp; omega
  · intro b hb
    rw [AHeap.next_alloc] at hb
    rw [AHeap.at_alloc_ne _ _ (by omega)]
    exact hr.wf b (by omega)
  · intro b q hb
    obtain ⟨e, hb'⟩ := hin b q hb
    rw [AHeap.at_alloc_ne _ _ e]
    exact (hr.blk b q hb').mono hle
  · intro b b' q q' hb hb' ho ha heq
    obtain ⟨e, hb1⟩ := hin b q hb
    obtain ⟨e', hb1'⟩ := hin b' q' hb'
    rw [AHeap.at_alloc_ne _ _ e] at ho
    rw [AHeap.at_alloc_ne _ _ e'] at ha
    exact hr.apart b b' q q' hb1 hb1' ho ha heq

theorem cell?_block {W : World} {a : Addr} {v : Value} (h : W.cell? a = some v) : a.spot = none ∧ ∃ c t fr, W.heap[a.block]? = some (.cells c t fr) ∧ c[a.off]? = some v := by
  unfold World.cell? at h
  split at h
  · rename_i c t fr hc
    split at h
    · cases h
    · rename_i hs
      refine ⟨by cases hh : a.spot with | none => rfl | some x => rw [hh] at hs; simp at hs, c, t, fr, hc, h⟩
  · cases h

/-- A slice of plain values that the world holds, as a slice that is read. -/
theorem addSlice {G : Nat} {φ : Phi} {H : AHeap} {W : World} (hr : Rel G W.heap.size φ H W) {α : Type} {enc : α → Value} (hp : ∀ x, plainCell (enc x) = true) (ho : ∀ x, okCell (enc x) = true)
    {a : Addr} {len cap : Nat} {xs : List α} (hlen : xs.length = cap) (hl : len ≤ cap) (hm : cap ≤ maxLen) (hc : ∀ i (h : i < xs.length), W.cell? (a.add i) = some (enc xs[i])) :
    ∃ A φ' H', Rel G W.heap.size φ' H' W ∧ φ.le φ' ∧ VRel φ' (.slice A len len) (.slice (some a) len cap) ∧ Keep H.next H H' ∧ Rd 1 (fun x => [enc x]) H'.next H' A (xs.take len) ∧ (xs.take len).length = len := by
  have hno : φ H.next = none := by
    cases h : φ H.next with
    | none => rfl
    | some q => exact absurd (hr.dom _ _ h) (Nat.lt_irrefl _)
  have hk : ∀ x, Keep H.next H (H.alloc x) := fun x => (Keep.refl _ _).alloc (Nat.le_refl _) _
  rcases Nat.eq_zero_or_pos cap with h0 | h0
  · subst h0
    have hxs : xs = [] := List.length_eq_zero_iff.1 hlen
    have : len = 0 := by omega
    subst this; subst hxs
    refine ⟨some ⟨H.next, 1, none⟩, _, _, hr.addNone (.cells [.bool false] .read 0), Phi.le_upd φ _ hno, .empty (Phi.upd_same _ _ _) (.inr (by omega)), hk _, ⟨by simp, .inr ⟨H.next, 1, [.bool false], .read, 0, rfl, by simp, ⟨by simp, by simp⟩, by simp, by simp⟩⟩, by simp⟩
  · have h1 := hc 0 (by omega)
    rw [Go.Addr.add, if_pos rfl] at h1
    obtain ⟨hs, c, t, fr, hh, h2⟩ := cell?_block h1
    have hcell : ∀ i (h : i < xs.length), c[a.off + i]? = some (enc xs[i]) := by
      intro i hi
      have h3 := hc i hi
      obtain ⟨_, c', t', fr', hh', h4⟩ := cell?_block h3
      have hb : (a.add i).block = a.block := by unfold Go.Addr.add; split <;> rfl
      have hof : (a.add i).off = a.off + i := by unfold Go.Addr.add; split <;> simp_all
      rw [hb, hh] at hh'
      rw [hof] at h4
      injection hh' with hh'
      injection hh' with e1
      subst e1
      exact h4
    have hfit : a.off + xs.length ≤ c.size := by
      have h5 := hcell (xs.length - 1) (by omega)
      have := (Array.getElem?_eq_some_iff.1 h5).1
      omega
    have heq : (c.toList.drop a.off).take (xs.map enc).length = xs.map enc := by
      apply List.ext_getElem?
      intro i
      rw [List.getElem?_take, List.length_map]
      split
      · rename_i hi
        rw [List.getElem?_drop, Array.getElem?_toList, hcell i hi, List.getElem?_map, List.getElem?_eq_getElem hi]
        rfl
      · rw [List.getElem?_eq_none (by rw [List.length_map]; omega)]
    have hadd := hr.addRead (vs := xs.map enc) (p := ⟨a.block, a.off, c.size, 0⟩) hh rfl (by simpa using hfit) (by rw [heq]; exact VRels.plain (by simp; exact fun x _ => hp x)) (by intro v hv; obtain ⟨x, _, rfl⟩ := List.mem_map.1 hv; exact ho x)
    have ha : a = ⟨a.block, a.off, none⟩ := by cases a; simp at hs; subst hs; rfl
    refine ⟨some ⟨H.next, 0, none⟩, _, _, hadd, Phi.le_upd φ _ hno, ?_, hk _, ⟨by simp, .inr ⟨H.next, 0, xs.map enc, .read, 0, rfl, by simp, ⟨by simp, by simp⟩, by simp; omega, ?_⟩⟩, by simp; omega⟩
    · have := VRel.slice (φ := φ.upd H.next (some (some ⟨a.block, a.off, c.size, 0⟩))) (b := H.next) (o := 0) (n := len) (c := cap) (Phi.upd_same _ _ _) hl hm (.inl rfl)
      rw [Nat.add_zero] at this
      rwa [← ha] at this
    · rw [List.drop_zero, Nat.mul_one, List.length_take, ← List.map_take, Nat.min_eq_left (by omega)]
      induction xs.take len with
      | nil => rfl
      | cons y ys ih => rw [List.map_cons, List.flatMap_cons, ih]; rfl

/-- What DataW reads as a slice of whole numbers. -/
theorem openInts {Hd : Type} {enc : TypeId × Value → Hd} {P : Program} {W : World} {base : Nat} {spare : Nat → Bool} {held : Bool} {t e : TypeId} {k : IntKind} {fuel : Nat} {v : Value} {x : DataW Hd × List MemPlace} (ht : P.underlying t = some (.slice e)) (he : P.underlying e = some (.int k)) (hc : P.cellsOf e = 1)
    (hsp : ∀ b, spare b = true) (h : DataW.trod enc P W base spare held fuel t [v] = some x) {G : Nat} {φ : Phi} {H : AHeap} (hr : Rel G W.heap.size φ H W) :
    ∃ A zs φ' H', Rel G W.heap.size φ' H' W ∧ φ.le φ' ∧ VRel φ' (.slice A zs.length zs.length) v ∧ Keep H.next H H' ∧ Rd 1 (fun n => [Value.int k n]) H'.next H' A zs ∧ (∀ n ∈ zs, (Lit.int k n).wf = true) ∧ zs.length ≤ maxLen ∧
      (zs = [] ∨ ∃ els sp, x.1 = .slice els sp ∧ zs.length ≤ els.length + sp.length) := by
  rcases ChangeShapes.open_ints ht he hc h with ⟨hcs, _⟩ | ⟨a, len, cap, zs, hcs, _, hl, hm, hz, hx, hcell, hwz⟩
  · injection hcs with hcs
    subst hcs
    exact ⟨none, [], φ, H, hr, fun _ _ h => h, .plain rfl, Keep.refl _ _, Rd.nil _ _ _ _, by simp, by simp, .inl rfl⟩
  · injection hcs with hcs
    subst hcs
    rw [hsp, if_pos rfl] at hz
    obtain ⟨A, φ', H', h1, h2, h3, h4, h5, h6⟩ := addSlice hr (enc := fun n => Value.int k n) (fun _ => rfl) (fun _ => rfl) (a := a) (len := len) (cap := cap) (xs := zs) hz hl hm (fun i hi => by rw [hcell i hi, List.getD_eq_getElem?_getD, List.getElem?_eq_getElem hi]; rfl)
    refine ⟨A, zs.take len, φ', H', h1, h2, by rw [h6]; exact h3, h4, h5, fun n hn => hwz n (List.mem_of_mem_take hn), by omega, .inr ⟨_, _, by rw [hx], ?_⟩⟩
    simp [ChangeShapes.lits] <;> omega

/-- Arguments that lie in memory. -/
theorem walk_mem {P : Program} {f : FuncId} {args cargs : List Value} {φ : Phi} {H : AHeap} (W : World) (hr : Rel P.globals.size W.heap.size φ H W) (hv : VRels φ args cargs) (h : ACalls P f args H fun v H' => v = .bool true) :
    Calls P f cargs.toArray W fun e w' => e = .returned (.bool true) ∧ RowKit.Below W.heap.size W w' := by
  refine (h _ _ W cargs hr hv).mono fun e w' ⟨v, H', φ', u, he, hv, hst, hvu⟩ => ?_
  subst hv
  exact ⟨by rw [he, hvu.bool], hst.below hr⟩
end Go.Abs
