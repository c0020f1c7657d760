/- Arguments of nested types, opened by their types. -/
import Derived.Test.YtliakckflcoffaaDoorAbsZ
set_option linter.unusedVariables false
namespace Go.Abs
open Go

section
variable {Hd : Type} {enc : TypeId × Value → Hd} {P : Program} {W : World}

/-- What DataW reads of a type can be had in an abstract heap. -/
def Opens (enc : TypeId × Value → Hd) (P : Program) (W : World) (t : TypeId) (α : Type) (en : α → List Value) (gd : Nat → AHeap → α → Prop) : Prop :=
  ∀ (fuel : Nat) (cs : List Value) (x : DataW Hd × List MemPlace) (G : Nat) (φ : Phi) (H : AHeap), DataW.trod enc P W 0 (fun _ => true) true fuel t cs = some x → Rel G W.heap.size φ H W →
    ∃ a φ' H', Rel G W.heap.size φ' H' W ∧ φ.le φ' ∧ VRels φ' (en a) cs ∧ (∀ v ∈ en a, okCell v = true) ∧ Keep H.next H H' ∧ gd H'.next H' a
def GdMono {α : Type} (gd : Nat → AHeap → α → Prop) : Prop := ∀ lo lo' H H' a, gd lo H a → lo ≤ lo' → Keep lo H H' → gd lo' H' a

theorem Opens.int {t : TypeId} {k : IntKind} (ht : P.underlying t = some (.int k)) : Opens enc P W t Int (fun n => [.int k n]) (fun _ _ n => (Lit.int k n).wf = true) := by
  intro fuel cs x G φ H h hr
  obtain ⟨n, rfl, _, hw⟩ := DataW.trod_int ht h
  exact ⟨n, φ, H, hr, fun _ _ h => h, VRels.cons (.plain rfl) (VRels.nil _), by simp [okCell], Keep.refl _ _, hw⟩
theorem Opens.string {t : TypeId} (ht : P.underlying t = some .string) : Opens enc P W t ByteArray (fun s => [.string s]) (fun _ _ s => s.size ≤ maxLen) := by
  intro fuel cs x G φ H h hr
  obtain ⟨s, rfl, _, hw⟩ := DataW.trod_string ht h
  exact ⟨s, φ, H, hr, fun _ _ h => h, VRels.cons (.plain rfl) (VRels.nil _), by simp [okCell], Keep.refl _ _, hw⟩

/-- Fields, one behind the other. -/
def piece (P : Program) (cs : List Value) (f : Field) : List Value := (cs.drop f.offset).take (P.cellsOf f.type)
def OpensF (enc : TypeId × Value → Hd) (P : Program) (W : World) (fs : List Field) (α : Type) (en : α → List Value) (gd : Nat → AHeap → α → Prop) : Prop :=
  ∀ (n : Nat) (cs : List Value) (G : Nat) (φ : Phi) (H : AHeap), (∀ f ∈ fs, ∃ x, DataW.trod enc P W 0 (fun _ => true) true n f.type (piece P cs f) = some x) → Rel G W.heap.size φ H W →
    ∃ a φ' H', Rel G W.heap.size φ' H' W ∧ φ.le φ' ∧ VRels φ' (en a) (fs.flatMap (piece P cs)) ∧ (∀ v ∈ en a, okCell v = true) ∧ Keep H.next H H' ∧ gd H'.next H' a
theorem OpensF.nil : OpensF enc P W [] Unit (fun _ => []) (fun _ _ _ => True) := by
  intro n cs G φ H h hr
  exact ⟨(), φ, H, hr, fun _ _ h => h, VRels.nil _, by simp, Keep.refl _ _, trivial⟩
theorem OpensF.cons {f : Field} {fs : List Field} {α β : Type} {en : α → List Value} {en2 : β → List Value} {gd : Nat → AHeap → α → Prop} {gd2 : Nat → AHeap → β → Prop} (h1 : Opens enc P W f.type α en gd) (h2 : OpensF enc P W fs β en2 gd2) (hm : GdMono gd) :
    OpensF enc P W (f :: fs) (α × β) (fun p => en p.1 ++ en2 p.2) (fun lo H p => gd lo H p.1 ∧ gd2 lo H p.2) := by
  intro n cs G φ H h hr
  obtain ⟨x, hx⟩ := h f (by simp)
  obtain ⟨a, φ1, H1, r1, l1, v1, o1, k1, g1⟩ := h1 n _ x G φ H hx hr
  obtain ⟨b, φ2, H2, r2, l2, v2, o2, k2, g2⟩ := h2 n cs G φ1 H1 (fun f' hf' => h f' (by simp [hf'])) r1
  refine ⟨(a, b), φ2, H2, r2, fun c p hc => l2 _ _ (l1 _ _ hc), ?_, ?_, k1.trans (k2.lower k1.next), hm _ _ _ _ _ g1 k2.next k2, g2⟩
  · rw [List.flatMap_cons]
    exact (v1.mono l2).append v2
  · intro v hv
    rcases List.mem_append.1 hv with hv | hv
    · exact o1 v hv
    · exact o2 v hv
def contig (P : Program) : Nat → List Field → Nat → Bool
  | o, [], n => decide (o = n)
  | o, f :: fs, n => decide (f.offset = o) && contig P (o + P.cellsOf f.type) fs n
theorem contig_flat {P : Program} {cs : List Value} {n : Nat} (hl : cs.length = n) : ∀ (fs : List Field) (o : Nat), contig P o fs n = true → fs.flatMap (piece P cs) = cs.drop o
  | [], o, h => by
    simp [contig] at h
    simp [h, ← hl]
  | f :: fs, o, h => by
    simp [contig] at h
    obtain ⟨h1, h2⟩ := h
    rw [List.flatMap_cons, contig_flat hl fs _ h2, piece, h1, ← List.drop_drop, List.take_append_drop]
theorem Opens.struct {t : TypeId} {fs : Array Field} {α : Type} {en : α → List Value} {gd : Nat → AHeap → α → Prop} (ht : P.underlying t = some (.struct fs)) (hc : contig P 0 fs.toList (P.cellsOf t) = true) (h : OpensF enc P W fs.toList α en gd) : Opens enc P W t α en gd := by
  intro fuel cs x G φ H hx hr
  obtain ⟨xs, n, rfl, rfl, hl, hlen, hf⟩ := DataW.trod_struct ht hx
  obtain ⟨a, φ', H', r1, l1, v1, o1, k1, g1⟩ := h n cs G φ H (fun f hf' => by
    obtain ⟨i, hi⟩ := List.getElem?_of_mem hf'
    rw [Array.getElem?_toList] at hi
    have := hf i f hi
    have hlt : i < xs.length := by rw [hlen]; exact (Array.getElem?_eq_some_iff.1 hi).1
    exact ⟨xs[i], by rw [piece, this, List.getElem?_eq_getElem hlt]⟩) hr
  rw [contig_flat hl _ _ hc, List.drop_zero] at v1
  exact ⟨a, φ', H', r1, l1, v1, o1, k1, g1⟩

theorem opCells_at {a : Addr} {c : Array Value} {t : TypeId} {fr : Nat × Nat} (hs : a.spot = none) (hh : W.heap[a.block]? = some (.cells c t fr)) {o n : Nat} {cs : List Value} (h : W.cells? 0 (a.add o) n = some cs) : (c.toList.drop (a.off + o)).take n = cs ∧ cs.length = n := by
  obtain ⟨_, hl, hc⟩ := World.cells?_some h
  refine ⟨List.ext_getElem? fun k => ?_, hl⟩
  rw [List.getElem?_take]
  split
  · rename_i hk
    have := hc k hk
    have hb : ((a.add o).add k).block = a.block := by unfold Go.Addr.add; split <;> split <;> rfl
    have hof : ((a.add o).add k).off = a.off + o + k := by unfold Go.Addr.add; split <;> split <;> simp_all <;> omega
    have hk' : k < cs.length := by omega
    rw [List.getElem?_eq_getElem hk'] at this ⊢
    obtain ⟨_, c', t', fr', hh', h4⟩ := cell?_block this
    rw [hb, hh] at hh'
    injection hh' with hh'
    injection hh' with e1
    subst e1
    rw [hof] at h4
    rw [List.getElem?_drop, Array.getElem?_toList]
    exact h4
  · rw [List.getElem?_eq_none (by omega)]

theorem Opens.slice {t e : TypeId} {α : Type} {en : α → List Value} {gd : Nat → AHeap → α → Prop} {n : Nat} (ht : P.underlying t = some (.slice e)) (hn : P.cellsOf e = n) (hpos : 0 < n) (hen : ∀ a, (en a).length = n) (he : Opens enc P W e α en gd) (hm : GdMono gd) :
    Opens enc P W t (Option Addr × List α) (fun p => [.slice p.1 p.2.length p.2.length]) (fun lo H p => Rd n en lo H p.1 p.2 ∧ (∀ a ∈ p.2, gd lo H a) ∧ p.2.length ≤ maxLen) := by
  intro fuel cs x G φ H h hr
  rcases DataW.trod_slice ht h with ⟨rfl, _⟩ | ⟨a, len, cap, elems, rest, m, _, rfl, rfl, hb, hl, hmx, hlen, hel, hsp, _⟩
  · exact ⟨(none, []), φ, H, hr, fun _ _ h => h, VRels.cons (.plain rfl) (VRels.nil _), by simp [okCell], Keep.refl _ _, Rd.nil _ _ _ _, by simp, by simp⟩
  rw [hn] at hel hsp
  obtain ⟨hrl, hrest⟩ := hsp rfl
  have hno : ∀ {φ : Phi} {H : AHeap}, Rel G W.heap.size φ H W → φ H.next = none := by
    intro φ H hr
    cases h : φ H.next with
    | none => rfl
    | some q => exact absurd (hr.dom _ _ h) (Nat.lt_irrefl _)
  by_cases h0 : cap = 0
  · subst h0
    have : len = 0 := by omega
    subst this
    refine ⟨(some ⟨H.next, 1, none⟩, []), _, _, hr.addNone (.cells [.bool false] .read 0), Phi.le_upd φ _ (hno hr), VRels.cons (.empty (Phi.upd_same _ _ _) (.inr (by omega))) (VRels.nil _), by simp [okCell], (Keep.refl _ _).alloc (Nat.le_refl _) _, ?_, by simp, by simp⟩
    refine ⟨by simp, .inr ⟨H.next, 1, [.bool false], .read, 0, rfl, by simp, ⟨by simp, by simp⟩, by simp, by simp⟩⟩
  · -- the block
    have hfst : ∃ cs0, W.cells? 0 (a.add 0) n = some cs0 := by
      by_cases hl0 : len = 0
      · have := hrest 0 (by omega)
        rw [hl0, Nat.zero_add, Nat.zero_mul] at this
        have hlt : 0 < rest.length := by omega
        rw [List.getElem?_eq_getElem hlt, Option.bind_eq_some_iff] at this
        obtain ⟨cs0, h1, _⟩ := this
        exact ⟨cs0, h1⟩
      · have := hel 0 (by omega)
        rw [Nat.zero_mul] at this
        have hlt : 0 < elems.length := by omega
        rw [List.getElem?_eq_getElem hlt, Option.bind_eq_some_iff] at this
        obtain ⟨cs0, h1, _⟩ := this
        exact ⟨cs0, h1⟩
    obtain ⟨cs0, hc0⟩ := hfst
    obtain ⟨_, hcl, hcc⟩ := World.cells?_some hc0
    have h1 := hcc 0 hpos
    rw [List.getElem?_eq_getElem (by omega)] at h1
    obtain ⟨hs, c, tt, fr, hh, h2⟩ := cell?_block h1
    have hb0 : ((a.add 0).add 0) = a := by unfold Go.Addr.add; simp
    rw [hb0] at hs hh h2
    -- the elements
    have seq : ∀ k, k ≤ len → ∃ (xs : List α) (φ' : Phi) (H' : AHeap), xs.length = k ∧ Rel G W.heap.size φ' H' W ∧ φ.le φ' ∧ VRels φ' (xs.flatMap en) ((c.toList.drop a.off).take (k * n)) ∧ (∀ v ∈ xs.flatMap en, okCell v = true) ∧ Keep H.next H H' ∧ ∀ y ∈ xs, gd H'.next H' y := by
      intro k
      induction k with
      | zero => intro _; exact ⟨[], φ, H, rfl, hr, fun _ _ h => h, by simp [VRels.nil], by simp, Keep.refl _ _, by simp⟩
      | succ k ih =>
        intro hk
        obtain ⟨xs, φ1, H1, e1, r1, l1, v1, o1, k1, g1⟩ := ih (by omega)
        have := hel k (by omega)
        rw [List.getElem?_eq_getElem (by omega), Option.bind_eq_some_iff] at this
        obtain ⟨csk, hck, htk⟩ := this
        obtain ⟨y, φ2, H2, r2, l2, v2, o2, k2, g2⟩ := he _ _ _ G φ1 H1 htk r1
        refine ⟨xs ++ [y], φ2, H2, by simp [e1], r2, fun b p hb => l2 _ _ (l1 _ _ hb), ?_, ?_, k1.trans (k2.lower k1.next), ?_⟩
        · rw [List.flatMap_append]
          have e2 := (opCells_at hs hh hck).1
          have e3 : (c.toList.drop a.off).take ((k + 1) * n) = (c.toList.drop a.off).take (k * n) ++ csk := by
            rw [Nat.add_mul, Nat.one_mul, List.take_add, List.drop_drop, e2]
          rw [e3]
          refine (v1.mono l2).append ?_
          simpa using v2
        · intro v hv
          rw [List.flatMap_append] at hv
          rcases List.mem_append.1 hv with hv | hv
          · exact o1 v hv
          · exact o2 v (by simpa using hv)
        · intro z hz
          rcases List.mem_append.1 hz with hz | hz
          · exact hm _ _ _ _ _ (g1 z hz) k2.next k2
          · simp at hz; subst hz; exact g2
    obtain ⟨xs, φ1, H1, e1, r1, l1, v1, o1, k1, g1⟩ := seq len (Nat.le_refl _)
    have hfl : (xs.flatMap en).length = len * n := by rw [flatMap_length (fun x _ => hen x), e1]
    have hfit : a.off + (xs.flatMap en).length ≤ c.size := by
      have h3 := v1.1
      rw [List.length_take, List.length_drop, hfl, Array.length_toList] at h3
      have h4 := (Array.getElem?_eq_some_iff.1 h2).1
      rw [hfl]
      omega
    have hadd := r1.addRead (vs := xs.flatMap en) (p := ⟨a.block, a.off, c.size, 0⟩) hh rfl hfit (by rw [hfl]; exact v1) o1
    have hle := Phi.le_upd φ1 (some (some ⟨a.block, a.off, c.size, 0⟩)) (hno r1)
    have ha : a = ⟨a.block, a.off, none⟩ := by cases a; simp at hs; subst hs; rfl
    have hk2 : Keep H1.next H1 (H1.alloc (.cells (xs.flatMap en) .read 0)) := (Keep.refl _ _).alloc (Nat.le_refl _) _
    refine ⟨(some ⟨H1.next, 0, none⟩, xs), _, _, hadd, fun b p hb => hle _ _ (l1 _ _ hb), ?_, by simp [okCell], k1.trans (hk2.lower k1.next), ?_, fun z hz => hm _ _ _ _ _ (g1 z hz) hk2.next hk2, by rw [e1]; omega⟩
    · refine VRels.cons ?_ (VRels.nil _)
      have := VRel.slice (φ := φ1.upd H1.next (some (some ⟨a.block, a.off, c.size, 0⟩))) (b := H1.next) (o := 0) (n := len) (c := cap) (Phi.upd_same _ _ _) hl hmx (.inl rfl)
      rw [Nat.add_zero] at this
      rw [← ha] at this
      rw [e1]
      exact this
    · exact Rd.mk' (fun x _ => hen x) (by simp) (AHeap.at_alloc_new _ _) (by simp) rfl (by rw [hfl, e1])
theorem GdMono.slice {α : Type} {en : α → List Value} {gd : Nat → AHeap → α → Prop} {n : Nat} (hm : GdMono gd) : GdMono (fun lo H (p : Option Addr × List α) => Rd n en lo H p.1 p.2 ∧ (∀ a ∈ p.2, gd lo H a) ∧ p.2.length ≤ maxLen) :=
  fun lo lo' H H' p ⟨h1, h2, h3⟩ hl hk => ⟨(h1.kept hk).up hl, fun a ha => hm _ _ _ _ _ (h2 a ha) hl hk, h3⟩
theorem GdMono.pair {α β : Type} {gd : Nat → AHeap → α → Prop} {gd2 : Nat → AHeap → β → Prop} (h1 : GdMono gd) (h2 : GdMono gd2) : GdMono (fun lo H (p : α × β) => gd lo H p.1 ∧ gd2 lo H p.2) :=
  fun lo lo' H H' p ⟨g1, g2⟩ hl hk => ⟨h1 _ _ _ _ _ g1 hl hk, h2 _ _ _ _ _ g2 hl hk⟩
theorem GdMono.const {α : Type} {p : α → Prop} : GdMono (fun _ _ a => p a) := fun _ _ _ _ _ h _ _ => h
end
end Go.Abs
