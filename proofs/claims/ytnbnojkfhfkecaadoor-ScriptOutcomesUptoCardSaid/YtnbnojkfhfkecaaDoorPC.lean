/- Contracts of functions that the statement reaches; each theorem carries its own conditions, the last theorem of the claim has none. -/
import Derived.Test.YtnbnojkfhfkecaaDoorPB
import Derived.Test.YtnbnojkfhfkecaaDoorAbsOp
/- Arguments of nested types, opened by their types, with what they weigh. -/
set_option linter.unusedVariables false
namespace Go.Abs
open Go

section
variable {Hd : Type} {enc : TypeId × Value → Hd} {P : Program} {W : World}

structure Weighs (bk : DataW Hd → Nat) : Prop where
  str : ∀ bytes : List UInt8, bytes.length + 1 ≤ bk (.lit (.string bytes))
  slice : ∀ els sp : List (DataW Hd), (els.map bk).sum ≤ bk (.slice els sp)
  agg : ∀ ps : List (DataW Hd), (ps.map bk).sum ≤ bk (.agg ps)
/-- What DataW reads of a type can be had in an abstract heap, and weighs no more. -/
def OpensW (bk : DataW Hd → Nat) (enc : TypeId × Value → Hd) (P : Program) (W : World) (t : TypeId) (α : Type) (en : α → List Value) (gd : Nat → AHeap → α → Prop) (wt : α → Nat) : Prop :=
  ∀ (fuel : Nat) (cs : List Value) (x : DataW Hd × List MemPlace) (G : Nat) (φ : Phi) (H : AHeap), DataW.trod enc P W 0 (fun _ => true) true fuel t cs = some x → Rel G W.heap.size φ H W →
    ∃ a φ' H', Rel G W.heap.size φ' H' W ∧ φ.le φ' ∧ VRels φ' (en a) cs ∧ (∀ v ∈ en a, okCell v = true) ∧ Keep H.next H H' ∧ gd H'.next H' a ∧ wt a ≤ bk x.1
variable {bk : DataW Hd → Nat}
theorem OpensW.of {t : TypeId} {α : Type} {en : α → List Value} {gd : Nat → AHeap → α → Prop} (h : Opens enc P W t α en gd) : OpensW bk enc P W t α en gd (fun _ => 0) := by
  intro fuel cs x G φ H hx hr
  obtain ⟨a, φ', H', r1, l1, v1, o1, k1, g1⟩ := h fuel cs x G φ H hx hr
  exact ⟨a, φ', H', r1, l1, v1, o1, k1, g1, Nat.zero_le _⟩
theorem OpensW.string (hbk : Weighs bk) {t : TypeId} (ht : P.underlying t = some .string) : OpensW bk enc P W t ByteArray (fun s => [.string s]) (fun _ _ s => s.size ≤ maxLen) (fun s => s.size + 1) := by
  intro fuel cs x G φ H h hr
  obtain ⟨s, rfl, rfl, hw⟩ := DataW.trod_string ht h
  refine ⟨s, φ, H, hr, fun _ _ h => h, VRels.cons (.plain rfl) (VRels.nil _), by simp [okCell], Keep.refl _ _, hw, ?_⟩
  have := hbk.str s.data.toList
  rw [Array.length_toList] at this
  exact this
theorem OpensW.map {t : TypeId} {α β : Type} {en : α → List Value} {en2 : β → List Value} {gd : Nat → AHeap → α → Prop} {gd2 : Nat → AHeap → β → Prop} {wt : α → Nat} {wt2 : β → Nat} (f : α → β) (he : ∀ a, en2 (f a) = en a) (hg : ∀ lo H a, gd lo H a → gd2 lo H (f a)) (hw : ∀ a, wt2 (f a) ≤ wt a)
    (h : OpensW bk enc P W t α en gd wt) : OpensW bk enc P W t β en2 gd2 wt2 := by
  intro fuel cs x G φ H hx hr
  obtain ⟨a, φ', H', r1, l1, v1, o1, k1, g1, w1⟩ := h fuel cs x G φ H hx hr
  exact ⟨f a, φ', H', r1, l1, by rw [he]; exact v1, by rw [he]; exact o1, k1, hg _ _ _ g1, Nat.le_trans (hw a) w1⟩

def OpensWF (bk : DataW Hd → Nat) (enc : TypeId × Value → Hd) (P : Program) (W : World) (fs : List Field) (α : Type) (en : α → List Value) (gd : Nat → AHeap → α → Prop) (wt : α → Nat) : Prop :=
  ∀ (n : Nat) (cs : List Value) (xs : List (DataW Hd × List MemPlace)) (G : Nat) (φ : Phi) (H : AHeap), xs.length = fs.length → (∀ (i : Nat) (f : Field), fs[i]? = some f → DataW.trod enc P W 0 (fun _ => true) true n f.type (piece P cs f) = xs[i]?) → Rel G W.heap.size φ H W →
    ∃ a φ' H', Rel G W.heap.size φ' H' W ∧ φ.le φ' ∧ VRels φ' (en a) (fs.flatMap (piece P cs)) ∧ (∀ v ∈ en a, okCell v = true) ∧ Keep H.next H H' ∧ gd H'.next H' a ∧ wt a ≤ (xs.map fun x => bk x.1).sum
theorem OpensWF.nil : OpensWF bk enc P W [] Unit (fun _ => []) (fun _ _ _ => True) (fun _ => 0) := by
  intro n cs xs G φ H hl h hr
  exact ⟨(), φ, H, hr, fun _ _ h => h, VRels.nil _, by simp, Keep.refl _ _, trivial, Nat.zero_le _⟩
theorem OpensWF.cons {f : Field} {fs : List Field} {α β : Type} {en : α → List Value} {en2 : β → List Value} {gd : Nat → AHeap → α → Prop} {gd2 : Nat → AHeap → β → Prop} {wt : α → Nat} {wt2 : β → Nat} (h1 : OpensW bk enc P W f.type α en gd wt) (h2 : OpensWF bk enc P W fs β en2 gd2 wt2) (hm : GdMono gd) :
    OpensWF bk enc P W (f :: fs) (α × β) (fun p => en p.1 ++ en2 p.2) (fun lo H p => gd lo H p.1 ∧ gd2 lo H p.2) (fun p => wt p.1 + wt2 p.2) := by
  intro n cs xs G φ H hl h hr
  obtain ⟨x, xr, rfl⟩ : ∃ x xr, xs = x :: xr := by
    cases xs with
    | nil => simp at hl
    | cons x xr => exact ⟨x, xr, rfl⟩
  have hx := h 0 f rfl
  obtain ⟨a, φ1, H1, r1, l1, v1, o1, k1, g1, w1⟩ := h1 n _ x G φ H (by simpa using hx) hr
  obtain ⟨b, φ2, H2, r2, l2, v2, o2, k2, g2, w2⟩ := h2 n cs xr G φ1 H1 (by simpa using hl) (fun i f' hf' => by have := h (i + 1) f' (by simpa using hf'); simpa using this) r1
  refine ⟨(a, b), φ2, H2, r2, fun c p hc => l2 _ _ (l1 _ _ hc), ?_, ?_, k1.trans (k2.lower k1.next), ⟨hm _ _ _ _ _ g1 k2.next k2, g2⟩, ?_⟩
  · rw [List.flatMap_cons]
    exact (v1.mono l2).append v2
  · intro v hv
    rcases List.mem_append.1 hv with hv | hv
    · exact o1 v hv
    · exact o2 v hv
  · simp only [List.map_cons, List.sum_cons]
    omega
theorem OpensW.struct (hbk : Weighs bk) {t : TypeId} {fs : Array Field} {α : Type} {en : α → List Value} {gd : Nat → AHeap → α → Prop} {wt : α → Nat} (ht : P.underlying t = some (.struct fs)) (hc : contig P 0 fs.toList (P.cellsOf t) = true) (h : OpensWF bk enc P W fs.toList α en gd wt) : OpensW bk enc P W t α en gd wt := by
  intro fuel cs x G φ H hx hr
  obtain ⟨xs, n, rfl, rfl, hl, hlen, hf⟩ := DataW.trod_struct ht hx
  obtain ⟨a, φ', H', r1, l1, v1, o1, k1, g1, w1⟩ := h n cs xs G φ H (by simpa using hlen) (fun i f hf' => hf i f (by simpa using hf')) hr
  rw [contig_flat hl _ _ hc, List.drop_zero] at v1
  refine ⟨a, φ', H', r1, l1, v1, o1, k1, g1, Nat.le_trans w1 ?_⟩
  have := hbk.agg (xs.map (·.1))
  rw [List.map_map] at this
  exact this

theorem OpensW.slice (hbk : Weighs bk) {t e : TypeId} {α : Type} {en : α → List Value} {gd : Nat → AHeap → α → Prop} {wt : α → Nat} {n : Nat} (ht : P.underlying t = some (.slice e)) (hn : P.cellsOf e = n) (hpos : 0 < n) (hen : ∀ a, (en a).length = n) (he : OpensW bk enc P W e α en gd wt) (hm : GdMono gd) :
    OpensW bk enc P W t (Option Addr × List α) (fun p => [.slice p.1 p.2.length p.2.length]) (fun lo H p => Rd n en lo H p.1 p.2 ∧ (∀ a ∈ p.2, gd lo H a) ∧ p.2.length ≤ maxLen) (fun p => (p.2.map wt).sum) := by
  intro fuel cs x G φ H h hr
  rcases DataW.trod_slice ht h with ⟨rfl, rfl⟩ | ⟨a, len, cap, elems, rest, m, _, rfl, rfl, hb, hl, hmx, hlen, hel, hsp, _⟩
  · exact ⟨(none, []), φ, H, hr, fun _ _ h => h, VRels.cons (.plain rfl) (VRels.nil _), by simp [okCell], Keep.refl _ _, ⟨Rd.nil _ _ _ _, by simp, by simp⟩, by simp⟩
  rw [hn] at hel hsp
  obtain ⟨hrl, hrest⟩ := hsp rfl
  have hno : ∀ {φ : Phi} {H : AHeap}, Rel G W.heap.size φ H W → φ H.next = none := by
    intro φ H hr
    cases h : φ H.next with
    | none => rfl
    | some q => exact absurd (hr.dom _ _ h) (Nat.lt_irrefl _)
  by_cases h0 : cap = 0
  · subst h0
    have : len = 0 := by omega
    subst this
    refine ⟨(some ⟨H.next, 1, none⟩, []), _, _, hr.addNone (.cells [.bool false] .read 0), Phi.le_upd φ _ (hno hr), VRels.cons (.empty (Phi.upd_same _ _ _) (.inr (by omega))) (VRels.nil _), by simp [okCell], (Keep.refl _ _).alloc (Nat.le_refl _) _, ⟨?_, by simp, by simp⟩, by simp⟩
    refine ⟨by simp, .inr ⟨H.next, 1, [.bool false], .read, 0, rfl, by simp, ⟨by simp, by simp⟩, by simp, by simp⟩⟩
  · -- the block
    have hfst : ∃ cs0, W.cells? 0 (a.add 0) n = some cs0 := by
      by_cases hl0 : len = 0
      · have := hrest 0 (by omega)
        rw [hl0, Nat.zero_add, Nat.zero_mul] at this
        have hlt : 0 < rest.length := by omega
        rw [List.getElem?_eq_getElem hlt, Option.bind_eq_some_iff] at this
        obtain ⟨cs0, h1, _⟩ := this
        exact ⟨cs0, h1⟩
      · have := hel 0 (by omega)
        rw [Nat.zero_mul] at this
        have hlt : 0 < elems.length := by omega
        rw [List.getElem?_eq_getElem hlt, Option.bind_eq_some_iff] at this
        obtain ⟨cs0, h1, _⟩ := this
        exact ⟨cs0, h1⟩
    obtain ⟨cs0, hc0⟩ := hfst
    obtain ⟨_, hcl, hcc⟩ := World.cells?_some hc0
    have h1 := hcc 0 hpos
    rw [List.getElem?_eq_getElem (by omega)] at h1
    obtain ⟨hs, c, tt, fr, hh, h2⟩ := cell?_block h1
    have hb0 : ((a.add 0).add 0) = a := by unfold Go.Addr.add; simp
    rw [hb0] at hs hh h2
    -- the elements
    have seq : ∀ k, k ≤ len → ∃ (xs : List α) (φ' : Phi) (H' : AHeap), xs.length = k ∧ Rel G W.heap.size φ' H' W ∧ φ.le φ' ∧ VRels φ' (xs.flatMap en) ((c.toList.drop a.off).take (k * n)) ∧ (∀ v ∈ xs.flatMap en, okCell v = true) ∧ Keep H.next H H' ∧ (∀ y ∈ xs, gd H'.next H' y) ∧
        (xs.map wt).sum ≤ ((elems.take k).map fun x => bk x.1).sum := by
      intro k
      induction k with
      | zero => intro _; exact ⟨[], φ, H, rfl, hr, fun _ _ h => h, by simp [VRels.nil], by simp, Keep.refl _ _, by simp, by simp⟩
      | succ k ih =>
        intro hk
        obtain ⟨xs, φ1, H1, e1, r1, l1, v1, o1, k1, g1, w1⟩ := ih (by omega)
        have := hel k (by omega)
        have hke : k < elems.length := by omega
        rw [List.getElem?_eq_getElem hke, Option.bind_eq_some_iff] at this
        obtain ⟨csk, hck, htk⟩ := this
        obtain ⟨y, φ2, H2, r2, l2, v2, o2, k2, g2, w2⟩ := he _ _ _ G φ1 H1 htk r1
        refine ⟨xs ++ [y], φ2, H2, by simp [e1], r2, fun b p hb => l2 _ _ (l1 _ _ hb), ?_, ?_, k1.trans (k2.lower k1.next), ?_, ?_⟩
        · rw [List.flatMap_append]
          have e2 := (opCells_at hs hh hck).1
          have e3 : (c.toList.drop a.off).take ((k + 1) * n) = (c.toList.drop a.off).take (k * n) ++ csk := by
            rw [Nat.add_mul, Nat.one_mul, List.take_add, List.drop_drop, e2]
          rw [e3]
          refine (v1.mono l2).append ?_
          simpa using v2
        · intro v hv
          rw [List.flatMap_append] at hv
          rcases List.mem_append.1 hv with hv | hv
          · exact o1 v hv
          · exact o2 v (by simpa using hv)
        · intro z hz
          rcases List.mem_append.1 hz with hz | hz
          · exact hm _ _ _ _ _ (g1 z hz) k2.next k2
          · simp at hz; subst hz; exact g2
        · rw [← List.take_append_getElem hke, List.map_append, List.map_append, List.sum_append, List.sum_append]
          simp only [List.map_cons, List.map_nil, List.sum_cons, List.sum_nil]
          omega
    obtain ⟨xs, φ1, H1, e1, r1, l1, v1, o1, k1, g1, w1⟩ := seq len (Nat.le_refl _)
    have hfl : (xs.flatMap en).length = len * n := by rw [flatMap_length (fun x _ => hen x), e1]
    have hfit : a.off + (xs.flatMap en).length ≤ c.size := by
      have h3 := v1.1
      rw [List.length_take, List.length_drop, hfl, Array.length_toList] at h3
      have h4 := (Array.getElem?_eq_some_iff.1 h2).1
      rw [hfl]
      omega
    have hadd := r1.addRead (vs := xs.flatMap en) (p := ⟨a.block, a.off, c.size, 0⟩) hh rfl hfit (by rw [hfl]; exact v1) o1
    have hle := Phi.le_upd φ1 (some (some ⟨a.block, a.off, c.size, 0⟩)) (hno r1)
    have ha : a = ⟨a.block, a.off, none⟩ := by cases a; simp at hs; subst hs; rfl
    have hk2 : Keep H1.next H1 (H1.alloc (.cells (xs.flatMap en) .read 0)) := (Keep.refl _ _).alloc (Nat.le_refl _) _
    refine ⟨(some ⟨H1.next, 0, none⟩, xs), _, _, hadd, fun b p hb => hle _ _ (l1 _ _ hb), ?_, by simp [okCell], k1.trans (hk2.lower k1.next), ⟨?_, fun z hz => hm _ _ _ _ _ (g1 z hz) hk2.next hk2, by rw [e1]; omega⟩, ?_⟩
    · refine VRels.cons ?_ (VRels.nil _)
      have := VRel.slice (φ := φ1.upd H1.next (some (some ⟨a.block, a.off, c.size, 0⟩))) (b := H1.next) (o := 0) (n := len) (c := cap) (Phi.upd_same _ _ _) hl hmx (.inl rfl)
      rw [Nat.add_zero] at this
      rw [← ha] at this
      rw [e1]
      exact this
    · exact Rd.mk' (fun x _ => hen x) (by simp) (AHeap.at_alloc_new _ _) (by simp) rfl (by rw [hfl, e1])
    · rw [List.take_of_length_le (by omega)] at w1
      refine Nat.le_trans w1 ?_
      have := hbk.slice (elems.map (·.1)) (rest.map (·.1))
      rw [List.map_map] at this
      exact this
end
end Go.Abs

/- What a chunk ended with, as it is written; ScriptOutcomes. -/
set_option linter.unusedVariables false
set_option linter.unusedSimpArgs false
set_option maxRecDepth 100000
namespace Go.Proofs.YtnbnojkfhfkecaaDoor.A.U
open Go Go.Abs

abbrev eS (s : List UInt8) : List Value := [bstr s]
abbrev Strs (lo : Nat) (H : AHeap) (A : Option Addr) (vs : List (List UInt8)) : Prop := Rd 1 eS lo H A vs
def tot (vs : List (List UInt8)) : Nat := (vs.map List.length).sum
def lns (vs : List (List UInt8)) : List UInt8 := vs.flatMap fun v => 10 :: 32 :: v
theorem lns_len : ∀ vs : List (List UInt8), (lns vs).length = tot vs + 2 * vs.length
  | [] => rfl
  | v :: vs => by
    have ih := lns_len vs
    unfold lns tot at ih ⊢
    simp only [List.flatMap_cons, List.length_append, List.length_cons, List.map_cons, List.sum_cons, ih]
    omega
theorem lns_take {vs : List (List UInt8)} {i : Nat} (h : i < vs.length) : lns (vs.take (i + 1)) = lns (vs.take i) ++ (10 :: 32 :: vs[i]) := by
  unfold lns
  rw [← List.take_append_getElem h, List.flatMap_append, List.flatMap_cons, List.flatMap_nil, List.append_nil]
theorem tot_take (vs : List (List UInt8)) (i : Nat) : tot (vs.take i) ≤ tot vs := by
  have : tot vs = tot (vs.take i) + tot (vs.drop i) := by
    unfold tot
    rw [← List.sum_append, ← List.map_append, List.take_append_drop]
  omega
theorem tot_get {vs : List (List UInt8)} {i : Nat} (h : i < vs.length) : vs[i].length ≤ tot vs := by
  have h1 := tot_take vs (i + 1)
  rw [← List.take_append_getElem h] at h1
  unfold tot at h1 ⊢
  rw [List.map_append, List.sum_append] at h1
  simp only [List.map_cons, List.map_nil, List.sum_cons, List.sum_nil] at h1
  omega
def hdr (f : Int) (n : Nat) : List UInt8 := [111, 107, 32] ++ Lib.itoa f ++ [32] ++ Lib.itoa (n : Int)
def outL (e : Int) (vs : List (List UInt8)) (p : List UInt8) (f : Int) : List UInt8 :=
  if e = 0 then hdr f vs.length ++ lns vs ++ (if p = [] then [] else 10 :: 45 :: 34 :: (quo p ++ [34])) else [101, 114, 114, 111, 114, 32] ++ Lib.itoa e
abbrev encO (e : Int) (A : Option Addr) (vs : List (List UInt8)) (p : List UInt8) (f : Int) : Value := .agg #[.int .i64 e, .slice A vs.length vs.length, bstr p, .int .i64 f]

/-- Fields of a block. -/
theorem fld {H : AHeap} {b j : Nat} {cs : List Value} {k : Use} {t : TypeId} {v : Value} (hat : H.at_ b = .cells cs k t) (hj : cs[j]? = some v) (K : Value → Prop) (h : K v) : bnd (aAdd j (.pointer (some ⟨b, 0, none⟩))) (fun p => bnd (aLdCell p H) K) := by
  rw [aAdd_ptr, bnd_some', Nat.zero_add, aLdCell_ptr, hat, blkCell_cells, hj, bnd_some']
  exact h

theorem itoa64 (n : Nat) (h : n ≤ 4611686018427387904) : I64 (n : Int) := ⟨by omega, by omega⟩

set_option maxHeartbeats 1000000 in
/-- Outcome. -/
theorem c15 {H : AHeap} (hT : TbU H) {e f : Int} {A : Option Addr} {vs : List (List UInt8)} {p : List UInt8} (he : I64 e) (hf : I64 f) (hR : Strs H.next H A vs) (hn : vs.length ≤ 1099511627776) (hw : tot vs + p.length ≤ 1099511627776) :
    ACalls Tryd.prog 15 [encO e A vs p f] H fun v H' => v = bstr (outL e vs p f) ∧ H' = H := by
  refine ACalls.eq (S15_calls ?_) rfl
  unfold S15
  rw [aBox_eq]
  refine ⟨by rfl, ?_⟩
  have e0 : vcells (encO e A vs p f) = [.int .i64 e, .slice A vs.length vs.length, bstr p, .int .i64 f] := rfl
  rw [e0]
  have hb : (H.alloc (.cells [.int .i64 e, .slice A vs.length vs.length, bstr p, .int .i64 f] .var 41)).at_ H.next = .cells [.int .i64 e, .slice A vs.length vs.length, bstr p, .int .i64 f] .var 41 := AHeap.at_alloc_new _ _
  have hk : Keep H.next H (H.alloc (.cells [.int .i64 e, .slice A vs.length vs.length, bstr p, .int .i64 f] .var 41)) := (Keep.refl _ _).alloc (Nat.le_refl _) _
  have hnx : (H.alloc (.cells [.int .i64 e, .slice A vs.length vs.length, bstr p, .int .i64 f] .var 41)).next = H.next + 1 := rfl
  have hT1 := hT.kept hk
  have hR1 : Strs H.next (H.alloc (.cells [.int .i64 e, .slice A vs.length vs.length, bstr p, .int .i64 f] .var 41)) A vs := hR.kept hk
  generalize H.alloc (.cells [.int .i64 e, .slice A vs.length vs.length, bstr p, .int .i64 f] .var 41) = H1 at hb hk hnx hT1 hR1
  refine fld hb rfl _ ?_
  have hie := itoa_le he
  have hif := itoa_le hf
  have hin := itoa_le (itoa64 vs.length (by omega))
  rw [aBin_neq, bnd_some']
  by_cases hz : e = 0
  · subst hz
    rw [show (!decide ((0 : Int) = 0)) = false from rfl, aCond_false]
    unfold outL
    rw [if_pos rfl]
    unfold S15_60
    rw [aAlloc_eq]
    have hF : ∀ c, (fun c => c < H1.next) c → c < H1.next := fun c h => h
    have hF1 : ∀ {H' : AHeap}, KF (fun c => c < H1.next) H1 H' → ∀ c, c < H1.next → c < H'.next := fun hk c h => Nat.lt_of_lt_of_le h hk.1
    have hbd := Bd.new (F := fun c => c < H1.next) (H := H1) hF
    have hk1 : KF (fun c => c < H1.next) H1 (H1.alloc (.cells [.pointer none, .slice none 0 0] .var 48)) := ⟨by simp, fun c hc => AHeap.at_alloc_ne _ _ (Nat.ne_of_lt hc)⟩
    have hT8 := hT1.tb.next
    have hfl : ∀ {H' : AHeap}, KF (fun c => c < H1.next) H1 H' → H'.at_ H.next = .cells [.int .i64 0, .slice A vs.length vs.length, bstr p, .int .i64 f] .var 41 := fun hk => (hk.2 H.next (by omega)).trans hb
    have hTk : ∀ {H' : AHeap}, KF (fun c => c < H1.next) H1 H' → TbU H' := fun hk => hT1.kf hk (fun c hc => by omega)
    have hRk : ∀ {H' : AHeap}, KF (fun c => c < H1.next) H1 H' → Strs H.next H' A vs := fun hk => hR1.keep fun c hc => hk.2 c (by omega)
    generalize H1.alloc (.cells [.pointer none, .slice none 0 0] .var 48) = H2 at hbd hk1
    refine fld (hfl hk1) rfl _ ?_
    have h1 : aAdd 1 (.pointer (some ⟨H.next, 0, none⟩)) = some (.pointer (some ⟨H.next, 1, none⟩)) := by rw [aAdd_ptr]
    have hl1 : ∀ {H' : AHeap}, KF (fun c => c < H1.next) H1 H' → aLdCell (.pointer (some ⟨H.next, 1, none⟩)) H' = some (.slice A vs.length vs.length) := fun hk => by rw [aLdCell_ptr, hfl hk]; rfl
    rw [h1, bnd_some', hl1 hk1, bnd_some', aLenSl_slice, bnd_some']
    refine (c21 (hTk hk1).tb f hf.lo hf.hi).use ?_
    unfold S15_59
    rw [hl1 hk1, bnd_some']
    refine ⟨rfl, ?_⟩
    rw [show (.string ⟨#[111, 107, 32]⟩ : Value) = bstr [111, 107, 32] from rfl, aBin_sadd _ _ _ (by simp; omega), bnd_some', show (.string ⟨#[32]⟩ : Value) = bstr [32] from rfl, aBin_sadd _ _ _ (by simp; omega), bnd_some']
    refine (c21 (hTk hk1).tb (vs.length : Int) (by omega) (by omega)).use ?_
    rw [aBin_sadd _ _ _ (by simp; omega), bnd_some']
    have hhd : ([111, 107, 32] ++ Lib.itoa f ++ [32] ++ Lib.itoa (vs.length : Int)).length ≤ 100 := by simp; omega
    have hhe : [111, 107, 32] ++ Lib.itoa f ++ [32] ++ Lib.itoa (vs.length : Int) = hdr f vs.length := rfl
    rw [hhe] at hhd ⊢
    refine (c20 _ hbd (hF1 hk1) (by rw [ba_size]; simp; omega)).mono ?_
    rintro v H3 ⟨hbd3, hk3⟩
    have hk13 := hk1.trans hk3
    have hbd3 : Bd (fun c => c < H1.next) H1.next (hdr f vs.length) H3 := hbd3
    rw [h1, bnd_some', hl1 hk13, bnd_some', aLenSl_slice, bnd_some']
    refine aLoop_vs vs.length (fun i ws H4 => i ≤ vs.length ∧ ws = [.int .i64 (i : Nat)] ∧ Bd (fun c => c < H1.next) H1.next (hdr f vs.length ++ lns (vs.take i)) H4 ∧ KF (fun c => c < H1.next) H1 H4) ⟨Nat.zero_le _, rfl, by simpa [lns] using hbd3, hk13⟩ ?_
    rintro i ws H4 again hi ⟨_, rfl, hbd4, hk4⟩ hag
    have htk := tot_take vs i
    have hll : (lns (vs.take i)).length ≤ tot vs + 2 * vs.length := by
      rw [lns_len, List.length_take]; omega
    unfold S15_57
    rw [nth_zero, aBin_lss, bnd_some']
    refine aCond_of (fun hlt => ?_) (fun hge => ?_)
    · have hlt : i < vs.length := by have := of_decide_eq_true hlt; omega
      have hR4 := hRk hk4
      have hg := tot_get hlt
      unfold S15_39
      rw [nth_zero, hR4.idx (k := .i64) (c := vs.length) (j := (i : Int)) (by omega) (by omega), bnd_some', Int.toNat_natCast, Rd.ld hR4 hlt, bnd_some']
      rw [show (.string ⟨#[10, 32]⟩ : Value) = bstr [10, 32] from rfl, aBin_sadd _ _ _ (by simp; omega), bnd_some']
      refine (c20 _ hbd4 (hF1 hk4) (by rw [ba_size]; simp; omega)).mono ?_
      rintro v H5 ⟨hbd5, hk5⟩
      rw [show aBin .add .no (.int .i64 (i : Int)) (.int .i64 1) = some (.int .i64 ((i + 1 : Nat) : Int)) from addN i 1 (by omega), bnd_some']
      refine hag _ _ hlt ⟨by omega, rfl, ?_, hk4.trans hk5⟩
      rw [lns_take hlt, ← List.append_assoc]
      exact hbd5
    · have hge : i = vs.length := by have := of_decide_eq_false hge; omega
      subst hge
      rw [List.take_length] at hbd4 hll
      unfold S15_56
      rw [aJoin_eq]
      have fin : ∀ H5 (tl : List UInt8), tl.length ≤ 10995116277760 → Bd (fun c => c < H1.next) H1.next (hdr f vs.length ++ lns vs ++ tl) H5 → KF (fun c => c < H1.next) H1 H5 →
          ACalls Tryd.prog 23 [.pointer (some ⟨H1.next, 0, none⟩)] H5 fun v H' => v = bstr (hdr f vs.length ++ lns vs ++ tl) ∧ Keep H.next H H' := by
        intro H5 tl htl hb5 hk5
        have h0 : 0 < (hdr f vs.length).length := by show 0 < ([111, 107, 32] ++ Lib.itoa f ++ [32] ++ Lib.itoa (vs.length : Int)).length; simp
        refine (c23 hb5 (by rw [List.length_append, List.length_append]; omega) (by rw [List.length_append, List.length_append]; omega)).mono ?_
        rintro v H6 ⟨rfl, hk6⟩
        have hk56 := hk5.trans hk6
        exact ⟨rfl, hk.trans ⟨hk56.1, fun c hc => hk56.2 c (by omega)⟩⟩
      refine fld (hfl hk4) rfl _ ?_
      rw [show (.string ⟨#[]⟩ : Value) = bstr [] from rfl, str_ne, bnd_some']
      by_cases hp : p = []
      · rw [if_pos hp, decide_eq_true hp, Bool.not_true, aCond_false]
        refine fin H4 [] (by simp) ?_ hk4
        rw [List.append_nil]
        exact hbd4
      · rw [if_neg hp, decide_eq_false hp, Bool.not_false, aCond_true]
        unfold S15_55
        refine fld (hfl hk4) rfl _ ?_
        have hql := quo_len p
        refine (c27 (hTk hk4) p (by omega)).use ?_
        rw [show (.string ⟨#[10, 45]⟩ : Value) = bstr [10, 45] from rfl, aBin_sadd _ _ _ (by simp; omega), bnd_some']
        refine (c20 _ hbd4 (hF1 hk4) (by rw [ba_size]; simp; omega)).mono ?_
        rintro v H5 ⟨hbd5, hk5⟩
        exact fin H5 (10 :: 45 :: 34 :: (quo p ++ [34])) (by simp; omega) hbd5 (hk4.trans hk5)
  · rw [show (!decide (e = 0)) = true by rw [decide_eq_false hz]; rfl, aCond_true]
    unfold outL
    rw [if_neg hz]
    refine fld hb rfl _ ?_
    refine (c21 hT1.tb e he.lo he.hi).use ?_
    rw [show (.string ⟨#[101, 114, 114, 111, 114, 32]⟩ : Value) = bstr [101, 114, 114, 111, 114, 32] from rfl, aBin_sadd _ _ _ (by simp; omega), bnd_some']
    exact ⟨rfl, hk⟩

set_option maxHeartbeats 1000000 in
/-- ScriptOutcomes. -/
theorem c6 {H : AHeap} (hT : TbU H) {e f : Int} {A : Option Addr} {vs : List (List UInt8)} {p : List UInt8} (he : I64 e) (hf : I64 f) (hR : Strs H.next H A vs) (hn : vs.length ≤ 1099511627776) (hw : tot vs + p.length ≤ 1099511627776) :
    ACalls Tryd.prog 6 [encO e A vs p f] H fun v H' => v = .bool true := by
  refine S6_calls ?_
  unfold S6
  rw [aBox_eq]
  refine ⟨by rfl, ?_⟩
  have e0 : vcells (encO e A vs p f) = [.int .i64 e, .slice A vs.length vs.length, bstr p, .int .i64 f] := rfl
  rw [e0]
  have hb : (H.alloc (.cells [.int .i64 e, .slice A vs.length vs.length, bstr p, .int .i64 f] .var 41)).at_ H.next = .cells [.int .i64 e, .slice A vs.length vs.length, bstr p, .int .i64 f] .var 41 := AHeap.at_alloc_new _ _
  have hk : Keep H.next H (H.alloc (.cells [.int .i64 e, .slice A vs.length vs.length, bstr p, .int .i64 f] .var 41)) := (Keep.refl _ _).alloc (Nat.le_refl _) _
  have hnx : (H.alloc (.cells [.int .i64 e, .slice A vs.length vs.length, bstr p, .int .i64 f] .var 41)).next = H.next + 1 := rfl
  have hT1 := hT.kept hk
  have hR1 : Strs H.next (H.alloc (.cells [.int .i64 e, .slice A vs.length vs.length, bstr p, .int .i64 f] .var 41)) A vs := hR.kept hk
  generalize H.alloc (.cells [.int .i64 e, .slice A vs.length vs.length, bstr p, .int .i64 f] .var 41) = H1 at hb hk hnx hT1 hR1
  have hie := itoa_le he
  have hif := itoa_le hf
  have hin := itoa_le (itoa64 vs.length (by omega))
  refine (c11 hT1.tb).use ?_
  unfold S6_87
  rw [aUn_not, bnd_some', Bool.not_true]
  have h1 : aAdd 1 (.pointer (some ⟨H.next, 0, none⟩)) = some (.pointer (some ⟨H.next, 1, none⟩)) := by rw [aAdd_ptr]
  have hl1 : aLdCell (.pointer (some ⟨H.next, 1, none⟩)) H1 = some (.slice A vs.length vs.length) := by rw [aLdCell_ptr, hb]; rfl
  simp only [aGuardK_ff, h1, hl1, bnd_some', aLenSl_slice, aBin_gtr, aPick_ff]
  refine aCond_of (fun _ => (c11 hT1.tb).use rfl) (fun hsm => ?_)
  unfold S6_86
  have hagg : aLdAgg 4 (.pointer (some ⟨H.next, 0, none⟩)) H1 = some (encO e A vs p f) := by rw [aLdAgg_ptr, hb]; rfl
  rw [hagg, bnd_some']
  refine (c15 hT1 he hf (hR1.up (by omega)) hn hw).use ?_
  refine fld hb rfl _ ?_
  rw [aBin_neq, bnd_some']
  by_cases hz : e = 0
  · subst hz
    rw [show (!decide ((0 : Int) = 0)) = false from rfl, aCond_false]
    have hout : outL 0 vs p f = hdr f vs.length ++ lns vs ++ (if p = [] then [] else 10 :: 45 :: 34 :: (quo p ++ [34])) := by unfold outL; rw [if_pos rfl]
    rw [hout]
    unfold S6_85
    refine fld hb rfl _ ?_
    rw [h1, bnd_some', hl1, bnd_some', aLenSl_slice, bnd_some']
    refine (c16 f hf.lo hf.hi).use ?_
    rw [hl1, bnd_some']
    refine ⟨rfl, ?_⟩
    rw [show (.string ⟨#[111, 107, 32]⟩ : Value) = bstr [111, 107, 32] from rfl, aBin_sadd _ _ _ (by simp; omega), bnd_some', show (.string ⟨#[32]⟩ : Value) = bstr [32] from rfl, aBin_sadd _ _ _ (by simp; omega), bnd_some']
    refine (c16 (vs.length : Int) (by omega) (by omega)).use ?_
    rw [aBin_sadd _ _ _ (by simp; omega), bnd_some']
    have hhd : ([111, 107, 32] ++ Lib.itoa f ++ [32] ++ Lib.itoa (vs.length : Int)).length ≤ 100 := by simp; omega
    have hhe : [111, 107, 32] ++ Lib.itoa f ++ [32] ++ Lib.itoa (vs.length : Int) = hdr f vs.length := rfl
    rw [hhe] at hhd ⊢
    refine aLoop_vs vs.length (fun i ws H4 => i ≤ vs.length ∧ ws = [bstr (hdr f vs.length ++ lns (vs.take i)), .int .i64 (i : Nat)] ∧ H4 = H1) ⟨Nat.zero_le _, by simp [lns], rfl⟩ ?_
    rintro i ws H4 again hi ⟨_, rfl, rfl⟩ hag
    have htk := tot_take vs i
    have hll : (lns (vs.take i)).length ≤ tot vs + 2 * vs.length := by
      rw [lns_len, List.length_take]; omega
    unfold S6_83
    rw [h1, bnd_some', hl1, bnd_some', aLenSl_slice, bnd_some', nth_1, aBin_lss, bnd_some']
    refine aCond_of (fun hlt => ?_) (fun hge => ?_)
    · have hlt : i < vs.length := by have := of_decide_eq_true hlt; omega
      have hg := tot_get hlt
      unfold S6_67
      rw [nth_zero, nth_1, show (.string ⟨#[10, 32]⟩ : Value) = bstr [10, 32] from rfl, aBin_sadd _ _ _ (by simp; omega), bnd_some', h1, bnd_some', hl1, bnd_some', hR1.idx (k := .i64) (c := vs.length) (j := (i : Int)) (by omega) (by omega), bnd_some', Int.toNat_natCast, Rd.ld hR1 hlt, bnd_some', aBin_sadd _ _ _ (by simp; omega), bnd_some']
      rw [show aBin .add .no (.int .i64 (i : Int)) (.int .i64 1) = some (.int .i64 ((i + 1 : Nat) : Int)) from addN i 1 (by omega), bnd_some']
      refine hag _ _ hlt ⟨by omega, ?_, rfl⟩
      rw [lns_take hlt]
      simp
    · have hge : i = vs.length := by have := of_decide_eq_false hge; omega
      subst hge
      rw [List.take_length] at hll ⊢
      unfold S6_82
      rw [aJoin_eq]
      refine fld hb rfl _ ?_
      rw [show (.string ⟨#[]⟩ : Value) = bstr [] from rfl, str_ne, bnd_some']
      by_cases hp : p = []
      · rw [if_pos hp, decide_eq_true hp, Bool.not_true, aCond_false]
        simp only [nth_zero]
        rw [List.append_nil, str_eq, bnd_some']
        simp
      · rw [if_neg hp, decide_eq_false hp, Bool.not_false, aCond_true]
        unfold S6_81
        have hql := quo_len p
        rw [nth_zero, show (.string ⟨#[10, 45]⟩ : Value) = bstr [10, 45] from rfl, aBin_sadd _ _ _ (by simp; omega), bnd_some']
        refine fld hb rfl _ ?_
        refine (c17 p (by omega)).use ?_
        rw [aBin_sadd _ _ _ (by simp; omega), bnd_some']
        simp only [nth_zero]
        rw [str_eq, bnd_some']
        simp
  · rw [show (!decide (e = 0)) = true by rw [decide_eq_false hz]; rfl, aCond_true]
    unfold S6_40
    refine fld hb rfl _ ?_
    refine (c16 e he.lo he.hi).use ?_
    rw [show (.string ⟨#[101, 114, 114, 111, 114, 32]⟩ : Value) = bstr [101, 114, 114, 111, 114, 32] from rfl, aBin_sadd _ _ _ (by simp; omega), bnd_some', str_eq, bnd_some']
    have : outL e vs p f = [101, 114, 114, 111, 114, 32] ++ Lib.itoa e := by unfold outL; rw [if_neg hz]
    rw [this]
    simp
end Go.Proofs.YtnbnojkfhfkecaaDoor.A.U
