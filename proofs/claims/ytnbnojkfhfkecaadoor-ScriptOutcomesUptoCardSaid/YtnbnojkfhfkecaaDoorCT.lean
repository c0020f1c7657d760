/- Contracts of functions that the statement reaches; each theorem carries its own conditions, the last theorem of the claim has none. -/
import Derived.Test.YtnbnojkfhfkecaaDoorC13
import Derived.Test.YtnbnojkfhfkecaaDoorAbsOp
import Derived.Test.YtnbnojkfhfkecaaDoorCards
import Derived.Lib.LaidTab
import Derived.Lib.LaidU8
/- What the row's 'laid' says of the tables; the arguments opened. -/
set_option linter.unusedVariables false
set_option maxRecDepth 100000
namespace Go.Proofs.YtnbnojkfhfkecaaDoor.A
open Go Go.Abs

theorem tabIs_of_reads {P : Program} {W : World} {name : String} {k : IntKind} {zs : List Int} {g : Nat} {t e : TypeId} {n : Nat}
    (hg : P.globalNamed name = some g) (hty : (P.globals[g]?).map (·.type) = some t) (ht : P.underlying t = some (.array n e)) (he : P.underlying e = some (.int k)) (hce : P.cellsOf e = 1) (hct : P.cellsOf t = n)
    (h : Lib.VarReads P W name (Lib.tabData k zs)) : Lib.TabIs P W name k zs := by
  obtain ⟨g', t', cs, fuel, p, hg', ht', hvar, hd⟩ := h
  obtain rfl := Option.some.inj (hg.symm.trans hg')
  obtain rfl := Option.some.inj (hty.symm.trans ht')
  unfold Lib.TabIs
  rw [hvar, ← Lib.cells_of_tab ht he hce hct hd]
theorem tabIs_heap {P : Program} {W : World} {name : String} {k : IntKind} {zs : List Int} {g : Nat} (h : Lib.TabIs P W name k zs) (hg : P.globalNamed name = some g) :
    ∃ t fr, W.heap[g]? = some (.cells (zs.map fun z => Value.int k z).toArray t fr) := by
  unfold Lib.TabIs World.var? at h
  rw [hg] at h
  simp only [Option.bind_some] at h
  split at h
  · rename_i cs t fr hh
    obtain rfl := Option.some.inj h
    exact ⟨t, fr, hh⟩
  · cases h

theorem powData_eq : (Rows.laid_internal_strconv_uint64pow10 : DataW Unit) = Lib.tabData .u64 Lib.pow10Tab := by kernel_rfl
theorem debData_eq : (Rows.laid_math_bits_deBruijn64tab : DataW Unit) = Lib.tabData .u8 deb64 := by kernel_rfl
def gtab (g : Nat) : Option (Use × List Value) := if g = 3 then some (.exact, pow10C) else if g = 7 then some (.read, deb64C) else none
theorem Tb.kept {H H' : AHeap} (h : Tb H) (k : Keep H.next H H') : Tb H' := h.keep k.next fun c hc => k.at_ c (by have := h.next; omega)
theorem tabs0 : Tb (gHeapX 8 gtab) := ⟨rfl, rfl, by decide⟩
theorem plainMap (k : IntKind) (zs : List Int) : (zs.map fun z => Value.int k z).all Abs.plainCell = true := by
  rw [List.all_map]
  exact List.all_eq_true.2 fun _ _ => rfl
theorem cellMap {P : Program} {W : World} {name : String} {k : IntKind} {zs : List Int} {g : Nat} (h : Lib.TabIs P W name k zs) (hg : P.globalNamed name = some g) (j : Nat) (hj : j < (zs.map fun z => Value.int k z).length) :
    W.cell? ⟨g, j, none⟩ = some (zs.map fun z => Value.int k z)[j] := by
  have hj' : j < zs.length := by simpa using hj
  rw [h.cell hg j hj', List.getElem_map]
  simp [List.getD, hj']
theorem tabsRel {W : World} (h1 : Lib.VarReads Tryd.prog W "internal/strconv.uint64pow10" Rows.laid_internal_strconv_uint64pow10) (h2 : Lib.VarReads Tryd.prog W "math/bits.deBruijn64tab" Rows.laid_math_bits_deBruijn64tab) :
    ∃ φ, Rel Tryd.prog.globals.size W.heap.size φ (gHeapX 8 gtab) W := by
  rw [powData_eq] at h1
  rw [debData_eq] at h2
  have t1 := tabIs_of_reads (g := 3) (t := 126) (by kernel_rfl) (by kernel_rfl) Tryd.underlying126 Tryd.underlying74 (by kernel_rfl) (by kernel_rfl) h1
  have t2 := tabIs_of_reads (g := 7) (t := 146) (by kernel_rfl) (by kernel_rfl) Tryd.underlying146 Tryd.underlying5 (by kernel_rfl) (by kernel_rfl) h2
  rw [nGlob]
  refine Rel.globalsX gtab (fun g k cs hg hc => ?_) (fun g k cs hc => ?_)
  · unfold gtab at hc
    split at hc
    · rename_i e
      subst e
      simp only [Option.some.injEq, Prod.mk.injEq] at hc
      obtain ⟨rfl, rfl⟩ := hc
      exact ⟨.inr ⟨rfl, tabIs_heap t1 (by kernel_rfl)⟩, plainMap _ _, cellMap t1 (by kernel_rfl)⟩
    · split at hc
      · rename_i e
        subst e
        simp only [Option.some.injEq, Prod.mk.injEq] at hc
        obtain ⟨rfl, rfl⟩ := hc
        exact ⟨.inl rfl, plainMap _ _, cellMap t2 (by kernel_rfl)⟩
      · cases hc
  · unfold gtab at hc
    split at hc
    · simp only [Option.some.injEq, Prod.mk.injEq] at hc
      obtain ⟨_, rfl⟩ := hc
      decide
    · split at hc
      · simp only [Option.some.injEq, Prod.mk.injEq] at hc
        obtain ⟨_, rfl⟩ := hc
        decide
      · cases hc

theorem Opens.map {Hd : Type} {enc : TypeId × Value → Hd} {P : Program} {W : World} {t : TypeId} {α β : Type} {en : α → List Value} {en2 : β → List Value} {gd : Nat → AHeap → α → Prop} {gd2 : Nat → AHeap → β → Prop} (f : α → β) (he : ∀ a, en2 (f a) = en a) (hg : ∀ lo H a, gd lo H a → gd2 lo H (f a))
    (h : Opens enc P W t α en gd) : Opens enc P W t β en2 gd2 := by
  intro fuel cs x G φ H hx hr
  obtain ⟨a, φ', H', r1, l1, v1, o1, k1, g1⟩ := h fuel cs x G φ H hx hr
  exact ⟨f a, φ', H', r1, l1, by rw [he]; exact v1, by rw [he]; exact o1, k1, hg _ _ _ g1⟩

structure LimT where
  f : Int
  c : Int
  d : Int
abbrev encLim (x : LimT) : List Value := [.int .i64 x.f, .int .i64 x.c, .int .i64 x.d]
def gdLim (_ : Nat) (_ : AHeap) (x : LimT) : Prop := I64 x.f ∧ I64 x.c ∧ I64 x.d
theorem monoLim : GdMono gdLim := fun _ _ _ _ _ h _ _ => h
theorem i64_wf {n : Int} (h : (Lit.int .i64 n).wf = true) : I64 n := by
  simp [Lit.wf, IntKind.min, IntKind.max, IntKind.signed, IntKind.bits] at h
  exact ⟨by omega, by omega⟩
section
variable {Hd : Type} {enc : TypeId × Value → Hd} {W : World}
theorem openLim : Opens enc Tryd.prog W 27 LimT encLim gdLim := by
  have h := Opens.struct Tryd.underlying27 (by kernel_rfl) (OpensF.cons (Opens.int (enc := enc) (W := W) Tryd.underlying3) (OpensF.cons (Opens.int (enc := enc) (W := W) Tryd.underlying3) (OpensF.cons (Opens.int (enc := enc) (W := W) Tryd.underlying3) OpensF.nil GdMono.const) GdMono.const) GdMono.const)
  exact Opens.map (fun (x : Int × Int × Int × Unit) => (⟨x.1, x.2.1, x.2.2.1⟩ : LimT)) (fun _ => rfl) (fun _ _ _ h => ⟨i64_wf h.1, i64_wf h.2.1, i64_wf h.2.2.1⟩) h

/-- Numbers of bytes, as bytes. -/
theorem rdBytes {lo : Nat} {H : AHeap} {A : Option Addr} {zs : List Int} (h : Rd 1 (fun n => [Value.int .u8 n]) lo H A zs) (hz : ∀ n ∈ zs, (Lit.int .u8 n).wf = true) :
    By lo H A (zs.map fun n => UInt8.ofNat n.toNat) := by
  have hf : (zs.map fun n => UInt8.ofNat n.toNat).flatMap eU = zs.flatMap (fun n => [Value.int .u8 n]) := by
    clear h
    induction zs with
    | nil => rfl
    | cons z zs ih =>
      have h0 := hz z (by simp)
      simp [Lit.wf, IntKind.min, IntKind.max, IntKind.signed, IntKind.bits] at h0
      rw [List.map_cons, List.flatMap_cons, List.flatMap_cons, ih fun n hn => hz n (by simp [hn])]
      have e : ((UInt8.ofNat z.toNat).toNat : Int) = z := by rw [UInt8.toNat_ofNat']; omega
      simp only [eU, e]
  refine ⟨by simp, ?_⟩
  rcases h.2 with ⟨rfl, rfl⟩ | ⟨b, o, cs, k, t, rfl, h2, h3, h4, h5⟩
  · exact .inl ⟨rfl, rfl⟩
  · exact .inr ⟨b, o, cs, k, t, rfl, h2, h3, by simpa using h4, by rw [hf]; simpa using h5⟩
def gdChunk (lo : Nat) (H : AHeap) (p : Chunk) : Prop := By lo H p.1 p.2
theorem monoChunk : GdMono gdChunk := fun _ _ _ _ _ h hl hk => (Rd.kept h hk).up hl
theorem openChunk : Opens enc Tryd.prog W 22 Chunk eC gdChunk := by
  have h := Opens.slice (n := 1) (enc := enc) (W := W) Tryd.underlying22 (by kernel_rfl) (by omega) (fun _ => rfl) (Opens.int Tryd.underlying5) GdMono.const
  exact Opens.map (fun (p : Option Addr × List Int) => ((p.1, p.2.map fun n : Int => UInt8.ofNat n.toNat) : Chunk)) (fun _ => by simp) (fun _ _ _ h => rdBytes h.1 h.2.1) h
def gdChs (lo : Nat) (H : AHeap) (p : Option Addr × List Chunk) : Prop := Chs lo H p.1 p.2 ∧ p.2.length ≤ maxLen
theorem monoChs : GdMono gdChs := fun _ _ _ _ _ h hl hk => ⟨(h.1.keep hk.at_).up hl, h.2⟩
theorem openChs : Opens enc Tryd.prog W 28 (Option Addr × List Chunk) (fun p => [.slice p.1 p.2.length p.2.length]) gdChs := by
  have h := Opens.slice (n := 1) (enc := enc) (W := W) Tryd.underlying28 (by kernel_rfl) (by omega) (fun _ => rfl) (openChunk (enc := enc) (W := W)) monoChunk
  exact Opens.map id (fun _ => rfl) (fun _ _ _ h => ⟨⟨h.1, h.2.1⟩, h.2.2⟩) h
end
theorem c5i {H : AHeap} {x : LimT} {p : Option Addr × List Chunk} (hT : Tb H) (hx : gdLim H.next H x) (hp : gdChs H.next H p) :
    ACalls Tryd.prog 5 [.agg (encLim x).toArray, .slice p.1 p.2.length p.2.length] H fun r _ => r = .bool true :=
  (c5 hT hx.1 hx.2.1 hx.2.2 hp.1 hp.2).mono fun _ _ h => h.1
end Go.Proofs.YtnbnojkfhfkecaaDoor.A
