/- Contracts of functions that the statement reaches; each theorem carries its own conditions, the last theorem of the claim has none. -/
import Derived.Test.YtnbnojkfhfkecaaDoorPC
import Derived.Test.YtnbnojkfhfkecaaDoorCT
import Derived.Lib.LaidU8T
import Derived.PinnedBridge
/- What the row's 'laid' says of the tables; the argument opened, within the bulk. -/
set_option linter.unusedVariables false
set_option maxRecDepth 100000
namespace Go.Proofs.YtnbnojkfhfkecaaDoor.A.U
open Go Go.Abs Go.Shelf
open Go.Lib (firstT accLo accHi)

theorem weighs {H : Type} : Weighs (Rows.uptoBulk (H := H)) := by
  have hall : ∀ ps : List (DataW H), (ps.map Rows.uptoBulk).sum = Rows.uptoBulkAll ps := by
    intro ps
    induction ps with
    | nil => simp [Rows.uptoBulkAll]
    | cons p ps ih => simp only [Rows.uptoBulkAll, List.map_cons, List.sum_cons, ih]
  refine ⟨fun bytes => ?_, fun els sp => ?_, fun ps => ?_⟩
  · simp only [Rows.uptoBulk]; omega
  · simp only [Rows.uptoBulk, hall]; omega
  · simp only [Rows.uptoBulk, hall]; omega
theorem bulk_all {H : Type} {d : DataW H} : ∀ {l : List (DataW H)}, d ∈ l → Rows.uptoBulk d ≤ Rows.uptoBulkAll l
  | [], h => by cases h
  | x :: r, h => by
    simp only [Rows.uptoBulkAll]
    rcases List.mem_cons.1 h with e | e
    · subst e; omega
    · have := bulk_all e; omega
theorem bulk_part {H : Type} {l : List (DataW H)} {d : DataW H} (hd : d ∈ l) (hk : Rows.uptoSmall H l = true) : Rows.uptoBulk d ≤ 1048576 :=
  Nat.le_trans (bulk_all hd) (of_decide_eq_true hk)

structure OutT where
  e : Int
  A : Option Addr
  vs : List (List UInt8)
  p : List UInt8
  f : Int
abbrev encOut (x : OutT) : List Value := [.int .i64 x.e, .slice x.A x.vs.length x.vs.length, bstr x.p, .int .i64 x.f]
def gdOut (lo : Nat) (H : AHeap) (x : OutT) : Prop := I64 x.e ∧ I64 x.f ∧ Strs lo H x.A x.vs
def gdOutB (lo : Nat) (H : AHeap) (x : OutT) : Prop := gdOut lo H x ∧ tot x.vs + x.vs.length + x.p.length ≤ 1048576
theorem monoOut : GdMono gdOutB := fun _ _ _ _ _ h hl hk => ⟨⟨h.1.1, h.1.2.1, (Rd.kept h.1.2.2 hk).up hl⟩, h.2⟩
theorem flat_one : ∀ xs : List (List UInt8), xs.flatMap eS = xs.map bstr
  | [] => rfl
  | x :: xs => by rw [List.flatMap_cons, flat_one xs]; rfl
section
variable {Hd : Type} {enc : TypeId × Value → Hd} {W : World}
theorem openStr : OpensW (Rows.uptoBulk (H := Hd)) enc Tryd.prog W 9 (List UInt8) eS (fun _ _ _ => True) (fun l => l.length + 1) := by
  refine OpensW.map (fun s : ByteArray => s.data.toList) (fun s => rfl) (fun _ _ _ _ => trivial) (fun s => ?_) (OpensW.string weighs Tryd.underlying9)
  rw [Array.length_toList]
  exact Nat.le_refl _
theorem tot_more : ∀ vs : List (List UInt8), (vs.map fun l => l.length + 1).sum = tot vs + vs.length
  | [] => rfl
  | v :: vs => by
    have ih := tot_more vs
    unfold tot at ih ⊢
    simp only [List.map_cons, List.sum_cons, List.length_cons, ih]
    omega
theorem openStrs : OpensW (Rows.uptoBulk (H := Hd)) enc Tryd.prog W 35 (Option Addr × List (List UInt8)) (fun p => [.slice p.1 p.2.length p.2.length]) (fun lo H p => Strs lo H p.1 p.2) (fun p => tot p.2 + p.2.length) := by
  refine OpensW.map id (fun _ => rfl) (fun _ _ _ h => h.1) (fun p => Nat.le_of_eq (tot_more p.2).symm) (OpensW.slice (n := 1) weighs Tryd.underlying35 (by kernel_rfl) (by decide) (fun _ => rfl) (openStr (enc := enc) (W := W)) GdMono.const)
theorem openOut (fuel : Nat) (cs : List Value) (x : DataW Hd × List MemPlace) (G : Nat) (φ : Phi) (H : AHeap) (hx : DataW.trod enc Tryd.prog W 0 (fun _ => true) true fuel 41 cs = some x) (hr : Rel G W.heap.size φ H W) (hb : Rows.uptoBulk x.1 ≤ 1048576) :
    ∃ a φ' H', Rel G W.heap.size φ' H' W ∧ φ.le φ' ∧ VRels φ' (encOut a) cs ∧ (∀ v ∈ encOut a, okCell v = true) ∧ Keep H.next H H' ∧ gdOutB H'.next H' a := by
  have mS : GdMono (fun lo H (p : Option Addr × List (List UInt8)) => Strs lo H p.1 p.2) := fun _ _ _ _ _ h hl hk => (Rd.kept h hk).up hl
  have h := OpensW.struct (enc := enc) (W := W) (weighs (H := Hd)) Tryd.underlying41 (by kernel_rfl) (OpensWF.cons (OpensW.of (Opens.int Tryd.underlying23)) (OpensWF.cons openStrs (OpensWF.cons openStr (OpensWF.cons (OpensW.of (Opens.int Tryd.underlying3)) OpensWF.nil GdMono.const) GdMono.const) mS) GdMono.const)
  obtain ⟨⟨e, ⟨A, vs⟩, p, f, u⟩, φ', H', r1, l1, v1, o1, k1, ⟨g1, g2, g3, g4, _⟩, w1⟩ := h fuel cs x G φ H hx hr
  refine ⟨⟨e, A, vs, p, f⟩, φ', H', r1, l1, v1, o1, k1, ⟨⟨i64_wf g1, i64_wf g4, g2⟩, ?_⟩⟩
  have w1' : 0 + (tot vs + vs.length + (p.length + 1 + (0 + 0))) ≤ Rows.uptoBulk x.1 := w1
  show tot vs + vs.length + p.length ≤ 1048576
  omega
end

/-! The tables. -/
def gtab3 (g : Nat) : Option (Use × List Value) := if g = 1 then some (.read, firstCells) else if g = 2 then some (.read, accCells) else gtab g
theorem tabsU : TbU (gHeapX 8 gtab3) := ⟨⟨rfl, rfl, by decide⟩, rfl, rfl⟩
def ren : Ren := ⟨id, fun t => if t = 119 then 121 else if t = 138 then 123 else if t = 139 then 124 else t, fun g => if g = 3 then 1 else if g = 4 then 2 else g⟩
theorem u8Types : U8Types Tryd.prog ren := ⟨Tryd.underlying5, Tryd.underlying121, Tryd.underlying123, Tryd.underlying124⟩
theorem u8Extra : U8Extra Tryd.prog ren := ⟨by kernel_rfl, by kernel_rfl, by kernel_rfl, by kernel_rfl, by kernel_rfl, by kernel_rfl, by kernel_rfl⟩
theorem accData_eq : (Rows.laid_unicode_utf8_acceptRanges : DataW Unit) = Lib.acceptData := by kernel_rfl
theorem firstData_eq : Rows.laid_unicode_utf8_first = Lib.firstData := Pinned.utf8First_eq
theorem tabsRel {W : World} (h1 : Lib.VarReads Tryd.prog W "internal/strconv.uint64pow10" Rows.laid_internal_strconv_uint64pow10) (h2 : Lib.VarReads Tryd.prog W "math/bits.deBruijn64tab" Rows.laid_math_bits_deBruijn64tab)
    (h3 : Lib.VarReads Tryd.prog W "unicode/utf8.first" Rows.laid_unicode_utf8_first) (h4 : Lib.VarReads Tryd.prog W "unicode/utf8.acceptRanges" Rows.laid_unicode_utf8_acceptRanges) :
    ∃ φ, Rel Tryd.prog.globals.size W.heap.size φ (gHeapX 8 gtab3) W := by
  rw [powData_eq] at h1
  rw [debData_eq] at h2
  rw [firstData_eq] at h3
  rw [accData_eq] at h4
  have t1 := tabIs_of_reads (g := 3) (t := 126) (by kernel_rfl) (by kernel_rfl) Tryd.underlying126 Tryd.underlying74 (by kernel_rfl) (by kernel_rfl) h1
  have t2 := tabIs_of_reads (g := 7) (t := 146) (by kernel_rfl) (by kernel_rfl) Tryd.underlying146 Tryd.underlying5 (by kernel_rfl) (by kernel_rfl) h2
  have hT : Lib.Utf8Tabs 1 2 W := utf8Tabs_of_readsT u8Types u8Extra h3 h4
  rw [nGlob]
  refine Rel.globalsX gtab3 (fun g k cs hg hc => ?_) (fun g k cs hc => ?_)
  · unfold gtab3 at hc
    split at hc
    · rename_i e
      subst e
      simp only [Option.some.injEq, Prod.mk.injEq] at hc
      obtain ⟨rfl, rfl⟩ := hc
      refine ⟨.inl rfl, by unfold firstCells; rw [List.all_map]; exact List.all_eq_true.2 fun _ _ => rfl, fun j hj => ?_⟩
      have hj' : j < 256 := by simpa [firstCells] using hj
      rw [hT.1 j hj']
      have := firstCells_at hj'
      rw [List.getElem?_eq_getElem hj] at this
      exact this.symm
    · split at hc
      · rename_i e
        subst e
        simp only [Option.some.injEq, Prod.mk.injEq] at hc
        obtain ⟨rfl, rfl⟩ := hc
        refine ⟨.inl rfl, by unfold accCells; rw [List.all_flatMap]; exact List.all_eq_true.2 fun _ _ => rfl, fun j hj => ?_⟩
        have hj' : j < 32 := by rw [accCells_len] at hj; exact hj
        have hac := accCells_at (i := j / 2) (by omega)
        obtain ⟨t1, t2⟩ := hT.2 (j / 2) (by omega)
        have hget : accCells[j]? = [Value.int .u8 (accLo (j / 2) : Nat), Value.int .u8 (accHi (j / 2) : Nat)][j % 2]? := by
          rw [← hac, List.getElem?_take, if_pos (by omega), List.getElem?_drop]
          congr 1
          omega
        rw [← List.getElem?_eq_getElem hj, hget]
        rcases Nat.mod_two_eq_zero_or_one j with hm | hm
        · rw [hm]
          have e : j = 2 * (j / 2) := by omega
          have := t1
          rw [← e] at this
          exact this
        · rw [hm]
          have e : j = 2 * (j / 2) + 1 := by omega
          have := t2
          rw [← e] at this
          exact this
      · unfold gtab at hc
        split at hc
        · rename_i e
          subst e
          simp only [Option.some.injEq, Prod.mk.injEq] at hc
          obtain ⟨rfl, rfl⟩ := hc
          exact ⟨.inr ⟨rfl, tabIs_heap t1 (by kernel_rfl)⟩, plainMap _ _, cellMap t1 (by kernel_rfl)⟩
        · split at hc
          · rename_i e
            subst e
            simp only [Option.some.injEq, Prod.mk.injEq] at hc
            obtain ⟨rfl, rfl⟩ := hc
            exact ⟨.inl rfl, plainMap _ _, cellMap t2 (by kernel_rfl)⟩
          · cases hc
  · unfold gtab3 at hc
    split at hc
    · simp only [Option.some.injEq, Prod.mk.injEq] at hc
      obtain ⟨_, rfl⟩ := hc
      simp [firstCells]
    · split at hc
      · simp only [Option.some.injEq, Prod.mk.injEq] at hc
        obtain ⟨_, rfl⟩ := hc
        rw [accCells_len]; decide
      · unfold gtab at hc
        split at hc
        · simp only [Option.some.injEq, Prod.mk.injEq] at hc
          obtain ⟨_, rfl⟩ := hc
          decide
        · split at hc
          · simp only [Option.some.injEq, Prod.mk.injEq] at hc
            obtain ⟨_, rfl⟩ := hc
            decide
          · cases hc
theorem c6i {H : AHeap} {x : OutT} (hT : TbU H) (hx : gdOutB H.next H x) : ACalls Tryd.prog 6 [.agg (encOut x).toArray] H fun r _ => r = .bool true := by
  obtain ⟨⟨h1, h2, h3⟩, h4⟩ := hx
  exact c6 hT h1 h2 h3 (by omega) (by omega)
end Go.Proofs.YtnbnojkfhfkecaaDoor.A.U
