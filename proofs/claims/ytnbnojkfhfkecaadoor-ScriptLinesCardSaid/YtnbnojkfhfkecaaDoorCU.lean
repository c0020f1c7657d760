/- Contracts of functions that the statement reaches; each theorem carries its own conditions, the last theorem of the claim has none. -/
import Derived.Test.YtnbnojkfhfkecaaDoorEB
import Derived.Test.YtnbnojkfhfkecaaDoorCT
import Derived.Shelf.Strings.Shaped
/- The greatest length, whatever it is; ScriptBack opened. -/
set_option linter.unusedVariables false
set_option maxRecDepth 100000
namespace Go.Proofs.YtnbnojkfhfkecaaDoor.A
open Go Go.Abs

theorem maxOf {W : World} (h : W.ShapedOpen Tryd.prog) : ∃ m, W.cell? ⟨0, 0, none⟩ = some (.int .i64 m) :=
  Go.Proofs.cell_of_shapedOpen_int (zero := #[.int .i64 0]) (t := 3) h (of_decide_eq_true (by kernel_rfl)) (by kernel_rfl) rfl (by kernel_rfl) (by kernel_rfl) Tryd.underlying3
def gtab2 (m : Int) (g : Nat) : Option (Use × List Value) := if g = 0 then some (.read, [.int .i64 m]) else gtab g
theorem tabsM0 (m : Int) : TbM (gHeapX 8 (gtab2 m)) := ⟨⟨rfl, rfl, Nat.le_refl 8⟩, m, rfl⟩
theorem tabsRel2 {W : World} {m : Int} (hm : W.cell? ⟨0, 0, none⟩ = some (.int .i64 m)) (h1 : Lib.VarReads Tryd.prog W "internal/strconv.uint64pow10" Rows.laid_internal_strconv_uint64pow10) (h2 : Lib.VarReads Tryd.prog W "math/bits.deBruijn64tab" Rows.laid_math_bits_deBruijn64tab) :
    ∃ φ, Rel Tryd.prog.globals.size W.heap.size φ (gHeapX 8 (gtab2 m)) W := by
  rw [powData_eq] at h1
  rw [debData_eq] at h2
  have t1 := tabIs_of_reads (g := 3) (t := 126) (by kernel_rfl) (by kernel_rfl) Tryd.underlying126 Tryd.underlying74 (by kernel_rfl) (by kernel_rfl) h1
  have t2 := tabIs_of_reads (g := 7) (t := 146) (by kernel_rfl) (by kernel_rfl) Tryd.underlying146 Tryd.underlying5 (by kernel_rfl) (by kernel_rfl) h2
  rw [nGlob]
  refine Rel.globalsX (gtab2 m) (fun g k cs hg hc => ?_) (fun g k cs hc => ?_)
  · unfold gtab2 gtab at hc
    split at hc
    · rename_i e
      subst e
      simp only [Option.some.injEq, Prod.mk.injEq] at hc
      obtain ⟨rfl, rfl⟩ := hc
      refine ⟨.inl rfl, rfl, fun j hj => ?_⟩
      obtain rfl : j = 0 := by simp at hj; omega
      exact hm
    · split at hc
      · rename_i e
        subst e
        simp only [Option.some.injEq, Prod.mk.injEq] at hc
        obtain ⟨rfl, rfl⟩ := hc
        exact ⟨.inr ⟨rfl, tabIs_heap t1 (by kernel_rfl)⟩, plainMap _ _, cellMap t1 (by kernel_rfl)⟩
      · split at hc
        · rename_i e
          subst e
          simp only [Option.some.injEq, Prod.mk.injEq] at hc
          obtain ⟨rfl, rfl⟩ := hc
          exact ⟨.inl rfl, plainMap _ _, cellMap t2 (by kernel_rfl)⟩
        · cases hc
  · unfold gtab2 gtab at hc
    split at hc
    · simp only [Option.some.injEq, Prod.mk.injEq] at hc
      obtain ⟨_, rfl⟩ := hc
      exact Nat.le_refl 1
    · split at hc
      · simp only [Option.some.injEq, Prod.mk.injEq] at hc
        obtain ⟨_, rfl⟩ := hc
        decide
      · split at hc
        · simp only [Option.some.injEq, Prod.mk.injEq] at hc
          obtain ⟨_, rfl⟩ := hc
          decide
        · cases hc
theorem c7i {H : AHeap} {x : LimT} {p : Option Addr × List Chunk} (hT : TbM H) (hx : gdLim H.next H x) (hp : gdChs H.next H p) :
    ACalls Tryd.prog 7 [.agg (encLim x).toArray, .slice p.1 p.2.length p.2.length] H fun r _ => r = .bool true :=
  (c7 hT hx.1 hx.2.1 hx.2.2 hp.1 hp.2).mono fun _ _ h => h.1
end Go.Proofs.YtnbnojkfhfkecaaDoor.A
