/- Contracts of functions that the statement reaches; each theorem carries its own conditions, the last theorem of the claim has none. -/
import Derived.Test.YtliakckflcoffaaDoorU8
import Derived.Test.YtliakckflcoffaaDoorCards
import Derived.Test.YtliakckflcoffaaDoorTie
import Derived.Lib.LaidU8T
import Derived.PinnedBridge
set_option linter.unusedVariables false
namespace Go.Proofs.YtliakckflcoffaaDoor.A
open Go Go.Abs Go.Shelf
open Go.Lib (firstT accLo accHi)

def gtab (g : Nat) : Option (List Value) := if g = 1 then some firstCells else if g = 2 then some accCells else none
theorem tabs_gHeap : Tabs (gHeap 9 gtab) := ⟨by decide, rfl, rfl⟩
/-- The numbers of this program. -/
def ren : Ren := ⟨id, fun t => if t = 119 then 76 else if t = 138 then 79 else if t = 139 then 80 else t, fun g => if g = 3 then 1 else if g = 4 then 2 else g⟩
theorem u8Types : U8Types Tryd.prog ren := ⟨Tryd.underlying5, Tryd.underlying76, Tryd.underlying79, Tryd.underlying80⟩
theorem u8Extra : U8Extra Tryd.prog ren := ⟨by kernel_rfl, by kernel_rfl, by kernel_rfl, by kernel_rfl, by kernel_rfl, by kernel_rfl, by kernel_rfl⟩
theorem accData_eq : (Rows.laid_unicode_utf8_acceptRanges : DataW Unit) = Lib.acceptData := by kernel_rfl
theorem firstData_eq : Rows.laid_unicode_utf8_first = Lib.firstData := Pinned.utf8First_eq
theorem tabsRel {W : World} (h1 : Lib.VarReads Tryd.prog W "unicode/utf8.first" Rows.laid_unicode_utf8_first) (h2 : Lib.VarReads Tryd.prog W "unicode/utf8.acceptRanges" Rows.laid_unicode_utf8_acceptRanges) :
    ∃ φ, Rel Tryd.prog.globals.size W.heap.size φ (gHeap 9 gtab) W := by
  rw [firstData_eq] at h1
  rw [accData_eq] at h2
  have hT : Lib.Utf8Tabs 1 2 W := utf8Tabs_of_readsT u8Types u8Extra h1 h2
  have hG : Tryd.prog.globals.size = 9 := by kernel_rfl
  rw [hG]
  refine Rel.globals gtab (fun g cs hg hc => ?_) (fun g cs hc => ?_)
  · unfold gtab at hc
    split at hc
    · rename_i e
      subst e
      obtain rfl := Option.some.inj hc
      refine ⟨by unfold firstCells; rw [List.all_map]; exact List.all_eq_true.2 fun _ _ => rfl, fun j hj => ?_⟩
      have hj' : j < 256 := by simpa [firstCells] using hj
      rw [hT.1 j hj']
      have := firstCells_at hj'
      rw [List.getElem?_eq_getElem hj] at this
      exact this.symm
    · split at hc
      · rename_i e
        subst e
        obtain rfl := Option.some.inj hc
        refine ⟨by unfold accCells; rw [List.all_flatMap]; exact List.all_eq_true.2 fun _ _ => rfl, fun j hj => ?_⟩
        have hj' : j < 32 := by rw [accCells_len] at hj; exact hj
        have hac := accCells_at (i := j / 2) (by omega)
        obtain ⟨t1, t2⟩ := hT.2 (j / 2) (by omega)
        have hget : accCells[j]? = [Value.int .u8 (accLo (j / 2) : Nat), Value.int .u8 (accHi (j / 2) : Nat)][j % 2]? := by
          rw [← hac, List.getElem?_take, if_pos (by omega), List.getElem?_drop]
          congr 1
          omega
        rw [← List.getElem?_eq_getElem hj, hget]
        rcases Nat.mod_two_eq_zero_or_one j with hm | hm
        · rw [hm]
          have e : j = 2 * (j / 2) := by omega
          have := t1
          rw [← e] at this
          exact this
        · rw [hm]
          have e : j = 2 * (j / 2) + 1 := by omega
          have := t2
          rw [← e] at this
          exact this
      · cases hc
  · unfold gtab at hc
    split at hc
    · obtain rfl := Option.some.inj hc
      simp [firstCells]
    · split at hc
      · obtain rfl := Option.some.inj hc
        rw [accCells_len]; decide
      · cases hc
theorem rdNat {lo : Nat} {H : AHeap} {A : Option Addr} {zs : List Int} (h : Rd 1 (fun n => [Value.int .u8 n]) lo H A zs) (hz : ∀ n ∈ zs, (Lit.int .u8 n).wf = true) :
    BytesN lo H A (zs.map Int.toNat) ∧ (∀ x ∈ zs.map Int.toNat, x < 256) ∧ (zs.map Int.toNat).length = zs.length := by
  have hz' : ∀ n ∈ zs, 0 ≤ n ∧ n < 256 := fun n hn => by
    have := hz n hn
    simp [Lit.wf, IntKind.min, IntKind.max, IntKind.signed, IntKind.bits] at this
    omega
  refine ⟨?_, ?_, by simp⟩
  · have hf : (zs.map Int.toNat).flatMap eN = zs.flatMap (fun n => [Value.int .u8 n]) := by
      clear h hz
      induction zs with
      | nil => rfl
      | cons z zs ih =>
        have h0 := (hz' z (by simp)).1
        rw [List.map_cons, List.flatMap_cons, List.flatMap_cons, ih fun n hn => hz' n (by simp [hn])]
        simp only [eN, Int.toNat_of_nonneg h0]
    refine ⟨by simp, ?_⟩
    rcases h.2 with ⟨rfl, rfl⟩ | ⟨b, o, cs, k, t, rfl, h2, h3, h4, h5⟩
    · exact .inl ⟨rfl, rfl⟩
    · exact .inr ⟨b, o, cs, k, t, rfl, h2, h3, by simpa using h4, by rw [hf]; simpa using h5⟩
  · intro x hx
    obtain ⟨n, hn, rfl⟩ := List.mem_map.1 hx
    have := hz' n hn
    omega
end Go.Proofs.YtliakckflcoffaaDoor.A
