/- Contracts of functions that the statement reaches; each theorem carries its own conditions, the last theorem of the claim has none. -/
import Derived.Test.YtnbnojkfhfkecaaDoorEM
import Derived.Test.YtnbnojkfhfkecaaDoorCU
/- ScriptMany opened. -/
set_option linter.unusedVariables false
set_option maxRecDepth 100000
namespace Go.Proofs.YtnbnojkfhfkecaaDoor.A
open Go Go.Abs
theorem u8_wf {n : Int} (h : (Lit.int .u8 n).wf = true) : 0 ≤ n ∧ n < 256 := by
  simp [Lit.wf, IntKind.min, IntKind.max, IntKind.signed, IntKind.bits] at h
  omega
theorem c3i {H : AHeap} {a b : Int} {l : Bool} (hT : TbM H) (ha : (Lit.int .u8 a).wf = true) (hb : (Lit.int .u8 b).wf = true) :
    ACalls Tryd.prog 3 [.int .u8 a, .bool l, .int .u8 b] H fun r _ => r = .bool true := by
  obtain ⟨a0, a1⟩ := u8_wf ha
  obtain ⟨b0, b1⟩ := u8_wf hb
  have ea : a = ((a.toNat : Nat) : Int) := by omega
  have eb : b = (((UInt8.ofNat b.toNat).toNat : Nat) : Int) := by rw [UInt8.toNat_ofNat']; omega
  rw [ea, eb]
  exact (c3 hT a.toNat (by omega) l (UInt8.ofNat b.toNat)).mono fun _ _ h => h.1
end Go.Proofs.YtnbnojkfhfkecaaDoor.A
