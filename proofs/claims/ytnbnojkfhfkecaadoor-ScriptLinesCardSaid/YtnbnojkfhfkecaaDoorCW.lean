/- Contracts of functions that the statement reaches; each theorem carries its own conditions, the last theorem of the claim has none. -/
import Derived.Test.YtnbnojkfhfkecaaDoorEL
import Derived.Test.YtnbnojkfhfkecaaDoorCU
/- ScriptLines opened. -/
set_option linter.unusedVariables false
set_option maxRecDepth 100000
namespace Go.Proofs.YtnbnojkfhfkecaaDoor.A
open Go Go.Abs
theorem byte_wf {n : Int} (h : (Lit.int .u8 n).wf = true) : 0 ≤ n ∧ n < 256 := by
  simp [Lit.wf, IntKind.min, IntKind.max, IntKind.signed, IntKind.bits] at h
  omega
theorem c4i {H : AHeap} {x : LimT} {p : Option Addr × List Chunk} {a b : Int} (hT : TbM H) (hx : gdLim H.next H x) (hp : gdChs H.next H p) (ha : (Lit.int .u8 a).wf = true) (hb : (Lit.int .u8 b).wf = true) :
    ACalls Tryd.prog 4 [.agg (encLim x).toArray, .slice p.1 p.2.length p.2.length, .int .u8 a, .int .u8 b] H fun r _ => r = .bool true := by
  obtain ⟨a0, a1⟩ := byte_wf ha
  obtain ⟨b0, b1⟩ := byte_wf hb
  obtain ⟨m, rfl⟩ := Int.eq_ofNat_of_zero_le a0
  obtain ⟨n, rfl⟩ := Int.eq_ofNat_of_zero_le b0
  exact (c4 hT hx.1 hx.2.1 hx.2.2 hp.1 hp.2 m n (by omega) (by omega)).mono fun _ _ h => h.1
end Go.Proofs.YtnbnojkfhfkecaaDoor.A
