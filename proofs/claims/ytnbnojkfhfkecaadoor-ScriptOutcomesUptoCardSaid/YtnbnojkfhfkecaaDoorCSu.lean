/- Contracts of functions that the statement reaches; each theorem carries its own conditions, the last theorem of the claim has none. -/
import Derived.Shelf.Unicode.DecodeAny
import Derived.Test.YtnbnojkfhfkecaaDoorProg
/- Laid by the shelf for this program (plain mode), cut by shelfcut.py. -/
namespace Go.Proofs.YtnbnojkfhfkecaaDoor.A
open Go.Shelf
def Sh.lays197_ren : Go.Shelf.Ren := ⟨fun | 197 => 42 | 260 => 64 | n => n, fun | 9 => 9 | 21 => 21 | 3 => 3 | 4 => 4 | 5 => 5 | 105 => 82 | 119 => 121 | 0 => 0 | 46 => 81 | 139 => 124 | 138 => 123 | n => n, fun | 3 => 1 | 4 => 2 | n => n⟩
theorem Sh.lays197 : Go.Proofs.Lays.n197 Tryd.prog Sh.lays197_ren := {
  mixed := by kernel_rfl
  f197 := Tryd.func42.trans (congrArg some (by kernel_rfl))
  f260 := Tryd.func64.trans (congrArg some (by kernel_rfl))
  t0 := Tryd.underlying0
  a0 := Tryd.isAgg0
  z0 := Tryd.sizeOf0
  v0 := Tryd.zeroValue0
  t3 := Tryd.underlying3
  a3 := Tryd.isAgg3
  z3 := Tryd.sizeOf3
  v3 := Tryd.zeroValue3
  t4 := Tryd.underlying4
  a4 := Tryd.isAgg4
  z4 := Tryd.sizeOf4
  v4 := Tryd.zeroValue4
  t5 := Tryd.underlying5
  a5 := Tryd.isAgg5
  z5 := Tryd.sizeOf5
  v5 := Tryd.zeroValue5
  t9 := Tryd.underlying9
  a9 := Tryd.isAgg9
  z9 := Tryd.sizeOf9
  v9 := Tryd.zeroValue9
  t21 := Tryd.underlying21
  a21 := Tryd.isAgg21
  z21 := Tryd.sizeOf21
  v21 := Tryd.zeroValue21
  t46 := Tryd.underlying81
  a46 := Tryd.isAgg81
  z46 := Tryd.sizeOf81
  v46 := Tryd.zeroValue81
  t105 := Tryd.underlying82
  a105 := Tryd.isAgg82
  z105 := Tryd.sizeOf82
  v105 := Tryd.zeroValue82
  t119 := Tryd.underlying121
  a119 := Tryd.isAgg121
  z119 := Tryd.sizeOf121
  t138 := Tryd.underlying123
  a138 := Tryd.isAgg123
  z138 := Tryd.sizeOf123
  v138 := Tryd.zeroValue123
  t139 := Tryd.underlying124
  a139 := Tryd.isAgg124
  z139 := Tryd.sizeOf124
  v139 := Tryd.zeroValue124
  g3 := by kernel_rfl
  g4 := by kernel_rfl }
open Go.RowKit Go.Lib in
/-- **unicode/utf8.DecodeRuneInString AT EVERY STRING.** (LAID: no walk: one application.) -/
theorem Sh.utf8_DecodeRuneInString (s : ByteArray) (w : World) (hT : Lib.Utf8Tabs 1 2 w) :
    Calls Tryd.prog 42 #[.string s] w fun e w' => e = .returned (.tuple #[.int .i32 (Lib.decodeGo s).1, .int .i64 (Lib.decodeGo s).2]) ∧ Below w.heap.size w w' := Any.utf8_DecodeRuneInString Sh.lays197 s w hT
end Go.Proofs.YtnbnojkfhfkecaaDoor.A
