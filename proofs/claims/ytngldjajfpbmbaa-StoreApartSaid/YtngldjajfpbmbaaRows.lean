/-
  NARROWER THAN 'FOR EVERY INPUT', by the rows' own cells (each row's printed sentence says how): StoreApart: loops.
  DERIVED. THE GIVEN ROWS OF THIS SEAT. 10 by the template 'for every input the law returns true; each argument reads behind the call as it read before'; 0 by the template 'total and deterministic' (their statements: YtngldjajfpbmbaaTotals.lean).
  GIVEN WITH THE SEED: the statements are not yours to turn. If you find one false, say at which input.
  Laid BY PROGRAM, IN A SANDBOX (cutbox-rows.mjs): the forced cells as the released guide's own fill.sh prints them over the translation 1ac92390f8da3d5d… (all of the seat's roots in one cut). By AI agents, Wed Nov 11 2026. No macro, syntax, notation, axiom, sorry.
-/
import Derived.Test.YtngldjajfpbmbaaChecked
import GoSem.Claim
import GoSem.ClaimJoined
import GoSem.ClaimMapViews
import Derived.JoinedTies
import Derived.KernelRfl
namespace Go.Proofs.Ytngldjajfpbmbaa
/- THE CELL 'sum', in the pinned program and in every row, IS THE sha256 OF THE DUMP (.gsa) THAT YtngldjajfpbmbaaProg.lean LOADS. Nothing in Lean hashes anything: it is a label: what it is worth is what the hold of that sum in a sandbox is worth. -/
noncomputable def Try.pinned : Pinned := { name := "ytngldjajfpbmbaa", sum := "1ac92390f8da3d5d0579ac0ac45afcf998bd632f1703c5c4e5dbb48cc8f8e7e2", checked := Try.checked }
namespace Rows
def none {H : Type} : Left H := { results := [], args := [] }

/-- 'marginalialaw06.StoreLeft': WHATEVER THE INPUT: true; the input reads as it did. -/
def storeLeftSpec : ChangeSpec := { name := "storeLeft", fn := fun _ => fun
  | [d1, d2] => { results := [.lit (.bool true)], args := [d1, d2] }
  | _ => none }
def storeLeftRow : OpenClaim := { program := "ytngldjajfpbmbaa", sum := "1ac92390f8da3d5d0579ac0ac45afcf998bd632f1703c5c4e5dbb48cc8f8e7e2", func := "marginalia/marginalialaw06.StoreLeft", spec := "storeLeft", unfollowed := true, recurses := true, apart := false }
def StoreLeftSaid : Prop := storeLeftRow.holds Try.pinned (OpenSpec.ofChange storeLeftSpec)

/-- ITS FALSE NEIGHBOUR: 'it returns false'. Refute it at one input. -/
def storeLeftWrong : ChangeSpec := { name := "storeLeft", fn := fun _ => fun
  | [d1, d2] => { results := [.lit (.bool false)], args := [d1, d2] }
  | _ => none }
def StoreLeftWrongFalsely : Prop := storeLeftRow.holds Try.pinned (OpenSpec.ofChange storeLeftWrong)

/-- 'marginalialaw06.StoreRings': WHATEVER THE INPUT: true; the input reads as it did. -/
def storeRingsSpec : ChangeSpec := { name := "storeRings", fn := fun _ => fun
  | [d1, d2] => { results := [.lit (.bool true)], args := [d1, d2] }
  | _ => none }
def storeRingsRow : OpenClaim := { program := "ytngldjajfpbmbaa", sum := "1ac92390f8da3d5d0579ac0ac45afcf998bd632f1703c5c4e5dbb48cc8f8e7e2", func := "marginalia/marginalialaw06.StoreRings", spec := "storeRings", unfollowed := true, recurses := true, apart := false }
def StoreRingsSaid : Prop := storeRingsRow.holds Try.pinned (OpenSpec.ofChange storeRingsSpec)

/-- ITS FALSE NEIGHBOUR: 'it returns false'. Refute it at one input. -/
def storeRingsWrong : ChangeSpec := { name := "storeRings", fn := fun _ => fun
  | [d1, d2] => { results := [.lit (.bool false)], args := [d1, d2] }
  | _ => none }
def StoreRingsWrongFalsely : Prop := storeRingsRow.holds Try.pinned (OpenSpec.ofChange storeRingsWrong)

/-- 'marginalialaw07.SameBuilt': WHATEVER THE INPUT: true; the input reads as it did. -/
def sameBuiltSpec : ChangeSpec := { name := "sameBuilt", fn := fun _ => fun
  | [d1, d2, d3] => { results := [.lit (.bool true)], args := [d1, d2, d3] }
  | _ => none }
def sameBuiltRow : OpenClaim := { program := "ytngldjajfpbmbaa", sum := "1ac92390f8da3d5d0579ac0ac45afcf998bd632f1703c5c4e5dbb48cc8f8e7e2", func := "marginalia/marginalialaw07.SameBuilt", spec := "sameBuilt", unfollowed := true, recurses := true, apart := false }
def SameBuiltSaid : Prop := sameBuiltRow.holds Try.pinned (OpenSpec.ofChange sameBuiltSpec)

/-- ITS FALSE NEIGHBOUR: 'it returns false'. Refute it at one input. -/
def sameBuiltWrong : ChangeSpec := { name := "sameBuilt", fn := fun _ => fun
  | [d1, d2, d3] => { results := [.lit (.bool false)], args := [d1, d2, d3] }
  | _ => none }
def SameBuiltWrongFalsely : Prop := sameBuiltRow.holds Try.pinned (OpenSpec.ofChange sameBuiltWrong)

/-- 'marginalialaw06.StoreNames': WHATEVER THE INPUT: true; the input reads as it did. -/
def storeNamesSpec : ChangeSpec := { name := "storeNames", fn := fun _ => fun
  | [d] => { results := [.lit (.bool true)], args := [d] }
  | _ => none }
def storeNamesRow : OpenClaim := { program := "ytngldjajfpbmbaa", sum := "1ac92390f8da3d5d0579ac0ac45afcf998bd632f1703c5c4e5dbb48cc8f8e7e2", func := "marginalia/marginalialaw06.StoreNames", spec := "storeNames", unfollowed := true, recurses := true, apart := false }
def StoreNamesSaid : Prop := storeNamesRow.holds Try.pinned (OpenSpec.ofChange storeNamesSpec)

/-- ITS FALSE NEIGHBOUR: 'it returns false'. Refute it at one input. -/
def storeNamesWrong : ChangeSpec := { name := "storeNames", fn := fun _ => fun
  | [d] => { results := [.lit (.bool false)], args := [d] }
  | _ => none }
def StoreNamesWrongFalsely : Prop := storeNamesRow.holds Try.pinned (OpenSpec.ofChange storeNamesWrong)

/-- 'marginalialaw07.SameTells': WHATEVER THE INPUT: true; the input reads as it did. -/
def sameTellsSpec : ChangeSpec := { name := "sameTells", fn := fun _ => fun
  | [d1, d2, d3, d4] => { results := [.lit (.bool true)], args := [d1, d2, d3, d4] }
  | _ => none }
def sameTellsRow : OpenClaim := { program := "ytngldjajfpbmbaa", sum := "1ac92390f8da3d5d0579ac0ac45afcf998bd632f1703c5c4e5dbb48cc8f8e7e2", func := "marginalia/marginalialaw07.SameTells", spec := "sameTells", unfollowed := true, recurses := true, apart := false }
def SameTellsSaid : Prop := sameTellsRow.holds Try.pinned (OpenSpec.ofChange sameTellsSpec)

/-- ITS FALSE NEIGHBOUR: 'it returns false'. Refute it at one input. -/
def sameTellsWrong : ChangeSpec := { name := "sameTells", fn := fun _ => fun
  | [d1, d2, d3, d4] => { results := [.lit (.bool false)], args := [d1, d2, d3, d4] }
  | _ => none }
def SameTellsWrongFalsely : Prop := sameTellsRow.holds Try.pinned (OpenSpec.ofChange sameTellsWrong)

/-- 'marginalialaw07.SameBoth': WHATEVER THE INPUT: true; the input reads as it did. -/
def sameBothSpec : ChangeSpec := { name := "sameBoth", fn := fun _ => fun
  | [d1, d2, d3, d4] => { results := [.lit (.bool true)], args := [d1, d2, d3, d4] }
  | _ => none }
def sameBothRow : OpenClaim := { program := "ytngldjajfpbmbaa", sum := "1ac92390f8da3d5d0579ac0ac45afcf998bd632f1703c5c4e5dbb48cc8f8e7e2", func := "marginalia/marginalialaw07.SameBoth", spec := "sameBoth", unfollowed := true, recurses := true, apart := false }
def SameBothSaid : Prop := sameBothRow.holds Try.pinned (OpenSpec.ofChange sameBothSpec)

/-- ITS FALSE NEIGHBOUR: 'it returns false'. Refute it at one input. -/
def sameBothWrong : ChangeSpec := { name := "sameBoth", fn := fun _ => fun
  | [d1, d2, d3, d4] => { results := [.lit (.bool false)], args := [d1, d2, d3, d4] }
  | _ => none }
def SameBothWrongFalsely : Prop := sameBothRow.holds Try.pinned (OpenSpec.ofChange sameBothWrong)

/-- 'marginalialaw07.SameRound': WHATEVER THE INPUT: true; the input reads as it did. -/
def sameRoundSpec : ChangeSpec := { name := "sameRound", fn := fun _ => fun
  | [d1, d2, d3] => { results := [.lit (.bool true)], args := [d1, d2, d3] }
  | _ => none }
def sameRoundRow : OpenClaim := { program := "ytngldjajfpbmbaa", sum := "1ac92390f8da3d5d0579ac0ac45afcf998bd632f1703c5c4e5dbb48cc8f8e7e2", func := "marginalia/marginalialaw07.SameRound", spec := "sameRound", unfollowed := true, recurses := true, apart := false }
def SameRoundSaid : Prop := sameRoundRow.holds Try.pinned (OpenSpec.ofChange sameRoundSpec)

/-- ITS FALSE NEIGHBOUR: 'it returns false'. Refute it at one input. -/
def sameRoundWrong : ChangeSpec := { name := "sameRound", fn := fun _ => fun
  | [d1, d2, d3] => { results := [.lit (.bool false)], args := [d1, d2, d3] }
  | _ => none }
def SameRoundWrongFalsely : Prop := sameRoundRow.holds Try.pinned (OpenSpec.ofChange sameRoundWrong)

/-- 'marginalialaw06.StoreSound': WHATEVER THE INPUT: true; the input reads as it did. -/
def storeSoundSpec : ChangeSpec := { name := "storeSound", fn := fun _ => fun
  | [d1, d2] => { results := [.lit (.bool true)], args := [d1, d2] }
  | _ => none }
def storeSoundRow : OpenClaim := { program := "ytngldjajfpbmbaa", sum := "1ac92390f8da3d5d0579ac0ac45afcf998bd632f1703c5c4e5dbb48cc8f8e7e2", func := "marginalia/marginalialaw06.StoreSound", spec := "storeSound", unfollowed := true, recurses := true, apart := false }
def StoreSoundSaid : Prop := storeSoundRow.holds Try.pinned (OpenSpec.ofChange storeSoundSpec)

/-- ITS FALSE NEIGHBOUR: 'it returns false'. Refute it at one input. -/
def storeSoundWrong : ChangeSpec := { name := "storeSound", fn := fun _ => fun
  | [d1, d2] => { results := [.lit (.bool false)], args := [d1, d2] }
  | _ => none }
def StoreSoundWrongFalsely : Prop := storeSoundRow.holds Try.pinned (OpenSpec.ofChange storeSoundWrong)

/-- 'marginalialaw06.StoreActs': WHATEVER THE INPUT: true; the input reads as it did. -/
def storeActsSpec : ChangeSpec := { name := "storeActs", fn := fun _ => fun
  | [d1, d2] => { results := [.lit (.bool true)], args := [d1, d2] }
  | _ => none }
def storeActsRow : OpenClaim := { program := "ytngldjajfpbmbaa", sum := "1ac92390f8da3d5d0579ac0ac45afcf998bd632f1703c5c4e5dbb48cc8f8e7e2", func := "marginalia/marginalialaw06.StoreActs", spec := "storeActs", unfollowed := true, recurses := true, apart := false }
def StoreActsSaid : Prop := storeActsRow.holds Try.pinned (OpenSpec.ofChange storeActsSpec)

/-- ITS FALSE NEIGHBOUR: 'it returns false'. Refute it at one input. -/
def storeActsWrong : ChangeSpec := { name := "storeActs", fn := fun _ => fun
  | [d1, d2] => { results := [.lit (.bool false)], args := [d1, d2] }
  | _ => none }
def StoreActsWrongFalsely : Prop := storeActsRow.holds Try.pinned (OpenSpec.ofChange storeActsWrong)

/-- 'marginalialaw06.StoreApart': WHATEVER THE INPUT: true; the input reads as it did. -/
def storeApartSpec : ChangeSpec := { name := "storeApart", fn := fun _ => fun
  | [d1, d2] => { results := [.lit (.bool true)], args := [d1, d2] }
  | _ => none }
def storeApartRow : OpenClaim := { program := "ytngldjajfpbmbaa", sum := "1ac92390f8da3d5d0579ac0ac45afcf998bd632f1703c5c4e5dbb48cc8f8e7e2", func := "marginalia/marginalialaw06.StoreApart", spec := "storeApart", unfollowed := true, recurses := true, loops := true, apart := false }
def StoreApartSaid : Prop := storeApartRow.holds Try.pinned (OpenSpec.ofChange storeApartSpec)

/-- ITS FALSE NEIGHBOUR: 'it returns false'. Refute it at one input. -/
def storeApartWrong : ChangeSpec := { name := "storeApart", fn := fun _ => fun
  | [d1, d2] => { results := [.lit (.bool false)], args := [d1, d2] }
  | _ => none }
def StoreApartWrongFalsely : Prop := storeApartRow.holds Try.pinned (OpenSpec.ofChange storeApartWrong)

/- THE SECOND FORM. 'bulk': how many values and letters a reading holds, each counted each time it is reached (what is shared counts as often as it is met; a slice's spare places count too). A statement '..UptoSaid' is the law's where the arguments, and the package variables that the reading takes, are together of bulk at most 1048576: NARROWER than '..Said'. Prove '..Said' where nothing that the law and all that it calls make is longer than what came in: it says more and counts as full. Else prove '..UptoSaid'. A law counts once. -/
mutual
def uptoBulk {H : Type} : DataW H → Nat
  | .lit (.string bytes) => bytes.length + 1
  | .lit _ => 1
  | .nil => 1
  | .ptr d => uptoBulk d + 1
  | .slice elems spare => uptoBulkAll elems + uptoBulkAll spare + 1
  | .agg parts => uptoBulkAll parts + 1
  | .iface _ d => uptoBulk d + 1
  | .map entries => uptoBulkEntries entries + 1
  | .held _ => 1
def uptoBulkAll {H : Type} : List (DataW H) → Nat
  | [] => 0
  | d :: r => uptoBulk d + uptoBulkAll r
def uptoBulkEntries {H : Type} : List (Lit × DataW H) → Nat
  | [] => 0
  | x :: r => uptoBulkEntry x + uptoBulkEntries r
def uptoBulkEntry {H : Type} : Lit × DataW H → Nat
  | (.string bytes, d) => bytes.length + uptoBulk d + 1
  | (_, d) => uptoBulk d + 1
 end
def uptoSmall : (H : Type) → List (DataW H) → Bool := fun _ ds => decide (uptoBulkAll ds ≤ 1048576)
def OpenSpec.upto (s : _root_.Go.ChangeSpec) : _root_.Go.OpenSpec := { _root_.Go.OpenSpec.ofChange s with cond := some uptoSmall }

/-- 'marginalialaw06.StoreLeft', WHERE WHAT IT READS IS OF BULK AT MOST 1048576: true; the input reads as it did. -/
def storeLeftUptoRow : OpenClaim := { program := "ytngldjajfpbmbaa", sum := "1ac92390f8da3d5d0579ac0ac45afcf998bd632f1703c5c4e5dbb48cc8f8e7e2", func := "marginalia/marginalialaw06.StoreLeft", spec := "storeLeft", unfollowed := true, recurses := true, apart := false, narrowed := true }
def StoreLeftUptoSaid : Prop := storeLeftUptoRow.holds Try.pinned (OpenSpec.upto storeLeftSpec)

/-- 'marginalialaw06.StoreRings', WHERE WHAT IT READS IS OF BULK AT MOST 1048576: true; the input reads as it did. -/
def storeRingsUptoRow : OpenClaim := { program := "ytngldjajfpbmbaa", sum := "1ac92390f8da3d5d0579ac0ac45afcf998bd632f1703c5c4e5dbb48cc8f8e7e2", func := "marginalia/marginalialaw06.StoreRings", spec := "storeRings", unfollowed := true, recurses := true, apart := false, narrowed := true }
def StoreRingsUptoSaid : Prop := storeRingsUptoRow.holds Try.pinned (OpenSpec.upto storeRingsSpec)

/-- 'marginalialaw07.SameBuilt', WHERE WHAT IT READS IS OF BULK AT MOST 1048576: true; the input reads as it did. -/
def sameBuiltUptoRow : OpenClaim := { program := "ytngldjajfpbmbaa", sum := "1ac92390f8da3d5d0579ac0ac45afcf998bd632f1703c5c4e5dbb48cc8f8e7e2", func := "marginalia/marginalialaw07.SameBuilt", spec := "sameBuilt", unfollowed := true, recurses := true, apart := false, narrowed := true }
def SameBuiltUptoSaid : Prop := sameBuiltUptoRow.holds Try.pinned (OpenSpec.upto sameBuiltSpec)

/-- 'marginalialaw06.StoreNames', WHERE WHAT IT READS IS OF BULK AT MOST 1048576: true; the input reads as it did. -/
def storeNamesUptoRow : OpenClaim := { program := "ytngldjajfpbmbaa", sum := "1ac92390f8da3d5d0579ac0ac45afcf998bd632f1703c5c4e5dbb48cc8f8e7e2", func := "marginalia/marginalialaw06.StoreNames", spec := "storeNames", unfollowed := true, recurses := true, apart := false, narrowed := true }
def StoreNamesUptoSaid : Prop := storeNamesUptoRow.holds Try.pinned (OpenSpec.upto storeNamesSpec)

/-- 'marginalialaw07.SameTells', WHERE WHAT IT READS IS OF BULK AT MOST 1048576: true; the input reads as it did. -/
def sameTellsUptoRow : OpenClaim := { program := "ytngldjajfpbmbaa", sum := "1ac92390f8da3d5d0579ac0ac45afcf998bd632f1703c5c4e5dbb48cc8f8e7e2", func := "marginalia/marginalialaw07.SameTells", spec := "sameTells", unfollowed := true, recurses := true, apart := false, narrowed := true }
def SameTellsUptoSaid : Prop := sameTellsUptoRow.holds Try.pinned (OpenSpec.upto sameTellsSpec)

/-- 'marginalialaw07.SameBoth', WHERE WHAT IT READS IS OF BULK AT MOST 1048576: true; the input reads as it did. -/
def sameBothUptoRow : OpenClaim := { program := "ytngldjajfpbmbaa", sum := "1ac92390f8da3d5d0579ac0ac45afcf998bd632f1703c5c4e5dbb48cc8f8e7e2", func := "marginalia/marginalialaw07.SameBoth", spec := "sameBoth", unfollowed := true, recurses := true, apart := false, narrowed := true }
def SameBothUptoSaid : Prop := sameBothUptoRow.holds Try.pinned (OpenSpec.upto sameBothSpec)

/-- 'marginalialaw07.SameRound', WHERE WHAT IT READS IS OF BULK AT MOST 1048576: true; the input reads as it did. -/
def sameRoundUptoRow : OpenClaim := { program := "ytngldjajfpbmbaa", sum := "1ac92390f8da3d5d0579ac0ac45afcf998bd632f1703c5c4e5dbb48cc8f8e7e2", func := "marginalia/marginalialaw07.SameRound", spec := "sameRound", unfollowed := true, recurses := true, apart := false, narrowed := true }
def SameRoundUptoSaid : Prop := sameRoundUptoRow.holds Try.pinned (OpenSpec.upto sameRoundSpec)

/-- 'marginalialaw06.StoreSound', WHERE WHAT IT READS IS OF BULK AT MOST 1048576: true; the input reads as it did. -/
def storeSoundUptoRow : OpenClaim := { program := "ytngldjajfpbmbaa", sum := "1ac92390f8da3d5d0579ac0ac45afcf998bd632f1703c5c4e5dbb48cc8f8e7e2", func := "marginalia/marginalialaw06.StoreSound", spec := "storeSound", unfollowed := true, recurses := true, apart := false, narrowed := true }
def StoreSoundUptoSaid : Prop := storeSoundUptoRow.holds Try.pinned (OpenSpec.upto storeSoundSpec)

/-- 'marginalialaw06.StoreActs', WHERE WHAT IT READS IS OF BULK AT MOST 1048576: true; the input reads as it did. -/
def storeActsUptoRow : OpenClaim := { program := "ytngldjajfpbmbaa", sum := "1ac92390f8da3d5d0579ac0ac45afcf998bd632f1703c5c4e5dbb48cc8f8e7e2", func := "marginalia/marginalialaw06.StoreActs", spec := "storeActs", unfollowed := true, recurses := true, apart := false, narrowed := true }
def StoreActsUptoSaid : Prop := storeActsUptoRow.holds Try.pinned (OpenSpec.upto storeActsSpec)

/-- 'marginalialaw06.StoreApart', WHERE WHAT IT READS IS OF BULK AT MOST 1048576: true; the input reads as it did. -/
def storeApartUptoRow : OpenClaim := { program := "ytngldjajfpbmbaa", sum := "1ac92390f8da3d5d0579ac0ac45afcf998bd632f1703c5c4e5dbb48cc8f8e7e2", func := "marginalia/marginalialaw06.StoreApart", spec := "storeApart", unfollowed := true, recurses := true, loops := true, apart := false, narrowed := true }
def StoreApartUptoSaid : Prop := storeApartUptoRow.holds Try.pinned (OpenSpec.upto storeApartSpec)

end Rows
end Go.Proofs.Ytngldjajfpbmbaa
