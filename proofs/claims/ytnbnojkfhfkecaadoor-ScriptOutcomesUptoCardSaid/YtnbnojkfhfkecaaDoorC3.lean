/- Contracts of functions that the statement reaches; each theorem carries its own conditions, the last theorem of the claim has none. -/
import Derived.Test.YtnbnojkfhfkecaaDoorC2
import Derived.Test.YtnbnojkfhfkecaaDoorCSh
import Derived.Lib.AppendIntMem
/- Numerals: Itoa out of the shelf, FormatUint at base 16 of a byte. -/
set_option linter.unusedVariables false
set_option maxRecDepth 100000
namespace Go.Proofs.YtnbnojkfhfkecaaDoor.A
open Go Go.Abs

def pow10C : List Value := Lib.pow10Tab.map fun z => .int .u64 z
def deb64 : List Int := [0, 1, 56, 2, 57, 49, 28, 3, 61, 58, 42, 50, 38, 29, 17, 4, 62, 47, 59, 36, 45, 43, 51, 22, 53, 39, 33, 30, 24, 18, 12, 5, 63, 55, 48, 27, 60, 41, 37, 16, 46, 35, 44, 21, 52, 32, 23, 11, 54, 26, 40, 15, 34, 20, 31, 10, 25, 14, 19, 9, 13, 8, 7, 6]
def deb64C : List Value := deb64.map fun z => .int .u8 z
/-- The tables that are told. -/
structure Tb (H : AHeap) : Prop where
  pow : H.at_ 3 = .cells pow10C .exact 0
  deb : H.at_ 7 = .cells deb64C .read 0
  next : 8 ≤ H.next
theorem Tb.keep {H H' : AHeap} (h : Tb H) (hn : H.next ≤ H'.next) (hk : ∀ c, c < 8 → H'.at_ c = H.at_ c) : Tb H' :=
  ⟨(hk 3 (by decide)).trans h.pow, (hk 7 (by decide)).trans h.deb, Nat.le_trans h.next hn⟩
theorem Tb.kf {F : Nat → Prop} {H H' : AHeap} (h : Tb H) (k : KF F H H') (hF : ∀ c, c < 8 → F c) : Tb H' := h.keep k.1 fun c hc => k.2 c (hF c hc)

theorem nGlob : Tryd.prog.globals.size = 8 := by kernel_rfl

theorem tabIs {B : Nat} {φ : Phi} {H : AHeap} {w : World} (hT : Tb H) (hr : Rel Tryd.prog.globals.size B φ H w) : Lib.TabIs Tryd.prog w "internal/strconv.uint64pow10" .u64 Lib.pow10Tab := by
  obtain ⟨p, hp, h1, h2⟩ := hr.glob 3 (by rw [nGlob]; decide)
  have hB := hr.blk 3 p hp
  rw [hT.pow] at hB
  obtain ⟨c, t', fr, g0, g1, g2, g3, g4, g5, g6, g7⟩ := hB
  obtain ⟨g7, _⟩ := g7 rfl
  have hpl : pow10C.all Abs.plainCell = true := by
    unfold pow10C
    rw [List.all_map]
    exact List.all_eq_true.2 fun _ _ => rfl
  have e1 := plains_same g3 hpl
  rw [h2, List.drop_zero] at e1
  rw [h1] at g0
  have e2 : c.toList = pow10C := by
    rw [← e1]
    exact (List.take_of_length_le (by rw [Array.length_toList]; omega)).symm
  have hn : Tryd.prog.globalNamed "internal/strconv.uint64pow10" = some 3 := by kernel_rfl
  unfold Lib.TabIs World.var?
  rw [hn]
  simp only [Option.bind_some, g0]
  congr 1
  apply Array.ext'
  simpa [pow10C] using e2

abbrev bstr (l : List UInt8) : Value := .string ⟨l.toArray⟩
theorem c21 {H : AHeap} (hT : Tb H) (n : Int) (h0 : -9223372036854775808 ≤ n) (h1 : n ≤ 9223372036854775807) :
    ACalls Tryd.prog 21 [.int .i64 n] H fun v H' => v = bstr (Lib.itoa n) ∧ H' = H :=
  ACalls.ofGrow rfl rfl fun B φ w hr => (Sh.strconv_Itoa n h0 h1 w (tabIs hT hr)).mono fun e w' ⟨h2, k, os, h3⟩ => ⟨h2, by subst h3; exact Lib.below_grow _ _ (Nat.le_refl _) k os⟩

theorem c101 {H : AHeap} (hT : Tb H) : ACalls Tryd.prog 101 [.int .u64 16] H fun v H' => v = .int .i64 4 ∧ H' = H := by
  refine S101_calls ?_
  unfold S101
  refine bnd_iff.2 ⟨.bool false, by kernel_rfl, ?_⟩
  rw [aCond_false]
  unfold S101_8
  refine bnd_iff.2 ⟨.int .u64 18446744073709551600, by kernel_rfl, ?_⟩
  refine bnd_iff.2 ⟨.int .u64 16, by kernel_rfl, ?_⟩
  refine bnd_iff.2 ⟨.int .u64 4573923408821661840, by kernel_rfl, ?_⟩
  refine bnd_iff.2 ⟨.int .u64 15, by kernel_rfl, ?_⟩
  refine bnd_iff.2 ⟨.pointer (some ⟨7, 15, none⟩), by kernel_rfl, ?_⟩
  refine bnd_iff.2 ⟨.int .u8 4, ?_, ?_⟩
  · simp only [aLdCell, hT.deb]
    rfl
  · exact bnd_iff.2 ⟨.int .i64 4, by kernel_rfl, rfl, rfl⟩
theorem c91 {H : AHeap} (hT : Tb H) : ACalls Tryd.prog 91 [.int .u64 16] H fun v H' => v = .int .i64 4 ∧ H' = H := by
  refine S91_calls ?_
  unfold S91
  rw [aCond_false]
  exact (c101 hT).use ⟨rfl, rfl⟩
theorem c90 {H : AHeap} : ACalls Tryd.prog 90 [.int .i64 16] H fun v H' => v = .bool true ∧ H' = H := by
  refine S90_calls ?_
  unfold S90
  refine bnd_iff.2 ⟨.int .i64 15, by kernel_rfl, ?_⟩
  refine bnd_iff.2 ⟨.int .i64 0, by kernel_rfl, ?_⟩
  exact bnd_iff.2 ⟨.bool true, by kernel_rfl, rfl, rfl⟩

def hexd (n : Nat) : UInt8 := if n < 10 then UInt8.ofNat (48 + n) else UInt8.ofNat (87 + n)
abbrev dig36 : ByteArray := ⟨#[48, 49, 50, 51, 52, 53, 54, 55, 56, 57, 97, 98, 99, 100, 101, 102, 103, 104, 105, 106, 107, 108, 109, 110, 111, 112, 113, 114, 115, 116, 117, 118, 119, 120, 121, 122]⟩
theorem idx36 (k : IntKind) : ∀ n : Nat, n < 16 → aIdxStr (.string dig36) (.int k n) = some (.int .u8 (hexd n).toNat)
  | 0, _ => rfl | 1, _ => rfl | 2, _ => rfl | 3, _ => rfl | 4, _ => rfl | 5, _ => rfl | 6, _ => rfl | 7, _ => rfl
  | 8, _ => rfl | 9, _ => rfl | 10, _ => rfl | 11, _ => rfl | 12, _ => rfl | 13, _ => rfl | 14, _ => rfl | 15, _ => rfl
  | n + 16, h => absurd h (by omega)
theorem aInt_and (k : IntKind) (x y : Int) : aBin .and .no (.int k x) (.int k y) = some (.int k (k.wrap (BitVec.ofInt k.bits x &&& BitVec.ofInt k.bits y).toNat)) := by
  simp [aBin, aInt, aBits]
theorem and15 : ∀ n : Nat, n < 256 → aBin .and .no (.int .u64 n) (.int .u64 15) = some (.int .u64 ((n % 16 : Nat) : Int)) := by
  have h : ∀ n : Fin 256, IntKind.u64.wrap (BitVec.ofInt IntKind.u64.bits (n.val : Int) &&& BitVec.ofInt IntKind.u64.bits 15).toNat = ((n.val % 16 : Nat) : Int) := by decide
  intro n hn
  rw [aInt_and, h ⟨n, hn⟩]
theorem shr4 (n : Nat) : aBin .shr .no (.int .u64 n) (.int .u64 4) = some (.int .u64 ((n / 16 : Nat) : Int)) := by
  simp only [aBin, aInt]
  rw [if_neg (by decide)]
  congr 2
  show (n : Int).fdiv (2 ^ min 4 64) = _
  rw [show min 4 64 = 4 from rfl, Int.fdiv_eq_ediv_of_nonneg _ (by decide)]
  rfl
def hex1 (n : Nat) : List UInt8 := if n < 16 then [hexd n] else [hexd (n / 16), hexd (n % 16)]
end Go.Proofs.YtnbnojkfhfkecaaDoor.A
