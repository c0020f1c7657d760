/- Contracts of functions that the statement reaches; each theorem carries its own conditions, the last theorem of the claim has none. -/
import Derived.Test.YtnbnojkfhfkecaaDoorPA
import Derived.Test.YtnbnojkfhfkecaaDoorC13
import Derived.Test.YtnbnojkfhfkecaaDoorCSu
import Derived.Test.YtnbnojkfhfkecaaDoorAbsZ
/- Texts and their characters; a text as it is written between quotes, by definition. -/
set_option linter.unusedVariables false
set_option linter.unusedSimpArgs false
set_option maxRecDepth 100000
namespace Go.Proofs.YtnbnojkfhfkecaaDoor.A.U
open Go Go.Abs
open Go.Lib (decodeN)

/-! Texts. -/
abbrev ba (l : List UInt8) : ByteArray := ⟨l.toArray⟩
theorem ba_size (l : List UInt8) : (ba l).size = l.length := by show Array.size _ = _; simp
theorem ba_extract (l : List UInt8) (i j : Nat) : (ba l).extract i j = ba ((l.drop i).take (j - i)) := by
  apply ByteArray.ext
  apply Array.ext'
  simp [ByteArray.data_extract, List.extract_eq_take_drop, ba]
theorem str_take (s : List UInt8) {k : IntKind} {j : Nat} (h : j ≤ s.length) : aSliceStr (bstr s) none (some (.int k (j : Int))) = some (bstr (s.take j)) := by
  have h1 : ((j : Int) ≤ ((ba s).size : Nat)) := by rw [ba_size]; omega
  simp only [aSliceStr, aSlice, aLen, loOf, hiOf, Int.toNat_natCast, Option.bind_some]
  rw [if_pos ⟨by omega, h1⟩]
  simp only [Option.bind_some, aCut, Nat.zero_le, if_true, Int.toNat_natCast]
  rw [ba_extract]
  simp
theorem str_drop (s : List UInt8) {k : IntKind} {j : Nat} (h : j ≤ s.length) : aSliceStr (bstr s) (some (.int k (j : Int))) none = some (bstr (s.drop j)) := by
  have h1 : j ≤ (ba s).size := by rw [ba_size]; exact h
  simp only [aSliceStr, aSlice, aLen, loOf, hiOf, Int.toNat_natCast, Option.bind_some]
  rw [if_pos (by omega)]
  simp only [Option.bind_some, aCut, Int.toNat_natCast]
  rw [if_pos h1, ba_extract, ba_size]
  congr 3
  rw [List.take_of_length_le (by rw [List.length_drop]; exact Nat.le_refl _)]
theorem str_sub (s : List UInt8) {k k' : IntKind} {i j : Nat} (hij : i ≤ j) (h : j ≤ s.length) : aSliceStr (bstr s) (some (.int k (i : Int))) (some (.int k' (j : Int))) = some (bstr ((s.drop i).take (j - i))) := by
  have h1 : ((j : Int) ≤ ((ba s).size : Nat)) := by rw [ba_size]; omega
  simp only [aSliceStr, aSlice, aLen, loOf, hiOf, Int.toNat_natCast, Option.bind_some]
  rw [if_pos (by omega), if_pos ⟨by omega, h1⟩]
  simp only [Option.bind_some, aCut, Int.toNat_natCast]
  rw [if_pos hij, ba_extract]
theorem str_len (s : List UInt8) : aLenStr (bstr s) = some (.int .i64 (s.length : Nat)) := by
  show some (Value.int .i64 ((ba s).size : Nat)) = _
  rw [ba_size]
theorem str_eq (e : EK) (s t : List UInt8) : aBin .eql e (bstr s) (bstr t) = some (.bool (decide (s = t))) := by
  rw [aBin_seql, ba_beq]
  congr 2
  by_cases h : s = t
  · subst h; simp
  · have : ¬ (ba s) = ba t := fun h' => h (by have := congrArg (fun b : ByteArray => b.data.toList) h'; simpa using this)
    rw [decide_eq_false h, decide_eq_false this]
theorem str_ne (e : EK) (s t : List UInt8) : aBin .neq e (bstr s) (bstr t) = some (.bool (!decide (s = t))) := by
  rw [aBin_sneq, ba_beq]
  congr 3
  by_cases h : s = t
  · subst h; simp
  · have : ¬ (ba s) = ba t := fun h' => h (by have := congrArg (fun b : ByteArray => b.data.toList) h'; simpa using this)
    rw [decide_eq_false h, decide_eq_false this]

/-- A text's bytes as numbers. -/
def nt (l : List UInt8) : List Nat := l.map UInt8.toNat
@[simp] theorem nt_len (l : List UInt8) : (nt l).length = l.length := by simp [nt]
theorem nt_lt (l : List UInt8) : ∀ x ∈ nt l, x < 256 := by
  intro x hx
  obtain ⟨b, _, rfl⟩ := List.mem_map.1 hx
  exact b.toNat_lt
theorem nt_drop (l : List UInt8) (n : Nat) : nt (l.drop n) = (nt l).drop n := List.map_drop ..
theorem nt_take (l : List UInt8) (n : Nat) : nt (l.take n) = (nt l).take n := List.map_take ..
theorem nt_ne {l : List UInt8} (h : l ≠ []) : nt l ≠ [] := fun e => h (List.map_eq_nil_iff.1 e)
theorem nt_back (l : List UInt8) : (nt l).map UInt8.ofNat = l := by
  unfold nt
  rw [List.map_map]
  exact (List.map_congr_left (fun b _ => by simp)).trans (List.map_id l)
theorem byteCells_nt (l : List UInt8) : byteCells (ba l) = (nt l).flatMap eN := by
  unfold byteCells nt
  show (l.toArray.toList).map _ = _
  rw [List.toList_toArray]
  induction l with
  | nil => rfl
  | cons x l ih => rw [List.map_cons, List.map_cons, List.flatMap_cons, ih]; rfl
/-- A text's bytes where they are laid. -/
theorem rdStr (H : AHeap) (l : List UInt8) (t : TypeId) : BytesN (H.next + 1) (H.alloc (.cells (byteCells (ba l)) .read t)) (some ⟨H.next, 0, none⟩) (nt l) :=
  Rd.mk' (fun _ _ => rfl) (Nat.lt_succ_self _) (AHeap.at_alloc_new _ _) (by simp) (byteCells_nt l) (by rw [byteCells_nt, flatMap_length (n := 1) (fun _ _ => rfl)])

theorem get_nt (l : List UInt8) (i : Nat) : ((ba l).get! i).toNat = at' (nt l) i := by
  show (l.toArray[i]!).toNat = _
  unfold at' nt
  rw [List.getD_eq_getElem?_getD, List.getElem?_map]
  by_cases h : i < l.length
  · rw [List.getElem?_eq_getElem h]
    simp [h]
  · rw [List.getElem?_eq_none (by omega)]
    have : l.toArray[i]! = default := by simp [getElem!_def, h]
    rw [this]
    rfl
theorem decodeGo_nt {l : List UInt8} (h : l ≠ []) : Lib.decodeGo (ba l) = rd (nt l) := by
  have hs : ¬ (ba l).size = 0 := by
    rw [ba_size]
    exact fun e => h (List.length_eq_zero_iff.1 e)
  unfold Lib.decodeGo rd
  rw [if_neg hs, Lib.decode_at, get_nt, get_nt, get_nt, get_nt, ba_size, nt_len]
  simp

/-! The bytes of a character. -/
theorem enc_pos (c : Nat) : 1 ≤ (enc c).length ∧ (enc c).length ≤ 4 := by unfold enc; (repeat' split) <;> simp
set_option maxHeartbeats 4000000 in
theorem enc_rd {bs : List Nat} (hb : ∀ x ∈ bs, x < 256) (hne : bs ≠ []) (hB : ¬ Bad bs) : scal (((rd bs).1 : Nat) : Int) = true ∧ enc (rd bs).1 = bs.take (rd bs).2 := by
  have g := at'_lt hb
  have g0 := g 0
  have htk : ∀ k, k ≤ bs.length → bs.take k = (List.range k).map (at' bs) := by
    intro k hk
    apply List.ext_getElem?
    intro i
    by_cases hi : i < k
    · simp [List.getElem?_take, hi, at', List.getD_eq_getElem?_getD, List.getElem?_eq_getElem (show i < bs.length by omega)]
    · simp [List.getElem?_take, hi]
  have hpos : 1 ≤ bs.length := by cases bs with | nil => exact absurd rfl hne | cons x xs => simp
  by_cases q1 : at' bs 0 < 128
  · have hr := rd_ascii q1
    rw [hr, htk 1 hpos]
    refine ⟨by simp [scal]; omega, ?_⟩
    show enc (at' bs 0) = [at' bs 0]
    unfold enc
    rw [if_pos q1]
  by_cases q2 : at' bs 0 < 192
  · exact absurd (rd_none (.inl ⟨by omega, by omega⟩) g) hB
  by_cases q3 : at' bs 0 < 224
  · have hr := rd2 g ⟨by omega, q3⟩
    by_cases hc : 2 ≤ bs.length ∧ cont (at' bs 1) ∧ 128 ≤ (at' bs 0 - 192) * 64 + (at' bs 1 - 128)
    · rw [if_pos hc] at hr
      obtain ⟨c0, c1, c2⟩ := hc
      unfold cont at c1
      rw [hr, htk 2 c0]
      refine ⟨by simp [scal]; omega, ?_⟩
      show enc _ = [at' bs 0, at' bs 1]
      unfold enc
      rw [if_neg (by omega), if_pos (by omega)]
      congr 1
      · omega
      · congr 1; omega
    · rw [if_neg hc] at hr
      exact absurd hr hB
  by_cases q4 : at' bs 0 < 240
  · have hr := rd3 g ⟨by omega, q4⟩
    split at hr
    · rename_i hc
      obtain ⟨c0, c1, c2, c3, c4⟩ := hc
      unfold cont at c1 c2
      rw [hr, htk 3 c0]
      refine ⟨by simp [scal]; omega, ?_⟩
      show enc _ = [at' bs 0, at' bs 1, at' bs 2]
      unfold enc
      rw [if_neg (by omega), if_neg (by omega), if_pos (by omega)]
      congr 1
      · omega
      · congr 1
        · omega
        · congr 1; omega
    · exact absurd hr hB
  by_cases q5 : at' bs 0 < 248
  · have hr := rd4 g ⟨by omega, q5⟩
    split at hr
    · rename_i hc
      obtain ⟨c0, c1, c2, c3, c4, c5⟩ := hc
      unfold cont at c1 c2 c3
      rw [hr, htk 4 c0]
      refine ⟨by simp [scal]; omega, ?_⟩
      show enc _ = [at' bs 0, at' bs 1, at' bs 2, at' bs 3]
      unfold enc
      rw [if_neg (by omega), if_neg (by omega), if_neg (by omega)]
      congr 1
      · omega
      · congr 1
        · omega
        · congr 1
          · omega
          · congr 1; omega
    · exact absurd hr hB
  · exact absurd (rd_none (.inr (by omega)) g) hB

/-- .. as a text. -/
def encU (c : Nat) : List UInt8 := (enc c).map UInt8.ofNat
theorem encU_len (c : Nat) : (encU c).length = (enc c).length := by simp [encU]
theorem encode_encU {c : Nat} (h : scal (c : Int) = true) : Utf8.encode (c : Int) = ba (encU c) := by
  have hv : Utf8.valid (c : Int) = true := by
    simp [scal] at h
    unfold Utf8.valid
    simp
    omega
  unfold Utf8.encode
  simp only [hv, if_true, Int.toNat_natCast]
  unfold encU enc ba
  (repeat' split) <;> first | rfl | (exfalso; omega)
theorem rune_encU {k : IntKind} {c : Nat} (h : scal (c : Int) = true) : aRuneStr (.int k (c : Int)) = some (bstr (encU c)) := by
  show some (Value.string (Utf8.encode (c : Int))) = _
  rw [encode_encU h]

/-! A text between quotes. -/
def esc (c : Nat) : List UInt8 :=
  if c = 92 ∨ c = 34 then 92 :: encU c else if c = 10 then [92, 110] else if c = 9 then [92, 116] else if c = 13 then [92, 114]
  else if c < 32 ∨ c = 127 then 92 :: 120 :: (hex1 c ++ [59]) else encU c
theorem esc_len (c : Nat) : (esc c).length ≤ 5 := by
  have := enc_pos c
  have := encU_len c
  have h2 : (hex1 c).length ≤ 2 := by unfold hex1; split <;> simp
  unfold esc
  (repeat' split) <;> simp <;> omega
def wd (l : List UInt8) : Nat := (rd (nt l)).2
def pc (l : List UInt8) : List UInt8 := if Bad (nt l) then l.take 1 else esc (rd (nt l)).1
def quoF : Nat → List UInt8 → List UInt8
  | 0, _ => []
  | f + 1, l => if l = [] then [] else pc l ++ quoF f (l.drop (wd l))
def quo (l : List UInt8) : List UInt8 := quoF l.length l
theorem wd_fit {l : List UInt8} (h : l ≠ []) : 1 ≤ wd l ∧ wd l ≤ l.length := by
  have := rd_fit (nt_ne h)
  rw [nt_len] at this
  exact ⟨this.1, this.2.1⟩
theorem pc_len {l : List UInt8} : (pc l).length ≤ 5 := by
  unfold pc
  split
  · simp; omega
  · exact esc_len _
theorem quoF_nil (f : Nat) : quoF f [] = [] := by cases f <;> rfl
theorem quoF_eq : ∀ (f g : Nat) (l : List UInt8), l.length ≤ f → l.length ≤ g → quoF f l = quoF g l
  | 0, g, l, h, _ => by
    have : l = [] := List.length_eq_zero_iff.1 (by omega)
    subst this
    rw [quoF_nil, quoF_nil]
  | f, 0, l, _, h => by
    have : l = [] := List.length_eq_zero_iff.1 (by omega)
    subst this
    rw [quoF_nil, quoF_nil]
  | f + 1, g + 1, l, h1, h2 => by
    unfold quoF
    split
    · rfl
    · rename_i hne
      have := wd_fit hne
      rw [quoF_eq f g _ (by rw [List.length_drop]; omega) (by rw [List.length_drop]; omega)]
theorem quo_nil : quo [] = [] := rfl
theorem quo_step {l : List UInt8} (h : l ≠ []) : quo l = pc l ++ quo (l.drop (wd l)) := by
  have hw := wd_fit h
  have hl : l.length = (l.length - 1) + 1 := by omega
  have e : quo l = quoF ((l.length - 1) + 1) l := by rw [← hl]; rfl
  rw [e]
  conv => lhs; unfold quoF
  rw [if_neg h, quoF_eq (l.length - 1) (l.drop (wd l)).length _ (by rw [List.length_drop]; omega) (Nat.le_refl _)]
  rfl
theorem quoF_len : ∀ (f : Nat) (l : List UInt8), (quoF f l).length ≤ 5 * l.length
  | 0, l => by simp [quoF]
  | f + 1, l => by
    unfold quoF
    split
    · simp
    · rename_i hne
      have hw := wd_fit hne
      have h1 := pc_len (l := l)
      have h2 := quoF_len f (l.drop (wd l))
      rw [List.length_drop] at h2
      rw [List.length_append]
      omega
theorem quo_len (l : List UInt8) : (quo l).length ≤ 5 * l.length := quoF_len _ l
theorem bad_wd {l : List UInt8} (h : Bad (nt l)) : wd l = 1 := by unfold wd; rw [h]
/-- A character that is none: by what the decoder tells. -/
theorem bad_iff (l : List UInt8) : Bad (nt l) ↔ (rd (nt l)).1 = 65533 ∧ (rd (nt l)).2 < 2 := by
  constructor
  · intro h
    rw [h]
    exact ⟨rfl, by decide⟩
  · intro ⟨h1, h2⟩
    exact decodeN_one h1 h2
theorem take_encU {l : List UInt8} (h : l ≠ []) (hB : ¬ Bad (nt l)) : encU (rd (nt l)).1 = l.take (wd l) := by
  unfold encU wd
  rw [(enc_rd (nt_lt l) (nt_ne h) hB).2, ← nt_take, nt_back]
end Go.Proofs.YtnbnojkfhfkecaaDoor.A.U

/- Quoted, the program's: a text as it is written between quotes. -/
set_option linter.unusedVariables false
set_option linter.unusedSimpArgs false
set_option maxRecDepth 100000
namespace Go.Proofs.YtnbnojkfhfkecaaDoor.A.U
open Go Go.Abs
open Go.Lib (decodeN firstT accLo accHi)

def firstCells : List Value := (List.range 256).map fun c => .int .u8 (firstT c : Nat)
def accCells : List Value := (List.range 16).flatMap fun i => [.int .u8 (accLo i : Nat), .int .u8 (accHi i : Nat)]
theorem firstCells_at {c : Nat} (h : c < 256) : firstCells[c]? = some (.int .u8 (firstT c : Nat)) := by
  simp [firstCells, h]
theorem accCells_at {i : Nat} (h : i < 16) : (accCells.drop (i * 2)).take 2 = [.int .u8 (accLo i : Nat), .int .u8 (accHi i : Nat)] := by
  match i, h with
  | 0, _ | 1, _ | 2, _ | 3, _ | 4, _ | 5, _ | 6, _ | 7, _ | 8, _ | 9, _ | 10, _ | 11, _ | 12, _ | 13, _ | 14, _ | 15, _ => rfl
  | n + 16, h => omega
theorem accCells_len : accCells.length = 32 := rfl
/-- The tables that are told, and utf8's. -/
structure TbU (H : AHeap) : Prop where
  tb : Tb H
  first : H.at_ 1 = .cells firstCells .read 0
  acc : H.at_ 2 = .cells accCells .read 0
theorem TbU.keep {H H' : AHeap} (h : TbU H) (hn : H.next ≤ H'.next) (hk : ∀ c, c < 8 → H'.at_ c = H.at_ c) : TbU H' :=
  ⟨h.tb.keep hn hk, (hk 1 (by decide)).trans h.first, (hk 2 (by decide)).trans h.acc⟩
theorem TbU.kept {H H' : AHeap} (h : TbU H) (k : Keep H.next H H') : TbU H' := h.keep k.next fun c hc => k.at_ c (by have := h.tb.next; omega)
theorem TbU.kf {F : Nat → Prop} {H H' : AHeap} (h : TbU H) (k : KF F H H') (hF : ∀ c, c < 8 → F c) : TbU H' := h.keep k.1 fun c hc => k.2 c (hF c hc)

theorem cellOf {G B g : Nat} {φ : Phi} {H : AHeap} {w : World} {cs : List Value} {t : TypeId} (hr : Rel G B φ H w) (hg : g < G) (hat : H.at_ g = .cells cs .read t) (hpl : cs.all Abs.plainCell = true) (j : Nat) (hj : j < cs.length) : w.cell? ⟨g, j, none⟩ = some cs[j] := by
  obtain ⟨p, hp, h1, h2⟩ := hr.glob g hg
  have hB := hr.blk g p hp
  rw [hat] at hB
  obtain ⟨c, t', fr, g0, g1, g2, g3, g4, g5, g6, g7⟩ := hB
  have e1 := plains_same g3 hpl
  rw [h2, List.drop_zero] at e1
  rw [h1] at g0
  have e2 : c[j]? = cs[j]? := by
    have := congrArg (fun l : List Value => l[j]?) e1
    simp only [List.getElem?_take, hj, if_true, Array.getElem?_toList] at this
    exact this
  unfold World.cell?
  dsimp only
  rw [g0]
  show c[j]? = _
  rw [e2, List.getElem?_eq_getElem hj]
theorem utf8Tabs {B : Nat} {φ : Phi} {H : AHeap} {w : World} (hT : TbU H) (hr : Rel Tryd.prog.globals.size B φ H w) : Lib.Utf8Tabs 1 2 w := by
  have p1 : firstCells.all Abs.plainCell = true := by
    unfold firstCells
    rw [List.all_map]
    exact List.all_eq_true.2 fun _ _ => rfl
  have p2 : accCells.all Abs.plainCell = true := by rfl
  have l1 : firstCells.length = 256 := by simp [firstCells]
  refine ⟨fun c hc => ?_, fun i hi => ?_⟩
  · rw [cellOf hr (by rw [nGlob]; decide) hT.first p1 c (by omega)]
    have := firstCells_at hc
    rw [List.getElem?_eq_getElem (by omega)] at this
    exact this
  · have h0 := cellOf hr (by rw [nGlob]; decide) hT.acc p2 (2 * i) (by rw [accCells_len]; omega)
    have h1 := cellOf hr (by rw [nGlob]; decide) hT.acc p2 (2 * i + 1) (by rw [accCells_len]; omega)
    have ha := accCells_at hi
    have a0 := congrArg (fun l : List Value => l[0]?) ha
    have a1 := congrArg (fun l : List Value => l[1]?) ha
    simp only [List.getElem?_take, List.getElem?_drop, Nat.mul_comm i 2] at a0 a1
    rw [h0, h1, ← List.getElem?_eq_getElem, ← List.getElem?_eq_getElem]
    exact ⟨by simpa using a0, by simpa using a1⟩

theorem c42 {H : AHeap} (hT : TbU H) {l : List UInt8} (h : l ≠ []) : ACalls Tryd.prog 42 [bstr l] H fun v H' => v = .tuple #[.int .i32 ((rd (nt l)).1 : Nat), .int .i64 ((rd (nt l)).2 : Nat)] ∧ H' = H := by
  intro B φ w cargs hrel hv
  obtain rfl := plains_same hv rfl
  refine (Sh.utf8_DecodeRuneInString (ba l) w (utf8Tabs hT hrel)).mono fun e w' ⟨h1, h2⟩ => ?_
  subst h1
  rw [decodeGo_nt h]
  refine ⟨_, H, φ, _, rfl, ⟨rfl, rfl⟩, Step.grown hrel h2.os h2.tape h2.output h2.size h2.block, .tuple rfl fun i u v hu hv => ?_⟩
  match i, hu, hv with
  | 0, hu, hv => simp at hu hv; subst hu; subst hv; exact .plain rfl
  | 1, hu, hv => simp at hu hv; subst hu; subst hv; exact .plain rfl
  | i + 2, hu, hv => simp at hu

/-! Numerals at base 16. -/
theorem c65 {H : AHeap} (hT : Tb H) (x : Nat) (hx : x < 256) : ACalls Tryd.prog 65 [.int .i64 x, .int .i64 16] H fun v H' => v = bstr (hex1 x) ∧ H' = H := by
  have h49 : ACalls Tryd.prog 49 [.int .i64 x, .int .i64 16] H fun v H' => v = bstr (hex1 x) ∧ H' = H := by
    refine ACalls.eq (S49_calls ?_) rfl
    unfold S49
    simp only [aBin_eql, bnd_some']
    rw [show decide ((16 : Int) = 10) = false from rfl, aCond_false]
    unfold S49_47
    simp only [aConvInt_int, bnd_some', aBin_lss]
    rw [wrap_u64 (by omega) (by omega), show decide ((x : Int) < 0) = false from decide_eq_false (by omega)]
    refine (c70 hT x hx).mono ?_
    rintro v H' ⟨rfl, hk⟩
    simp only [aExtract_tuple]
    exact ⟨rfl, hk⟩
  refine S65_calls ?_
  unfold S65
  exact h49.use ⟨rfl, rfl⟩

theorem c43 {H : AHeap} (hT : Tb H) {c : Nat} (hc : scal (c : Int) = true) : ACalls Tryd.prog 43 [.int .i32 (c : Nat)] H fun v H' => v = bstr (esc c) ∧ H' = H := by
  have hle := scal_le hc
  have dT : ∀ n : Nat, c = n → decide ((c : Int) = (n : Int)) = true := fun n h => decide_eq_true (by omega)
  have dF : ∀ n : Nat, c ≠ n → decide ((c : Int) = (n : Int)) = false := fun n h => decide_eq_false (by omega)
  refine ACalls.eq (S43_calls ?_) rfl
  unfold S43
  rw [aJoin_eq]
  simp only [aBin_eql, bnd_some', nth_zero]
  by_cases h92 : c = 92
  · subst h92
    rw [show decide (((92 : Nat) : Int) = 92) = true from rfl, aCond_true, aCond_true, rune_encU hc, bnd_some']
    exact ⟨rfl, Keep.refl _ _⟩
  rw [show decide ((c : Int) = 92) = false from dF 92 h92, aCond_false]
  by_cases h34 : c = 34
  · subst h34
    rw [show decide (((34 : Nat) : Int) = 34) = true from rfl, aCond_true, rune_encU hc, bnd_some']
    exact ⟨rfl, Keep.refl _ _⟩
  rw [show decide ((c : Int) = 34) = false from dF 34 h34, aCond_false]
  have he0 : esc c = if c = 10 then [92, 110] else if c = 9 then [92, 116] else if c = 13 then [92, 114] else if c < 32 ∨ c = 127 then 92 :: 120 :: (hex1 c ++ [59]) else encU c := by
    unfold esc
    rw [if_neg (by omega)]
  rw [he0]
  unfold S43_26
  simp only [aBin_eql, bnd_some']
  by_cases h10 : c = 10
  · subst h10
    rw [show decide (((10 : Nat) : Int) = 10) = true from rfl, aCond_true]
    exact ⟨rfl, Keep.refl _ _⟩
  rw [show decide ((c : Int) = 10) = false from dF 10 h10, aCond_false, if_neg h10]
  by_cases h9 : c = 9
  · subst h9
    rw [show decide (((9 : Nat) : Int) = 9) = true from rfl, aCond_true]
    exact ⟨rfl, Keep.refl _ _⟩
  rw [show decide ((c : Int) = 9) = false from dF 9 h9, aCond_false, if_neg h9]
  by_cases h13 : c = 13
  · subst h13
    rw [show decide (((13 : Nat) : Int) = 13) = true from rfl, aCond_true]
    exact ⟨rfl, Keep.refl _ _⟩
  rw [show decide ((c : Int) = 13) = false from dF 13 h13, aCond_false, if_neg h13]
  unfold S43_25
  simp only [aBin_lss, bnd_some']
  have hx : c < 256 → bnd (aConvInt .i64 (.int .i32 (c : Nat))) (fun t23_19 => ACalls Tryd.prog 65 [t23_19, (.int .i64 16)] H fun t24_20 H_21 =>
      bnd (aBin .add .no (.string ⟨#[92, 120]⟩) t24_20) fun t25_22 => bnd (aBin .add .no t25_22 (.string ⟨#[59]⟩)) fun t26_23 => (fun v H' => v = bstr (92 :: 120 :: (hex1 c ++ [59])) ∧ Keep H.next H H') t26_23 H_21) := by
    intro h256
    rw [aConvInt_int, w64 c (by omega), bnd_some']
    refine (c65 hT c h256).use ?_
    have h2 : (hex1 c).length ≤ 2 := by unfold hex1; split <;> simp
    rw [show (.string ⟨#[92, 120]⟩ : Value) = bstr [92, 120] from rfl, aBin_sadd _ _ _ (by simp; omega), bnd_some', show (.string ⟨#[59]⟩ : Value) = bstr [59] from rfl, aBin_sadd _ _ _ (by simp; omega), bnd_some']
    exact ⟨rfl, Keep.refl _ _⟩
  by_cases h32 : c < 32
  · rw [show decide ((c : Int) < 32) = true from decide_eq_true (by omega), if_pos (.inl h32)]
    simp only [aGuardK_tf, aPick_tt, bnd_some', aCond_true]
    exact hx (by omega)
  rw [show decide ((c : Int) < 32) = false from decide_eq_false (by omega)]
  simp only [aGuardK_ff, aBin_eql, bnd_some', aPick_ff]
  by_cases h127 : c = 127
  · rw [show decide ((c : Int) = 127) = true from dT 127 h127, if_pos (.inr h127), aCond_true]
    exact hx (by omega)
  rw [show decide ((c : Int) = 127) = false from dF 127 h127, aCond_false, if_neg (by omega), rune_encU hc, bnd_some']
  exact ⟨rfl, Keep.refl _ _⟩

/-- Quoted of the program. -/
theorem c27 {H : AHeap} (hT : TbU H) (l : List UInt8) (hlen : l.length ≤ 1099511627776) : ACalls Tryd.prog 27 [bstr l] H fun v H' => v = bstr (34 :: (quo l ++ [34])) ∧ H' = H := by
  refine ACalls.eq (S27_calls ?_) rfl
  unfold S27
  rw [aAlloc_eq]
  have hF : ∀ c, (fun c => c < H.next) c → c < H.next := fun c h => h
  have hF1 : ∀ {H' : AHeap}, KF (fun c => c < H.next) H H' → ∀ c, c < H.next → c < H'.next := fun hk c h => Nat.lt_of_lt_of_le h hk.1
  have hb := Bd.new (F := fun c => c < H.next) (H := H) hF
  have hk0 : KF (fun c => c < H.next) H (H.alloc (.cells [.pointer none, .slice none 0 0] .var 48)) := ⟨by simp, fun c hc => AHeap.at_alloc_ne _ _ (Nat.ne_of_lt hc)⟩
  have hT8 := hT.tb.next
  have hql := quo_len l
  refine (c19 34 hb (hF1 hk0) (by simp)).mono ?_
  rintro v H1 ⟨rfl, hb1, hk1⟩
  refine aLoop_inv (fun m vs H2 => ∃ r pre, m = r.length ∧ r.length ≤ l.length ∧ vs = [bstr r] ∧ pre ++ quo r = quo l ∧ Bd (fun c => c < H.next) H.next (34 :: pre) H2 ∧ KF (fun c => c < H.next) H H2) l.length ⟨l, [], rfl, Nat.le_refl _, rfl, rfl, hb1, hk0.trans hk1⟩ ?_
  rintro m vs H2 again ⟨r, pre, rfl, hrl, rfl, hpre, hb2, hk2⟩ hag
  have hpl : pre.length + (quo r).length = (quo l).length := by rw [← hpre, List.length_append]
  unfold S27_40
  rw [nth_zero, str_len, bnd_some', aBin_gtr, bnd_some']
  refine aCond_of (fun hlt => ?_) (fun hge => ?_)
  · have hlt : 0 < r.length := by have := of_decide_eq_true hlt; omega
    have hne : r ≠ [] := fun e => by subst e; simp at hlt
    have hT2 := hT.kf hk2 (fun c hc => by omega)
    have hw := wd_fit hne
    refine (c42 hT2 hne).use ?_
    unfold S27_35
    refine bnd_iff.2 ⟨.int .i32 ((rd (nt r)).1 : Nat), rfl, bnd_iff.2 ⟨.int .i64 (wd r : Nat), rfl, ?_⟩⟩
    rw [aJoin_eq]
    have fin : ∀ H3, Bd (fun c => c < H.next) H.next (34 :: pre ++ pc r) H3 → KF (fun c => c < H.next) H H3 →
        bnd (aSliceStr (nth [bstr r] 0) (some (.int .i64 (wd r : Nat))) none) fun t30_16 => again [t30_16] H3 := by
      intro H3 hb3 hk3
      rw [nth_zero, str_drop r hw.2, bnd_some']
      refine hag (r.drop (wd r)).length _ _ (by rw [List.length_drop]; omega) ⟨r.drop (wd r), pre ++ pc r, rfl, by rw [List.length_drop]; omega, rfl, ?_, hb3, hk3⟩
      rw [List.append_assoc, ← quo_step hne, hpre]
    have hq : (pc r).length ≤ 5 := pc_len
    rw [aBin_eql, bnd_some']
    by_cases hB : Bad (nt r)
    · obtain ⟨e1, e2⟩ := (bad_iff r).1 hB
      rw [show decide ((((rd (nt r)).1 : Nat) : Int) = 65533) = true from decide_eq_true (by omega)]
      simp only [aGuardK_tt, aBin_lss, bnd_some', aPick_tt]
      rw [show decide (((wd r : Nat) : Int) < 2) = true from decide_eq_true (by unfold wd; omega), aCond_true, nth_zero, str_take r hw.2, bnd_some']
      refine (c20 _ hb2 (hF1 hk2) ?_).mono ?_
      · rw [ba_size, List.length_take, List.length_cons]; omega
      rintro v H3 ⟨hb3, hk3⟩
      have e : pc r = r.take (wd r) := by unfold pc; rw [if_pos hB, bad_wd hB]
      refine fin H3 ?_ (hk2.trans hk3)
      rw [e]
      exact hb3
    · have hs := (enc_rd (nt_lt r) (nt_ne hne) hB).1
      have go : ACalls Tryd.prog 43 [.int .i32 ((rd (nt r)).1 : Nat)] H2 fun t26_31 H_32 => ACalls Tryd.prog 20 [(.pointer (some ⟨H.next, 0, none⟩)), t26_31] H_32 fun t27_33 H_34 =>
          bnd (aSliceStr (nth [bstr r] 0) (some (.int .i64 (wd r : Nat))) none) fun t30_16 => again [t30_16] H_34 := by
        refine (c43 hT2.tb hs).use ?_
        refine (c20 _ hb2 (hF1 hk2) ?_).mono ?_
        · have := esc_len (rd (nt r)).1
          rw [ba_size, List.length_cons]; omega
        rintro v H3 ⟨hb3, hk3⟩
        have e : pc r = esc (rd (nt r)).1 := by unfold pc; rw [if_neg hB]
        refine fin H3 ?_ (hk2.trans hk3)
        rw [e]
        exact hb3
      by_cases e1 : (rd (nt r)).1 = 65533
      · have e2 : ¬ (rd (nt r)).2 < 2 := fun e2 => hB ((bad_iff r).2 ⟨e1, e2⟩)
        rw [show decide ((((rd (nt r)).1 : Nat) : Int) = 65533) = true from decide_eq_true (by omega)]
        simp only [aGuardK_tt, aBin_lss, bnd_some', aPick_tt]
        rw [show decide (((wd r : Nat) : Int) < 2) = false from decide_eq_false (by unfold wd; omega), aCond_false]
        exact go
      · rw [show decide ((((rd (nt r)).1 : Nat) : Int) = 65533) = false from decide_eq_false (by omega)]
        simp only [aGuardK_ft, aPick_ff, bnd_some', aCond_false]
        exact go
  · have hge : r.length = 0 := by have := of_decide_eq_false hge; omega
    have hr : r = [] := List.length_eq_zero_iff.1 hge
    subst hr
    rw [quo_nil, List.append_nil] at hpre
    subst hpre
    refine (c19 34 hb2 (hF1 hk2) (by simp; omega)).mono ?_
    rintro v H3 ⟨rfl, hb3, hk3⟩
    refine (c23 hb3 (by simp) (by simp; omega)).mono ?_
    rintro v H4 ⟨rfl, hk4⟩
    exact ⟨rfl, ((hk2.trans hk3).trans hk4).1, fun c hc => ((hk2.trans hk3).trans hk4).2 c hc⟩
end Go.Proofs.YtnbnojkfhfkecaaDoor.A.U

/- Quoted, the reference's. -/
set_option linter.unusedVariables false
set_option linter.unusedSimpArgs false
set_option maxRecDepth 100000
namespace Go.Proofs.YtnbnojkfhfkecaaDoor.A.U
open Go Go.Abs

/-! A number in small hexadecimal digits. -/
abbrev dig16 : List UInt8 := [48, 49, 50, 51, 52, 53, 54, 55, 56, 57, 97, 98, 99, 100, 101, 102]
theorem dig_sub : ∀ n : Nat, n < 16 → (dig16.drop n).take (n + 1 - n) = [hexd n]
  | 0, _ => rfl | 1, _ => rfl | 2, _ => rfl | 3, _ => rfl | 4, _ => rfl | 5, _ => rfl | 6, _ => rfl | 7, _ => rfl
  | 8, _ => rfl | 9, _ => rfl | 10, _ => rfl | 11, _ => rfl | 12, _ => rfl | 13, _ => rfl | 14, _ => rfl | 15, _ => rfl
  | n + 16, h => absurd h (by omega)
theorem sub16 {n : Nat} (h : n < 16) : aSliceStr (.string ⟨#[48, 49, 50, 51, 52, 53, 54, 55, 56, 57, 97, 98, 99, 100, 101, 102]⟩) (some (.int .i64 (n : Int))) (some (.int .i64 ((n + 1 : Nat) : Int))) = some (bstr [hexd n]) := by
  have := str_sub dig16 (k := .i64) (k' := .i64) (i := n) (j := n + 1) (by omega) (by show n + 1 ≤ 16; omega)
  rw [dig_sub n h] at this
  exact this
theorem c32s {H : AHeap} (n : Nat) (h : n < 16) : ACalls Tryd.prog 32 [.int .i64 n] H fun v H' => v = bstr [hexd n] ∧ H' = H := by
  refine S32_calls ?_
  unfold S32
  rw [aBin_lss, bnd_some', show decide ((n : Int) < 16) = true from decide_eq_true (by omega), aCond_true]
  rw [show aBin .add .no (.int .i64 (n : Int)) (.int .i64 1) = some (.int .i64 ((n + 1 : Nat) : Int)) from addN n 1 (by omega), bnd_some', sub16 h, bnd_some']
  exact ⟨rfl, rfl⟩
theorem c32 {H : AHeap} (n : Nat) (h : n < 256) : ACalls Tryd.prog 32 [.int .i64 n] H fun v H' => v = bstr (hex1 n) ∧ H' = H := by
  unfold hex1
  split
  · rename_i h16; exact c32s n h16
  · rename_i h16
    refine S32_calls ?_
    unfold S32
    rw [aBin_lss, bnd_some', show decide ((n : Int) < 16) = false from decide_eq_false (by omega), aCond_false]
    unfold S32_11
    rw [show aBin .quo .no (.int .i64 (n : Int)) (.int .i64 16) = some (.int .i64 ((n / 16 : Nat) : Int)) from quoN n 16 (by decide) (by omega), bnd_some']
    rw [show aBin .rem .no (.int .i64 (n : Int)) (.int .i64 16) = some (.int .i64 ((n % 16 : Nat) : Int)) from remN n 16 (by decide), bnd_some', bnd_some']
    rw [show aBin .add .no (.int .i64 ((n % 16 : Nat) : Int)) (.int .i64 1) = some (.int .i64 ((n % 16 + 1 : Nat) : Int)) from addN (n % 16) 1 (by omega), bnd_some', sub16 (by omega), bnd_some']
    refine (c32s (n / 16) (by omega)).use ?_
    rw [aBin_sadd _ _ _ (by simp), bnd_some']
    exact ⟨rfl, rfl⟩

theorem bytesOf_enc : ∀ (l : List Nat), (∀ x ∈ l, x < 256) → bytesOf (l.flatMap eN) = some (l.map UInt8.ofNat)
  | [], _ => rfl
  | x :: l, h => by
    rw [List.flatMap_cons]
    show bytesOf (Value.int .u8 (x : Int) :: l.flatMap eN) = _
    have hx := h x (by simp)
    unfold bytesOf
    rw [if_pos ⟨by omega, by omega⟩, bytesOf_enc l fun y hy => h y (by simp [hy])]
    simp
theorem BytesN.str {lo : Nat} {H : AHeap} {B : Option Addr} {l : List Nat} (h : BytesN lo H B l) (hl : ∀ x ∈ l, x < 256) (c : Nat) : aBytesStr (.slice B l.length c) H = some (bstr (l.map UInt8.ofNat)) := by
  unfold aBytesStr
  rw [h.row]
  simp only [Option.bind_some, bytesOf_enc l hl, Option.map_some]

/-- One character. -/
theorem s17_63 {H : AHeap} {l pre : List UInt8} {i : Nat} {J : List Value → AHeap → Prop} (hi : i < l.length) (hpre : pre.length ≤ 8796093022208) (hlen : l.length ≤ 1099511627776) (hB : ¬ Bad (nt (l.drop i)))
    (h92 : (rd (nt (l.drop i))).1 ≠ 92) (h34 : (rd (nt (l.drop i))).1 ≠ 34) (h10 : (rd (nt (l.drop i))).1 ≠ 10)
    (fin : J [bstr (34 :: pre ++ pc (l.drop i))] H) :
    S17_63 (bstr l) [bstr (34 :: pre), .int .i64 (i : Nat)] (.int .i64 ((rd (nt (l.drop i))).1 : Nat)) (.int .i64 (wd (l.drop i) : Nat)) J H := by
  have hne : l.drop i ≠ [] := fun e => by have := congrArg List.length e; rw [List.length_drop] at this; simp at this; omega
  have hw := wd_fit hne
  rw [List.length_drop] at hw
  have htk := take_encU hne hB
  have hp : pc (l.drop i) = esc (rd (nt (l.drop i))).1 := by unfold pc; rw [if_neg hB]
  have hle := scal_le (enc_rd (nt_lt (l.drop i)) (nt_ne hne) hB).1
  rw [hp] at fin
  generalize (rd (nt (l.drop i))).1 = c at *
  have dT : ∀ n : Nat, c = n → decide ((c : Int) = (n : Int)) = true := fun n h => decide_eq_true (by omega)
  have dF : ∀ n : Nat, c ≠ n → decide ((c : Int) = (n : Int)) = false := fun n h => decide_eq_false (by omega)
  have he0 : esc c = if c = 9 then [92, 116] else if c = 13 then [92, 114] else if c < 32 ∨ c = 127 then 92 :: 120 :: (hex1 c ++ [59]) else encU c := by
    unfold esc
    rw [if_neg (by omega), if_neg h10]
  rw [he0] at fin
  unfold S17_63
  simp only [aBin_eql, bnd_some', nth_zero, nth_1]
  by_cases h9 : c = 9
  · rw [show decide ((c : Int) = 9) = true from dT 9 h9, aCond_true]
    rw [if_pos h9] at fin
    rw [show (.string ⟨#[92, 116]⟩ : Value) = bstr [92, 116] from rfl, aBin_sadd _ _ _ (by simp; omega), bnd_some']
    exact fin
  rw [show decide ((c : Int) = 9) = false from dF 9 h9, aCond_false]
  rw [if_neg h9] at fin
  by_cases h13 : c = 13
  · rw [show decide ((c : Int) = 13) = true from dT 13 h13, aCond_true]
    rw [if_pos h13] at fin
    rw [show (.string ⟨#[92, 114]⟩ : Value) = bstr [92, 114] from rfl, aBin_sadd _ _ _ (by simp; omega), bnd_some']
    exact fin
  rw [show decide ((c : Int) = 13) = false from dF 13 h13, aCond_false]
  rw [if_neg h13] at fin
  unfold S17_62
  simp only [aBin_lss, bnd_some', nth_zero, nth_1]
  have hx : c < 32 ∨ c = 127 → bnd (aBin .add .no (bstr (34 :: pre)) (.string ⟨#[92, 120]⟩)) fun t75_54 =>
      ACalls Tryd.prog 32 [.int .i64 (c : Nat)] H fun t77_55 H_56 => bnd (aBin .add .no t75_54 t77_55) fun t78_57 => bnd (aBin .add .no t78_57 (.string ⟨#[59]⟩)) fun t79_58 => J [t79_58] H_56 := by
    intro hc
    rw [if_pos hc] at fin
    have h2 : (hex1 c).length ≤ 2 := by unfold hex1; split <;> simp
    rw [show (.string ⟨#[92, 120]⟩ : Value) = bstr [92, 120] from rfl, aBin_sadd _ _ _ (by simp; omega), bnd_some']
    refine (c32 c (by omega)).use ?_
    rw [aBin_sadd _ _ _ (by simp; omega), bnd_some', show (.string ⟨#[59]⟩ : Value) = bstr [59] from rfl, aBin_sadd _ _ _ (by simp; omega), bnd_some']
    have e : 34 :: pre ++ [92, 120] ++ hex1 c ++ [59] = 34 :: pre ++ 92 :: 120 :: (hex1 c ++ [59]) := by simp
    rw [e]
    exact fin
  by_cases h32 : c < 32
  · rw [show decide ((c : Int) < 32) = true from decide_eq_true (by omega)]
    simp only [aGuardK_tf, aPick_tt, bnd_some', aCond_true]
    exact hx (.inl h32)
  rw [show decide ((c : Int) < 32) = false from decide_eq_false (by omega)]
  simp only [aGuardK_ff, aBin_eql, bnd_some', aPick_ff]
  by_cases h127 : c = 127
  · rw [show decide ((c : Int) = 127) = true from dT 127 h127, aCond_true]
    exact hx (.inr h127)
  rw [show decide ((c : Int) = 127) = false from dF 127 h127, aCond_false]
  rw [if_neg (by omega), htk] at fin
  rw [show aBin .add .no (.int .i64 (i : Int)) (.int .i64 (wd (l.drop i) : Nat)) = some (.int .i64 ((i + wd (l.drop i) : Nat) : Int)) from addN i _ (by omega), bnd_some', str_sub l (by omega) (by omega), bnd_some', show i + wd (l.drop i) - i = wd (l.drop i) by omega]
  rw [aBin_sadd _ _ _ (by simp; omega), bnd_some']
  exact fin

set_option maxHeartbeats 1000000 in
theorem c17 {H : AHeap} (l : List UInt8) (hlen : l.length ≤ 1099511627776) : ACalls Tryd.prog 17 [bstr l] H fun v H' => v = bstr (34 :: (quo l ++ [34])) ∧ H' = H := by
  refine ACalls.eq (S17_calls ?_) rfl
  unfold S17
  rw [aStrBytes_eq]
  have hsz : (ba l).size = l.length := ba_size l
  refine ⟨by rw [hsz]; omega, ?_⟩
  have hA1 := rdStr H l 5
  have hk0 : Keep H.next H (H.alloc (.cells (byteCells (ba l)) .read 5)) := (Keep.refl _ _).alloc (Nat.le_refl _) _
  have hn1 : (H.alloc (.cells (byteCells (ba l)) .read 5)).next = H.next + 1 := rfl
  have hql := quo_len l
  rw [hsz]
  generalize H.alloc (.cells (byteCells (ba l)) .read 5) = H1 at hA1 hk0 hn1
  rw [← hn1] at hA1
  refine aLoop_inv (fun m vs H2 => ∃ i pre, m = l.length - i ∧ i ≤ l.length ∧ vs = [bstr (34 :: pre), .int .i64 (i : Nat)] ∧ pre ++ quo (l.drop i) = quo l ∧ Keep H1.next H1 H2) l.length ⟨0, [], by simp, Nat.zero_le _, rfl, rfl, Keep.refl _ _⟩ ?_
  rintro m vs H2 again ⟨i, pre, rfl, hi, rfl, hpre, hk2⟩ hag
  have hpl : pre.length + (quo (l.drop i)).length = (quo l).length := by rw [← hpre, List.length_append]
  have hA2 := hA1.kept hk2
  unfold S17_67
  rw [aLenSl_slice, bnd_some', nth_1, aBin_lss, bnd_some']
  refine aCond_of (fun hlt => ?_) (fun hge => ?_)
  · have hlt : i < l.length := by have := of_decide_eq_true hlt; omega
    have hne : l.drop i ≠ [] := fun e => by have := congrArg List.length e; rw [List.length_drop] at this; simp at this; omega
    have hw := wd_fit hne
    rw [List.length_drop] at hw
    unfold S17_65
    rw [nth_1]
    have hone := c30 (a := i) hA2 (nt_lt l) (by rw [nt_len]; exact hlt) (by rw [nt_len]; omega)
    rw [nt_len, ← nt_drop] at hone
    refine hone.use ?_
    refine bnd_iff.2 ⟨.int .i64 ((oneV (nt (l.drop i))).1 : Nat), rfl, bnd_iff.2 ⟨.int .i64 ((oneV (nt (l.drop i))).2 : Nat), rfl, ?_⟩⟩
    have go : ∀ H3, Keep H1.next H1 H3 → again [bstr (34 :: pre ++ pc (l.drop i)), .int .i64 ((i + wd (l.drop i) : Nat) : Int)] H3 := by
      intro H3 hk3
      refine hag (l.length - (i + wd (l.drop i))) _ _ (by omega) ⟨i + wd (l.drop i), pre ++ pc (l.drop i), rfl, by omega, rfl, ?_, hk3⟩
      rw [List.append_assoc, ← List.drop_drop, ← quo_step hne, hpre]
    rw [aBin_eql, bnd_some']
    by_cases hB : Bad (nt (l.drop i))
    · have e1 : oneV (nt (l.drop i)) = (0, 0) := by unfold oneV; rw [if_pos hB]
      rw [e1, show decide ((((0, 0) : Nat × Nat).2 : Int) = 0) = true from rfl, aCond_true]
      unfold S17_16
      rw [nth_zero, nth_1, show aBin .add .no (.int .i64 (i : Int)) (.int .i64 1) = some (.int .i64 ((i + 1 : Nat) : Int)) from addN i 1 (by omega), bnd_some', str_sub l (by omega) (by omega), bnd_some', aBin_sadd _ _ _ (by simp; omega), bnd_some', bnd_some']
      have := go H2 hk2
      have e : pc (l.drop i) = (l.drop i).take 1 := by unfold pc; rw [if_pos hB]
      rw [e, bad_wd hB] at this
      rw [show i + 1 - i = 1 by omega]
      exact this
    · have e1 : oneV (nt (l.drop i)) = rd (nt (l.drop i)) := by unfold oneV; rw [if_neg hB]
      rw [e1, show decide ((((rd (nt (l.drop i))).2 : Nat) : Int) = 0) = false from decide_eq_false (by unfold wd at hw; omega), aCond_false]
      unfold S17_64
      rw [aJoin_eq]
      have hpc : pc (l.drop i) = esc (rd (nt (l.drop i))).1 := by unfold pc; rw [if_neg hB]
      have hle := scal_le (enc_rd (nt_lt (l.drop i)) (nt_ne hne) hB).1
      have hp5 := pc_len (l := l.drop i)
      have fin : ∀ H3, Keep H1.next H1 H3 → (fun vs_17 H_18 => bnd (aBin .add .no (nth [bstr (34 :: pre), .int .i64 (i : Nat)] 1) (.int .i64 ((rd (nt (l.drop i))).2 : Nat))) fun t82_20 => again [(nth vs_17 0), t82_20] H_18) [bstr (34 :: pre ++ pc (l.drop i))] H3 := by
        intro H3 hk3
        show bnd (aBin .add .no (.int .i64 (i : Nat)) (.int .i64 (wd (l.drop i) : Nat))) _
        rw [show aBin .add .no (.int .i64 (i : Int)) (.int .i64 (wd (l.drop i) : Nat)) = some (.int .i64 ((i + wd (l.drop i) : Nat) : Int)) from addN i _ (by omega), bnd_some']
        exact go H3 hk3
      generalize hJ : (fun vs_17 H_18 => bnd (aBin .add .no (nth [bstr (34 :: pre), .int .i64 (i : Nat)] 1) (.int .i64 ((rd (nt (l.drop i))).2 : Nat))) fun t82_20 => again [(nth vs_17 0), t82_20] H_18) = J at *
      have hq : ∀ n : Nat, (rd (nt (l.drop i))).1 = n → n = 92 ∨ n = 34 → bnd (aBin .add .no (bstr (34 :: pre)) (.string ⟨#[92]⟩)) fun t47_32 => ACalls Tryd.prog 31 [.int .i64 ((rd (nt (l.drop i))).1 : Nat)] H2 fun t49_33 H_34 => bnd (aBytesStr t49_33 H_34) fun t50_35 => bnd (aBin .add .no t47_32 t50_35) fun t51_36 => J [t51_36] H_34 := by
        intro n hn h
        rw [show (.string ⟨#[92]⟩ : Value) = bstr [92] from rfl, aBin_sadd _ _ _ (by simp; omega), bnd_some']
        refine (c31 hle).mono fun v H3 hv => ?_
        obtain ⟨A, rfl, hO, hk3⟩ := hv
        have hel := encU_len (rd (nt (l.drop i))).1
        have hep := enc_pos (rd (nt (l.drop i))).1
        rw [BytesN.str hO.rd (enc_lt hle), bnd_some', aBin_sadd _ _ _ (by simp; omega), bnd_some']
        have := fin H3 (hk2.trans (hk3.lower hk2.next))
        have e2 : esc (rd (nt (l.drop i))).1 = 92 :: encU (rd (nt (l.drop i))).1 := by unfold esc; rw [if_pos (by omega)]
        rw [hpc, e2] at this
        have e3 : 34 :: pre ++ [92] ++ (enc (rd (nt (l.drop i))).1).map UInt8.ofNat = 34 :: pre ++ 92 :: encU (rd (nt (l.drop i))).1 := by simp [encU]
        rw [e3]
        exact this
      rw [aBin_eql, bnd_some']
      by_cases h92 : (rd (nt (l.drop i))).1 = 92
      · rw [show decide ((((rd (nt (l.drop i))).1 : Nat) : Int) = 92) = true from decide_eq_true (by omega)]
        simp only [aGuardK_tf, aPick_tt, bnd_some', aCond_true, nth_zero]
        exact hq 92 h92 (.inl rfl)
      rw [show decide ((((rd (nt (l.drop i))).1 : Nat) : Int) = 92) = false from decide_eq_false (by omega)]
      simp only [aGuardK_ff, aBin_eql, bnd_some', aPick_ff, nth_zero]
      by_cases h34 : (rd (nt (l.drop i))).1 = 34
      · rw [show decide ((((rd (nt (l.drop i))).1 : Nat) : Int) = 34) = true from decide_eq_true (by omega), aCond_true]
        exact hq 34 h34 (.inr rfl)
      rw [show decide ((((rd (nt (l.drop i))).1 : Nat) : Int) = 34) = false from decide_eq_false (by omega), aCond_false]
      by_cases h10 : (rd (nt (l.drop i))).1 = 10
      · rw [show decide ((((rd (nt (l.drop i))).1 : Nat) : Int) = 10) = true from decide_eq_true (by omega), aCond_true]
        rw [show (.string ⟨#[92, 110]⟩ : Value) = bstr [92, 110] from rfl, aBin_sadd _ _ _ (by simp; omega), bnd_some']
        have := fin H2 hk2
        have e2 : esc (rd (nt (l.drop i))).1 = [92, 110] := by rw [h10]; rfl
        rw [hpc, e2] at this
        exact this
      rw [show decide ((((rd (nt (l.drop i))).1 : Nat) : Int) = 10) = false from decide_eq_false (by omega), aCond_false]
      exact s17_63 hlt (by omega) hlen hB h92 h34 h10 (fin H2 hk2)
  · have hge : i = l.length := by have := of_decide_eq_false hge; omega
    subst hge
    rw [List.drop_length, quo_nil, List.append_nil] at hpre
    subst hpre
    rw [nth_zero, show (.string ⟨#[34]⟩ : Value) = bstr [34] from rfl, aBin_sadd _ _ _ (by simp; omega), bnd_some']
    exact ⟨rfl, hk0.trans (hk2.lower (by omega))⟩
end Go.Proofs.YtnbnojkfhfkecaaDoor.A.U
