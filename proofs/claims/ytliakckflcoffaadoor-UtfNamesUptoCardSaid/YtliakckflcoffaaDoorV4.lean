/- What a character is called. -/
import Derived.Test.YtliakckflcoffaaDoorV3
set_option linter.unusedVariables false
set_option linter.unusedSimpArgs false
set_option maxRecDepth 100000
namespace Go.Proofs.YtliakckflcoffaaDoor.A
open Go Go.Abs
open Go.Lib (decodeN firstT accLo accHi)

theorem nGlob : Tryd.prog.globals.size = 9 := by kernel_rfl
theorem cellOf {G B g : Nat} {φ : Phi} {H : AHeap} {w : World} {cs : List Value} {t : TypeId} (hr : Rel G B φ H w) (hg : g < G) (hat : H.at_ g = .cells cs .read t) (hpl : cs.all Abs.plainCell = true) (j : Nat) (hj : j < cs.length) : w.cell? ⟨g, j, none⟩ = some cs[j] := by
  obtain ⟨p, hp, h1, h2⟩ := hr.glob g hg
  have hB := hr.blk g p hp
  rw [hat] at hB
  obtain ⟨c, t', fr, g0, g1, g2, g3, g4, g5, g6, g7⟩ := hB
  have e1 := plains_same g3 hpl
  rw [h2, List.drop_zero] at e1
  rw [h1] at g0
  have e2 : c[j]? = cs[j]? := by
    have := congrArg (fun l : List Value => l[j]?) e1
    simp only [List.getElem?_take, hj, if_true, Array.getElem?_toList] at this
    exact this
  unfold World.cell?
  dsimp only
  rw [g0]
  show c[j]? = _
  rw [e2, List.getElem?_eq_getElem hj]
theorem utf8Tabs {B : Nat} {φ : Phi} {H : AHeap} {w : World} (hT : Tabs H) (hr : Rel Tryd.prog.globals.size B φ H w) : Lib.Utf8Tabs 1 2 w := by
  have p1 : firstCells.all Abs.plainCell = true := by
    unfold firstCells
    rw [List.all_map]
    exact List.all_eq_true.2 fun _ _ => rfl
  have p2 : accCells.all Abs.plainCell = true := by rfl
  have l1 : firstCells.length = 256 := by simp [firstCells]
  refine ⟨fun c hc => ?_, fun i hi => ?_⟩
  · rw [cellOf hr (by rw [nGlob]; decide) hT.first p1 c (by omega)]
    have := firstCells_at hc
    rw [List.getElem?_eq_getElem (by omega)] at this
    exact this
  · have h0 := cellOf hr (by rw [nGlob]; decide) hT.acc p2 (2 * i) (by rw [accCells_len]; omega)
    have h1 := cellOf hr (by rw [nGlob]; decide) hT.acc p2 (2 * i + 1) (by rw [accCells_len]; omega)
    have ha := accCells_at hi
    have a0 := congrArg (fun l : List Value => l[0]?) ha
    have a1 := congrArg (fun l : List Value => l[1]?) ha
    simp only [List.getElem?_take, List.getElem?_drop, Nat.mul_comm i 2] at a0 a1
    rw [h0, h1, ← List.getElem?_eq_getElem, ← List.getElem?_eq_getElem]
    exact ⟨by simpa using a0, by simpa using a1⟩
/-- What the decoder tells of a text, whichever. -/
def rdG (l : List UInt8) : Nat × Nat := if l = [] then (65533, 0) else rd (nt l)
theorem c34 {H : AHeap} (hT : Tabs H) (l : List UInt8) : ACalls Tryd.prog 34 [bstr l] H fun v H' => v = .tuple #[.int .i32 ((rdG l).1 : Nat), .int .i64 ((rdG l).2 : Nat)] ∧ H' = H := by
  intro B φ w cargs hrel hv
  obtain rfl := plains_same hv rfl
  refine (Sh.utf8_DecodeRuneInString (ba l) w (utf8Tabs hT hrel)).mono fun e w' ⟨h1, h2⟩ => ?_
  subst h1
  have hd : Lib.decodeGo (ba l) = rdG l := by
    unfold rdG
    split
    · rename_i h; subst h; rfl
    · rename_i h; exact decodeGo_nt h
  rw [hd]
  refine ⟨_, H, φ, _, rfl, ⟨rfl, rfl⟩, Step.grown hrel h2.os h2.tape h2.output h2.size h2.block, .tuple rfl fun i u v hu hv => ?_⟩
  match i, hu, hv with
  | 0, hu, hv => simp at hu hv; subst hu; subst hv; exact .plain rfl
  | 1, hu, hv => simp at hu hv; subst hu; subst hv; exact .plain rfl
  | i + 2, hu, hv => simp at hu

/-! Characters that have a name. -/
def nmKey : Nat → Nat
  | 0 => 32 | 1 => 10 | 2 => 9 | 3 => 13 | 4 => 0 | _ => 127
def nmTxt : Nat → List UInt8
  | 0 => [115, 112, 97, 99, 101] | 1 => [110, 101, 119, 108, 105, 110, 101] | 2 => [116, 97, 98] | 3 => [114, 101, 116, 117, 114, 110] | 4 => [110, 117, 108, 108] | _ => [100, 101, 108, 101, 116, 101]
theorem nm_at : ∀ i : Nat, i < 6 → aIdxArr 6 true 2 (.agg namesC.toArray) (.int .i64 ((i : Nat) : Int)) = some (.agg #[.int .i64 (nmKey i : Nat), bstr (nmTxt i)])
  | 0, _ => by kernel_rfl | 1, _ => by kernel_rfl | 2, _ => by kernel_rfl | 3, _ => by kernel_rfl | 4, _ => by kernel_rfl | 5, _ => by kernel_rfl
  | n + 6, h => absurd h (by omega)
def nmc (c : Nat) : List UInt8 := if c = 32 then nmTxt 0 else if c = 10 then nmTxt 1 else if c = 9 then nmTxt 2 else if c = 13 then nmTxt 3 else if c = 0 then nmTxt 4 else if c = 127 then nmTxt 5 else if c < 32 then 120 :: hex1 c else encU c
def nm (c : Int) : List UInt8 × Int := if scal c = true then (nmc c.toNat, 0) else ([], 1)
theorem nm_key : ∀ i : Nat, i < 6 → nmc (nmKey i) = nmTxt i
  | 0, _ => rfl | 1, _ => rfl | 2, _ => rfl | 3, _ => rfl | 4, _ => rfl | 5, _ => rfl
  | n + 6, h => absurd h (by omega)
theorem nm_no {c : Nat} (h : ∀ j, j < 6 → c ≠ nmKey j) : nmc c = if c < 32 then 120 :: hex1 c else encU c := by
  have h0 := h 0 (by decide)
  have h1 := h 1 (by decide)
  have h2 := h 2 (by decide)
  have h3 := h 3 (by decide)
  have h4 := h 4 (by decide)
  have h5 := h 5 (by decide)
  simp only [nmKey] at h0 h1 h2 h3 h4 h5
  unfold nmc
  rw [if_neg h0, if_neg h1, if_neg h2, if_neg h3, if_neg h4, if_neg h5]
theorem hex1_le (c : Nat) : (hex1 c).length ≤ 2 := by unfold hex1; split <;> simp
theorem scal_cast {c : Int} (h : scal c = true) : ∃ n : Nat, c = n ∧ n ≤ 1114111 := by
  simp [scal] at h
  exact ⟨c.toNat, by omega, by omega⟩

/-- A pair, laid out. -/
theorem pairSt {H : AHeap} {a b : Value} (ha : okCell a = true) (hb : okCell b = true) :
    aSt 2 (.pointer (some ⟨H.next, 0, none⟩)) (.agg #[a, b]) (H.alloc (.cells [.int .i64 0, .string ⟨#[]⟩] .var 53)) = some ((H.alloc (.cells [.int .i64 0, .string ⟨#[]⟩] .var 53)).upd H.next (.cells [a, b] .var 53)) := by
  rw [aSt_ptr, AHeap.at_alloc_new, blkSt_cells, vcells_agg, if_pos ⟨rfl, rfl, by decide, by simp [ha, hb]⟩]
  rfl
theorem pairAt {H : AHeap} {a b : Value} : ((H.alloc (.cells [.int .i64 0, .string ⟨#[]⟩] .var 53)).upd H.next (.cells [a, b] .var 53)).at_ H.next = .cells [a, b] .var 53 := AHeap.at_upd_same _ _ _
theorem fld {H : AHeap} {b j : Nat} {cs : List Value} {k : Use} {t : TypeId} {v : Value} (hat : H.at_ b = .cells cs k t) (hj : cs[j]? = some v) (K : Value → Prop) (h : K v) : bnd (aAdd j (.pointer (some ⟨b, 0, none⟩))) (fun p => bnd (aLdCell p H) K) := by
  rw [aAdd_ptr, bnd_some', Nat.zero_add, aLdCell_ptr, hat, blkCell_cells, hj, bnd_some']
  exact h
theorem namesAgg {H : AHeap} (hT : Tb H) : aLdAgg 12 (.pointer (some ⟨0, 0, none⟩)) H = some (.agg namesC.toArray) := by
  rw [aLdAgg_ptr, hT.names]
  rfl

/-- Name. -/
theorem c22 {H : AHeap} (hT : Tb H) (c : Int) : ACalls Tryd.prog 22 [.int .i64 c] H fun v H' => v = .tuple #[bstr (nm c).1, .int .i64 (nm c).2] ∧ H' = H := by
  refine ACalls.eq' (S22_calls ?_) (vin_two rfl rfl)
  unfold S22
  refine c14.use ?_
  rw [aUn_not, bnd_some']
  unfold nm
  cases hs : scal c with
  | false =>
    rw [Bool.not_false, aCond_true, if_neg (by decide)]
    exact ⟨rfl, Keep.refl _ _⟩
  | true =>
    rw [Bool.not_true, aCond_false, if_pos rfl, namesAgg hT, bnd_some']
    obtain ⟨n, rfl, hn⟩ := scal_cast hs
    rw [Int.toNat_natCast]
    refine aLoop_vs 6 (fun i vs H2 => i ≤ 6 ∧ vs = [.int .i64 (i : Nat)] ∧ Keep H.next H H2 ∧ ∀ j, j < i → n ≠ nmKey j) ⟨Nat.zero_le _, rfl, Keep.refl _ _, fun j h => absurd h (Nat.not_lt_zero j)⟩ ?_
    rintro i vs H2 again hi ⟨_, rfl, hk2, hno⟩ hag
    unfold S22_26
    rw [nth_zero, aBin_lss, bnd_some']
    refine aCond_of (fun hlt => ?_) (fun hge => ?_)
    · have hlt : i < 6 := by have := of_decide_eq_true hlt; omega
      unfold S22_18
      rw [nth_zero, nm_at i hlt, bnd_some', aAlloc_eq, pairSt rfl rfl, bnd_some']
      have hk3 : Keep H.next H ((H2.alloc (.cells [.int .i64 0, .string ⟨#[]⟩] .var 53)).upd H2.next (.cells [.int .i64 (nmKey i : Nat), bstr (nmTxt i)] .var 53)) := (hk2.alloc hk2.next _).upd hk2.next _
      refine fld pairAt rfl _ ?_
      rw [aBin_eql, bnd_some']
      refine aCond_of (fun he => ?_) (fun hne => ?_)
      · have he : n = nmKey i := by have := of_decide_eq_true he; omega
        refine fld pairAt rfl _ ?_
        rw [he, nm_key i hlt]
        exact ⟨rfl, hk3⟩
      · have hne : n ≠ nmKey i := by have := of_decide_eq_false hne; omega
        rw [show aBin .add .no (.int .i64 (i : Int)) (.int .i64 1) = some (.int .i64 ((i + 1 : Nat) : Int)) from addN i 1 (by omega), bnd_some']
        refine hag _ _ hlt ⟨by omega, rfl, hk3, fun j hj => ?_⟩
        rcases Nat.lt_or_ge j i with h | h
        · exact hno j h
        · obtain rfl : j = i := by omega
          exact hne
    · have hge : i = 6 := by have := of_decide_eq_false hge; omega
      subst hge
      have hT2 := hT.kept hk2
      rw [nm_no hno]
      unfold S22_25
      rw [aBin_lss, bnd_some']
      refine aCond_of (fun h32 => ?_) (fun h32 => ?_)
      · have h32 : n < 32 := by have := of_decide_eq_true h32; omega
        rw [if_pos h32]
        refine (c32 hT2 n (by omega)).use ?_
        have := hex1_le n
        rw [show (.string ⟨#[120]⟩ : Value) = bstr [120] from rfl, aBin_sadd _ _ _ (by simp; omega), bnd_some']
        exact ⟨rfl, hk2⟩
      · have h32 : ¬ n < 32 := by have := of_decide_eq_false h32; omega
        rw [if_neg h32, aConvInt_int, w32 n (by omega), bnd_some', rune_encU hs, bnd_some']
        exact ⟨rfl, hk2⟩

/-- .. by definition. -/
theorem c23 {H : AHeap} (c : Int) : ACalls Tryd.prog 23 [.int .i64 c] H fun v H' => v = .tuple #[bstr (nm c).1, .int .i64 (nm c).2] ∧ H' = H := by
  refine ACalls.eq' (S23_calls ?_) (vin_two rfl rfl)
  unfold S23
  refine c15.use ?_
  rw [aUn_not, bnd_some']
  unfold nm
  cases hs : scal c with
  | false =>
    rw [Bool.not_false, aCond_true, if_neg (by decide)]
    exact ⟨rfl, Keep.refl _ _⟩
  | true =>
    rw [Bool.not_true, aCond_false, if_pos rfl]
    obtain ⟨n, rfl, hn⟩ := scal_cast hs
    rw [Int.toNat_natCast]
    have dT : ∀ k : Nat, n = k → decide ((n : Int) = (k : Int)) = true := fun k h => decide_eq_true (by omega)
    have dF : ∀ k : Nat, n ≠ k → decide ((n : Int) = (k : Int)) = false := fun k h => decide_eq_false (by omega)
    unfold nmc
    unfold S23_19
    simp only [aBin_eql, bnd_some']
    by_cases h0 : n = 32
    · rw [show decide ((n : Int) = 32) = true from dT 32 h0, aCond_true, if_pos h0]
      exact ⟨rfl, Keep.refl _ _⟩
    rw [show decide ((n : Int) = 32) = false from dF 32 h0, aCond_false, if_neg h0]
    by_cases h1 : n = 10
    · rw [show decide ((n : Int) = 10) = true from dT 10 h1, aCond_true, if_pos h1]
      exact ⟨rfl, Keep.refl _ _⟩
    rw [show decide ((n : Int) = 10) = false from dF 10 h1, aCond_false, if_neg h1]
    unfold S23_18
    simp only [aBin_eql, bnd_some']
    by_cases h2 : n = 9
    · rw [show decide ((n : Int) = 9) = true from dT 9 h2, aCond_true, if_pos h2]
      exact ⟨rfl, Keep.refl _ _⟩
    rw [show decide ((n : Int) = 9) = false from dF 9 h2, aCond_false, if_neg h2]
    by_cases h3 : n = 13
    · rw [show decide ((n : Int) = 13) = true from dT 13 h3, aCond_true, if_pos h3]
      exact ⟨rfl, Keep.refl _ _⟩
    rw [show decide ((n : Int) = 13) = false from dF 13 h3, aCond_false, if_neg h3]
    unfold S23_17
    simp only [aBin_eql, bnd_some']
    by_cases h4 : n = 0
    · rw [show decide ((n : Int) = 0) = true from dT 0 h4, aCond_true, if_pos h4]
      exact ⟨rfl, Keep.refl _ _⟩
    rw [show decide ((n : Int) = 0) = false from dF 0 h4, aCond_false, if_neg h4]
    by_cases h5 : n = 127
    · rw [show decide ((n : Int) = 127) = true from dT 127 h5, aCond_true, if_pos h5]
      exact ⟨rfl, Keep.refl _ _⟩
    rw [show decide ((n : Int) = 127) = false from dF 127 h5, aCond_false, if_neg h5]
    unfold S23_16
    rw [aBin_lss, bnd_some']
    refine aCond_of (fun h32 => ?_) (fun h32 => ?_)
    · have h32 : n < 32 := by have := of_decide_eq_true h32; omega
      rw [if_pos h32]
      refine (c33 n (by omega)).use ?_
      have := hex1_le n
      rw [show (.string ⟨#[120]⟩ : Value) = bstr [120] from rfl, aBin_sadd _ _ _ (by simp; omega), bnd_some']
      exact ⟨rfl, Keep.refl _ _⟩
    · have h32 : ¬ n < 32 := by have := of_decide_eq_false h32; omega
      rw [if_neg h32]
      refine (c31 hn).mono fun v H3 hv => ?_
      obtain ⟨A, rfl, hO, hk3⟩ := hv
      rw [BytesN.str hO.rd (enc_lt hn), bnd_some']
      exact ⟨rfl, hk3⟩
end Go.Proofs.YtliakckflcoffaaDoor.A
