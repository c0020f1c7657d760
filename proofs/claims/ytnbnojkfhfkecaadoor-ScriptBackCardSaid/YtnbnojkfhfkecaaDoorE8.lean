/- Contracts of functions that the statement reaches; each theorem carries its own conditions, the last theorem of the claim has none. -/
import Derived.Test.YtnbnojkfhfkecaaDoorE7
/- ScriptBack. -/
set_option linter.unusedVariables false
set_option linter.unusedSimpArgs false
set_option maxRecDepth 100000
namespace Go.Proofs.YtnbnojkfhfkecaaDoor.A
open Go Go.Abs

theorem bytesOfBy {lo : Nat} {H : AHeap} {A : Option Addr} {bs : List UInt8} (h : By lo H A bs) (c : Nat) : aBytesStr (.slice A bs.length c) H = some (bstr bs) := by
  unfold aBytesStr
  rw [h.row]
  simp only [Option.bind_some]
  rw [flat_eU, bytesOf_u8c]
  rfl

set_option maxHeartbeats 1000000 in
theorem c7 {H : AHeap} {A : Option Addr} {ps : List Chunk} {f c d : Int} (hT : TbM H) (hf : I64 f) (hc : I64 c) (hd' : I64 d) (hR : Chs H.next H A ps) (hn : ps.length ≤ 9223372036854775807) :
    ACalls Tryd.prog 7 [eLim f c d, .slice A ps.length ps.length] H fun v H' => v = .bool true ∧ H' = H := by
  refine ACalls.eq (S7_calls ?_) rfl
  unfold S7
  rw [aBox_eq]
  refine ⟨rfl, ?_⟩
  have e0 : vcells (eLim f c d) = [.int .i64 f, .int .i64 c, .int .i64 d] := rfl
  rw [e0]
  have h8 := hT.tb.next
  have hat : (H.alloc (.cells [.int .i64 f, .int .i64 c, .int .i64 d] .var 27)).at_ H.next = .cells [.int .i64 f, .int .i64 c, .int .i64 d] .var 27 := AHeap.at_alloc_new _ _
  have hk : Keep H.next H (H.alloc (.cells [.int .i64 f, .int .i64 c, .int .i64 d] .var 27)) := (Keep.refl _ _).alloc (Nat.le_refl _) _
  have hnx : (H.alloc (.cells [.int .i64 f, .int .i64 c, .int .i64 d] .var 27)).next = H.next + 1 := rfl
  generalize H.alloc (.cells [.int .i64 f, .int .i64 c, .int .i64 d] .var 27) = H1 at hat hk hnx
  have hTk : ∀ {H' : AHeap}, Keep H.next H H' → TbM H' := fun {H'} k => hT.kept k
  have hR1 : Chs H1.next H1 A ps := (hR.keep hk.at_).up (by omega)
  refine (c11 (hTk hk).tb).use ?_
  unfold S7_133
  simp only [aUn_not, bnd_some', Bool.not_true, aGuardK_ff]
  refine (c12 hR1 hn).mono ?_
  rintro v H2 ⟨⟨b, rfl, hb⟩, rfl⟩
  simp only [aUn_not, bnd_some', aPick_ff]
  have ans : ∀ (K : Value → AHeap → Prop), K (.bool true) H2 → ACalls Tryd.prog 11 [] H2 K := fun K h => (c11 (hTk hk).tb).use h
  cases b with
  | false =>
    simp only [Bool.not_false, aGuardK_tf, aPick_tt, bnd_some', aCond_true]
    exact ans _ ⟨rfl, hk⟩
  | true =>
    obtain ⟨hn3, hl3⟩ := hb rfl
    simp only [Bool.not_true, aGuardK_ff, aLenSl_slice, bnd_some', aBin_gtr, aPick_ff]
    refine aCond_of (fun hbig => ans _ ⟨rfl, hk⟩) (fun hsm => ?_)
    have hsm : ps.length ≤ 256 := by have := of_decide_eq_false hsm; omega
    unfold S7_132
    have hagg : ∀ {H' : AHeap}, Keep (H.next + 1) H2 H' → aLdAgg 3 (.pointer (some ⟨H.next, 0, none⟩)) H' = some (eLim f c d) := by
      intro H' k
      rw [aLdAgg_ptr, k.at_ _ (by omega), hat]
      rfl
    rw [hagg (Keep.refl _ _), bnd_some']
    refine (c14 hR1 (by omega) fun p hp => by have := hl3 p hp; omega).mono ?_
    rintro v H3 ⟨B, qs, rfl, hq, hQ, hk3⟩
    rw [hnx] at hk3
    rw [hagg hk3, bnd_some']
    refine ⟨rfl, ?_⟩
    have hql : qs.length = ps.length := by have := congrArg List.length hq; simpa using this
    have hk3' : Keep H.next H H3 := hk.trans (hk3.lower (by omega))
    refine (c8 (hTk hk3').tb hf hc hd' hQ (by omega) fun q hq' => ?_).use ?_
    · have : q.2 ∈ ps.map (·.2) := by rw [← hq]; exact List.mem_map_of_mem hq'
      obtain ⟨p, hp, he⟩ := List.mem_map.1 this
      have := hl3 p hp
      rw [← he]
      omega
    refine bnd_iff.2 ⟨bstr (putL f c d qs), rfl, bnd_iff.2 ⟨.int .i64 0, rfl, ?_⟩⟩
    have e : putL f c d qs = hd f c d 3 ++ [10] ++ tl (ps.map (·.2)) := by rw [putL, tail_tl, hq]
    rw [e]
    refine (c9 (hTk hk3') hf hc hd' (by simpa using hsm) fun b hb => ?_).mono ?_
    · obtain ⟨p, hp, he⟩ := List.mem_map.1 hb
      have := hl3 p hp
      rw [← he]
      omega
    rintro v H4 ⟨C, rs, rfl, hr, hC, hk4⟩
    have hrl : rs.length = ps.length := by have := congrArg List.length hr; simpa using this
    have hn3' := hk3.next
    have hk4' : Keep H.next H H4 := hk3'.trans (hk4.lower (by omega))
    unfold S7_130
    refine bnd_iff.2 ⟨eLim f c d, rfl, bnd_iff.2 ⟨.slice C rs.length rs.length, rfl, bnd_iff.2 ⟨.int .i64 0, rfl, bnd_iff.2 ⟨.int .i64 0, rfl, ?_⟩⟩⟩⟩
    rw [aAlloc_eq]
    have hn4 := hk4.next
    have hst : aSt 3 (.pointer (some ⟨H4.next, 0, none⟩)) (eLim f c d) (H4.alloc (.cells [.int .i64 0, .int .i64 0, .int .i64 0] .var 27)) = some ((H4.alloc (.cells [.int .i64 0, .int .i64 0, .int .i64 0] .var 27)).upd H4.next (.cells [.int .i64 f, .int .i64 c, .int .i64 d] .var 27)) := by
      rw [aSt_ptr, AHeap.at_alloc_new]; rfl
    rw [hst, bnd_some']
    have hk5 : Keep H4.next H4 ((H4.alloc (.cells [.int .i64 0, .int .i64 0, .int .i64 0] .var 27)).upd H4.next (.cells [.int .i64 f, .int .i64 c, .int .i64 d] .var 27)) := ((Keep.refl _ _).alloc (Nat.le_refl _) _).upd (Nat.le_refl _) _
    have ha5 : aLdAgg 3 (.pointer (some ⟨H4.next, 0, none⟩)) ((H4.alloc (.cells [.int .i64 0, .int .i64 0, .int .i64 0] .var 27)).upd H4.next (.cells [.int .i64 f, .int .i64 c, .int .i64 d] .var 27)) = some (eLim f c d) := by
      rw [aLdAgg_ptr, AHeap.at_upd_same]; rfl
    generalize (H4.alloc (.cells [.int .i64 0, .int .i64 0, .int .i64 0] .var 27)).upd H4.next (.cells [.int .i64 f, .int .i64 c, .int .i64 d] .var 27) = H5 at hk5 ha5
    have hag2 : aLdAgg 3 (.pointer (some ⟨H.next, 0, none⟩)) H5 = some (eLim f c d) := hagg (hk3.trans ((hk4.lower (by omega)).trans (hk5.lower (by omega))))
    have hcmp : aBin .neq (.cells [.int, .int, .int]) (eLim f c d) (eLim f c d) = some (.bool false) := by
      simp [aBin, aEqK, sameCells, sameCell]
    simp only [aBin_neq, bnd_some', decide_true, Bool.not_true, aGuardK_ff, aPick_ff, ha5, hag2, hcmp, aLenSl_slice]
    rw [show decide ((rs.length : Int) = (ps.length : Int)) = true from decide_eq_true (by omega)]
    simp only [Bool.not_true, aCond_false]
    have hk5' : Keep H.next H H5 := hk4'.trans (hk5.lower (by omega))
    have hC5 : Chs H4.next H5 C rs := hC.keep hk5.at_
    have hR5 : Chs H2.next H5 A ps := hR1.keep fun b hb => (hk5.at_ b (by omega)).trans ((hk4.at_ b (by omega)).trans (hk3.at_ b (by omega)))
    refine aLoop_vs rs.length (fun i vs H6 => vs = [.int .i64 i] ∧ H6 = H5) ⟨rfl, rfl⟩ ?_
    rintro i vs H6 again hi ⟨rfl, rfl⟩ hag
    unfold S7_129
    simp only [aLenSl_slice, nth_zero, aBin_lss, bnd_some']
    refine aCond_of (fun hlt => ?_) (fun hge => ⟨trivial, hk5'⟩)
    have hlt : i < rs.length := by have := of_decide_eq_true hlt; omega
    have hltp : i < ps.length := by omega
    have i1 := hC5.rd.idx (k := .i64) (c := rs.length) (j := (i : Int)) (by omega) (by omega)
    have l1 := Rd.ld hC5.rd hlt
    have i2 := hR5.rd.idx (k := .i64) (c := ps.length) (j := (i : Int)) (by omega) (by omega)
    have l2 := Rd.ld hR5.rd hltp
    have heq : (rs[i]).2 = (ps[i]).2 := by
      have g1 : (rs.map (·.2))[i]? = some (rs[i]).2 := by rw [List.getElem?_map, List.getElem?_eq_getElem hlt]; rfl
      have g2 : (ps.map (·.2))[i]? = some (ps[i]).2 := by rw [List.getElem?_map, List.getElem?_eq_getElem hltp]; rfl
      rw [hr, g2] at g1
      exact (Option.some.inj g1).symm
    unfold S7_128
    simp only [nth_zero, i1, l1, i2, l2, bnd_some', Int.toNat_natCast]
    rw [bytesOfBy (hC5.el _ (List.getElem_mem hlt)), bnd_some']
    rw [bytesOfBy (hR5.el _ (List.getElem_mem hltp)), bnd_some', heq, str_ne]
    simp only [decide_true, Bool.not_true, bnd_some', aCond_false, aBin_add]
    rw [wrap64 (by omega) (by omega)]
    exact hag _ _ hlt ⟨by simp, rfl⟩
end Go.Proofs.YtnbnojkfhfkecaaDoor.A
