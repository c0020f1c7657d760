/- UtfNames. -/
import Derived.Test.YtliakckflcoffaaDoorV6
set_option linter.unusedVariables false
set_option linter.unusedSimpArgs false
set_option maxRecDepth 100000
namespace Go.Proofs.YtliakckflcoffaaDoor.A
open Go Go.Abs

theorem nmTxt_not : ∀ j : Nat, j < 6 → ¬ oneC (nmTxt j)
  | 0, _ => by decide +kernel | 1, _ => by decide +kernel | 2, _ => by decide +kernel | 3, _ => by decide +kernel | 4, _ => by decide +kernel | 5, _ => by decide +kernel
  | n + 6, h => absurd h (by omega)
theorem nd_low (n : Nat) (h : n < 32) : nd (120 :: hex1 n) = (((n : Nat) : Int), true) := by
  have : ∀ n : Fin 32, nd (120 :: hex1 n.val) = (((n.val : Nat) : Int), true) := by decide +kernel
  exact this ⟨n, h⟩
theorem nt_encU {n : Nat} (h : n ≤ 1114111) : nt (encU n) = enc n := by
  unfold nt encU
  rw [List.map_map]
  refine (List.map_congr_left fun x hx => ?_).trans (List.map_id _)
  have := enc_lt h x hx
  simp [UInt8.toNat_ofNat']
  omega
theorem one_encU {n : Nat} (h : scal (n : Int) = true) : oneC (encU n) ∧ (rd (nt (encU n))).1 = n := by
  have hle := scal_le h
  have hp := enc_pos n
  have h1 := rd_enc [] h
  have h2 := enc_good [] h
  rw [List.append_nil] at h1 h2
  unfold oneC wd
  rw [nt_encU hle, h1]
  refine ⟨⟨fun e => ?_, h2, by rw [encU_len]⟩, rfl⟩
  have := congrArg List.length e
  rw [encU_len, List.length_nil] at this
  omega
/-- A character's name names it. -/
theorem nd_nmc {n : Nat} (h : scal (n : Int) = true) : nd (nmc n) = (((n : Nat) : Int), true) := by
  by_cases hk : ∃ j, j < 6 ∧ n = nmKey j
  · obtain ⟨j, hj, rfl⟩ := hk
    rw [nm_key j hj, nd_key j hj]
  · rw [nm_no fun j hj e => hk ⟨j, hj, e⟩]
    split
    · rename_i h32; exact nd_low n h32
    · obtain ⟨h1, h2⟩ := one_encU h
      rw [nd_no fun j hj e => nmTxt_not j hj (by rw [← e]; exact h1)]
      unfold ndx
      rw [if_pos h1, h2]

theorem c8 {H : AHeap} (hT : Tb H) (c : Int) (s : List UInt8) (hlen : s.length ≤ 100000000) : ACalls Tryd.prog 8 [.int .i64 c, bstr s] H fun v H' => v = .bool true := by
  refine S8_calls ?_
  unfold S8
  refine (c22 hT c).use ?_
  refine bnd_iff.2 ⟨bstr (nm c).1, rfl, bnd_iff.2 ⟨.int .i64 (nm c).2, rfl, ?_⟩⟩
  refine (c23 c).use ?_
  unfold S8_96
  refine bnd_iff.2 ⟨bstr (nm c).1, rfl, bnd_iff.2 ⟨.int .i64 (nm c).2, rfl, ?_⟩⟩
  refine (c24 hT s hlen).use ?_
  refine bnd_iff.2 ⟨.int .i64 (nd s).1, rfl, bnd_iff.2 ⟨.bool (nd s).2, rfl, ?_⟩⟩
  refine (c25 s hlen).use ?_
  refine bnd_iff.2 ⟨.int .i64 (nd s).1, rfl, bnd_iff.2 ⟨.bool (nd s).2, rfl, ?_⟩⟩
  refine (c11 hT.tabs).use ?_
  unfold S8_95
  have hbb : (!((nd s).2 == (nd s).2)) = false := by simp
  simp only [aUn_not, bnd_some', Bool.not_true, aGuardK_ff, str_ne, decide_true, aPick_ff, aBin_neq, aBin_bneq, hbb, aCond_false]
  cases hs : scal c with
  | false =>
    have hn : nm c = ([], 1) := by unfold nm; rw [hs, if_neg (by decide)]
    rw [hn]
    simp
  | true =>
    obtain ⟨n, rfl, hn⟩ := scal_cast hs
    have hm : nm (n : Int) = (nmc n, 0) := by unfold nm; rw [hs, if_pos rfl, Int.toNat_natCast]
    rw [hm]
    simp only [decide_true, Bool.not_true, aCond_false]
    have hl : (nmc n).length ≤ 100000000 := by
      have h1 := hex1_le n
      have h2 := enc_pos n
      have h3 := encU_len n
      unfold nmc
      (repeat' split) <;> simp [nmTxt] <;> omega
    refine (c24 hT (nmc n) hl).use ?_
    rw [nd_nmc hs]
    unfold S8_94
    refine bnd_iff.2 ⟨.int .i64 (n : Nat), rfl, bnd_iff.2 ⟨.bool true, rfl, ?_⟩⟩
    simp
end Go.Proofs.YtliakckflcoffaaDoor.A
