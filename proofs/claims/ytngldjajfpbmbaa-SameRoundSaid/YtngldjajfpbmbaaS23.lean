/- Contracts of functions that the statement reaches; each theorem carries its own conditions, the last theorem of the claim has none. -/
import Derived.Test.YtngldjajfpbmbaaS22
set_option linter.unusedVariables false
set_option linter.unusedSimpArgs false
namespace Go.Proofs.Ytngldjajfpbmbaa.A
open Go Go.Abs

theorem slotsOf_le {m : Sm} (hI : Inv m) (hV : Vd m) (v : V) : (m.slotsOf v).length ≤ 1048576 := by
  unfold Sm.slotsOf
  split
  · rename_i hv
    exact slots_le hI hV _ (List.mem_of_getElem? (ob_at hv))
  · simp
theorem keep_new {H H1 H2 : AHeap} {F F2 : Nat → Prop} (hk : Keep H.next H H1) (hF : ∀ b, F b → H.next ≤ b) (hf : Fr F H1 F2 H2) : Keep H.next H H2 :=
  ⟨Nat.le_trans hk.next hf.next, fun b hb => (hf.at_ b (Nat.lt_of_lt_of_le hb hk.next) fun h => by have := hF b h; omega).trans (hk.at_ b hb)⟩
def bx2 : Sm := ⟨50, 4, [mkOb 3 [(0, 0)], mkOb 3 [(0, 0)]], []⟩
theorem c20 {H : AHeap} : ACalls Try.prog 20 [] H fun r H' => r = .bool true ∧ H' = H := by
  refine ACalls.eq (S20_calls ?_) rfl
  unfold S20
  refine (c13 (by omega) (by omega)).mono fun r H1 ⟨p, F, hr, hS, hk, hF⟩ => ?_
  subst hr
  simp
  unfold S20_101
  simp
  refine (mkLit hS (Inv.new (by omega) (by omega)) 3 [(0, 0)] (by simp) (by simp)).mono fun r H2 ⟨hr, F2, hS2, hF2⟩ => ?_
  have em : (Sm.new 50).make 3 [(0, 0)] = (((7, 0), 0), ⟨50, 2, [mkOb 3 [(0, 0)]], []⟩) := rfl
  rw [em] at hr hS2
  subst hr
  unfold S20_100
  simp [at_alloc, at_upd]
  obtain ⟨G, hG⟩ : ∃ X, X = (H2.alloc (.cells [.int .i64 0, .int .i64 0] .var 28)).upd H2.next (.cells [.int .i64 7, .int .i64 0] .var 28) := ⟨_, rfl⟩
  have hkG : Keep H2.next H2 G := hG ▸ ((Keep.refl _ _).alloc (Nat.le_refl _) _).upd (Nat.le_refl _) _
  have eG : G.at_ H2.next = .cells [.int .i64 7, .int .i64 0] .var 28 := by rw [hG]; simp
  have hnG : G.next = H2.next + 1 := by rw [hG]; simp
  simp only [← hG]
  clear hG
  have hq : Lv G F2 H2.next (.cells [.int .i64 7, .int .i64 0] .var 28) := ⟨eG, by omega, fun hf => by have := hS2.lt _ hf; omega⟩
  have hSG := hS2.kept hkG
  have := mkLit hSG (m := ⟨50, 2, [mkOb 3 [(0, 0)]], []⟩) ⟨rfl, by decide, by decide⟩ 3 [(0, 0)] (by simp) (by simp)
  simp [hnG] at this
  refine this.mono fun r H3 ⟨hr, F3, hS3, hF3⟩ => ?_
  have em2 : (Sm.mk 50 2 [mkOb 3 [(0, 0)]] []).make 3 [(0, 0)] = (((7, 1), 0), bx2) := rfl
  rw [em2] at hr hS3
  subst hr
  have hq3 := hq.fr hF3
  have hne : H2.next ≠ H3.next := by have := hq3.lt; omega
  simp [at_alloc, at_upd, hne, hq3.at_]
  have hk4 : ∀ x y, Keep H3.next H3 ((H3.alloc x).upd H3.next y) := fun x y => ((Keep.refl _ _).alloc (Nat.le_refl _) _).upd (Nat.le_refl _) _
  have hI2 : Inv bx2 := ⟨rfl, by decide, by decide⟩
  have hV2 : Vd bx2 := ⟨fun o ho v hv h7 => by
    simp [bx2, mkOb] at ho
    subst ho
    simp at hv
    subst hv
    simp at h7, fun o ho h10 => by simp [bx2, mkOb] at ho; subst ho; simp at h10⟩
  have hl := slotsOf_le hI2 hV2
  have hS4 := hS3.kept (hk4 (.cells [.int .i64 0, .int .i64 0] .var 28) (.cells [.int .i64 7, .int .i64 1] .var 28))
  refine (c21 hS4 hl (7, 0) (7, 1) (by omega)).use ?_
  have er : bx2.run (5 : Int).toNat [((7, 0), (7, 1))] = (true, 3, 0) := rfl
  rw [er]
  unfold S20_99
  simp [runV, at_alloc, at_upd, hne, hq3.at_]
  refine (c22 hS4 hl (7, 0) (7, 0)).use ?_
  have ev : bx2.eqv (7, 0) (7, 0) = true := rfl
  simp [ev, at_alloc, at_upd, hne, hq3.at_]
  refine (c22 hS4 hl (7, 0) (7, 1)).use ?_
  have ev2 : bx2.eqv (7, 0) (7, 1) = false := rfl
  simp [ev2]
  exact (keep_new hk hF (hF2.trans ((Fr.keep hkG).trans hF3))).trans ((hk4 _ _).lower (by
    have := hk.next; have := hF2.next; have := hkG.next; have := hF3.next; omega))

theorem make_ok {m : Sm} {k : Int} {xs : List V} (hs : shaped k xs.length = true) (hx : ∀ v ∈ xs, m.sound v = true) (hc : m.used + (mkOb k xs).cells ≤ m.lim) : m.make k xs = (((7, (m.objs.length : Int)), 0), m.put (mkOb k xs)) := by
  unfold Sm.make
  rw [if_pos hs, if_pos (List.all_eq_true.2 hx), if_neg (by omega)]
end Go.Proofs.Ytngldjajfpbmbaa.A
