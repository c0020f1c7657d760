/- Contracts of functions that the statement reaches; each theorem carries its own conditions, the last theorem of the claim has none. -/
import Derived.Test.YtngldjajfpbmbaaMK
import Derived.Test.YtngldjajfpbmbaaMG
set_option linter.unusedVariables false
set_option linter.unusedSimpArgs false
namespace Go.Proofs.Ytngldjajfpbmbaa.A
open Go Go.Abs

theorem Inv.sym {m : Sm} (h : Inv m) (s : ByteArray) : Inv (m.sym s).2 := by
  unfold Sm.sym
  split
  · exact h
  · split
    · exact h
    · exact ⟨h.sum, h.le, h.lim⟩
theorem Vd.sym {m : Sm} (h : Vd m) (s : ByteArray) : Vd (m.sym s).2 := by
  unfold Sm.sym
  split
  · exact h
  · split
    · exact h
    · exact ⟨h.ok, h.syn⟩
theorem Kd.sym {m : Sm} (h : Kd m) (s : ByteArray) : Kd (m.sym s).2 := by
  unfold Sm.sym
  split
  · exact h
  · split
    · exact h
    · exact h
theorem names_sym (m : Sm) (s : ByteArray) : (m.sym s).2.names.length ≤ m.names.length + 1 := by
  unfold Sm.sym
  split
  · simp
  · split
    · simp
    · simp
theorem names_make (m : Sm) (k : Int) (xs : List V) : (m.make k xs).2.names = m.names := by
  unfold Sm.make
  split
  · split
    · split
      · rfl
      · rfl
    · rfl
  · rfl
theorem names_set (m : Sm) (v : V) (i : Int) (x : V) : (m.set v i x).2.names = m.names := by
  unfold Sm.set
  split
  · split
    · split
      · rfl
      · rfl
    · rfl
  · rfl
theorem names_wrap (m : Sm) (k : Int) (s : ByteArray) : (m.wrap k s).2.names = m.names := by
  unfold Sm.wrap
  split
  · rfl
  · rfl
structure Ok (m : Sm) : Prop where
  inv : Inv m
  vd : Vd m
  kd : Kd m
  nd : m.names.Nodup
theorem Ok.make {m : Sm} (h : Ok m) (k : Int) (xs : List V) : Ok (m.make k xs).2 := ⟨h.inv.make _ _, h.vd.make _ _, h.kd.make _ _, by rw [names_make]; exact h.nd⟩
theorem Ok.set {m : Sm} (h : Ok m) (v : V) (i : Int) (x : V) : Ok (m.set v i x).2 := ⟨h.inv.set _ _ _, h.vd.set _ _ _, h.kd.set _ _ _, by rw [names_set]; exact h.nd⟩
theorem Ok.wrap {m : Sm} (h : Ok m) (k : Int) (s : ByteArray) : Ok (m.wrap k s).2 := ⟨h.inv.wrap _ _, h.vd.wrap _ _, h.kd.wrap _ _, by rw [names_wrap]; exact h.nd⟩
theorem Ok.collect {m : Sm} (h : Ok m) {s : List Bool} {xs : List V} (hsl : s.length = m.objs.length) (hs : ∀ i, s.getD i false = true ↔ Reach m xs i) : Ok (m.collect s) := ⟨h.inv.collect _, h.vd.collect hsl hs, h.kd.collect _, h.nd⟩
theorem Ok.sym {m : Sm} (h : Ok m) (s : ByteArray) : Ok (m.sym s).2 := by
  refine ⟨h.inv.sym _, h.vd.sym _, h.kd.sym _, ?_⟩
  unfold Sm.sym
  split
  · exact h.nd
  · split
    · exact h.nd
    · rename_i hf
      rw [List.findIdx?_eq_none_iff] at hf
      refine List.nodup_append.2 ⟨h.nd, by simp, fun a ha b hb => ?_⟩
      rw [List.mem_singleton] at hb
      subst hb
      rintro rfl
      have := hf _ ha
      simp at this

/-- Both stores; U: where they lie. -/
structure Bq (H : AHeap) (p q : Nat) (m n : Sm) (U : Nat → Prop) : Prop where
  ex : ∃ F G : Nat → Prop, St H p m F ∧ RS H q n G ∧ (∀ b, G b → ¬ F b) ∧ ∀ b, U b ↔ F b ∨ G b
  okm : Ok m
  okn : Ok n
theorem Bq.lt {H : AHeap} {p q : Nat} {m n : Sm} {U : Nat → Prop} (h : Bq H p q m n U) : ∀ b, U b → b < H.next := by
  obtain ⟨F, G, h1, h2, h3, h4⟩ := h.ex
  intro b hb
  rcases (h4 b).1 hb with hb | hb
  · exact h1.lt b hb
  · exact h2.lt b hb
theorem Bq.kept {H H' : AHeap} {p q : Nat} {m n : Sm} {U : Nat → Prop} (h : Bq H p q m n U) (k : Keep H.next H H') : Bq H' p q m n U := by
  obtain ⟨F, G, h1, h2, h3, h4⟩ := h.ex
  exact ⟨⟨F, G, h1.kept k, h2.kept k, h3, h4⟩, h.okm, h.okn⟩
theorem Bq.updnf {H : AHeap} {p q : Nat} {m n : Sm} {U : Nat → Prop} (h : Bq H p q m n U) {t : Nat} (ht : ¬ U t) (y : Blk) : Bq (H.upd t y) p q m n U := by
  obtain ⟨F, G, h1, h2, h3, h4⟩ := h.ex
  refine ⟨⟨F, G, h1.frame (Nat.le_refl _) fun b hb => ?_, h2.frame (Nat.le_refl _) fun b hb => ?_, h3, h4⟩, h.okm, h.okn⟩
  · exact AHeap.at_upd_ne _ _ (by rintro rfl; exact ht ((h4 _).2 (.inl hb)))
  · exact AHeap.at_upd_ne _ _ (by rintro rfl; exact ht ((h4 _).2 (.inr hb)))
theorem Bq.st {H : AHeap} {p q : Nat} {m n : Sm} {U : Nat → Prop} (h : Bq H p q m n U) : ∃ F, St H p m F ∧ (∀ b, F b → U b) ∧ ∀ H' p' m' F', St H' p' m' F' → Fr F H F' H' → Ok m' → ∃ U', Bq H' p' q m' n U' ∧ Fr U H U' H' ∧ ∀ b, F' b → U' b := by
  obtain ⟨F, G, h1, h2, h3, h4⟩ := h.ex
  refine ⟨F, h1, fun b hb => (h4 b).2 (.inl hb), fun H' p' m' F' k1 k2 hok => ?_⟩
  obtain ⟨g1, g2⟩ := h2.fr h3 k2
  refine ⟨fun b => F' b ∨ G b, ⟨⟨F', G, k1, g1, g2, fun b => Iff.rfl⟩, hok, h.okn⟩, ⟨k2.next, fun b hb hU => k2.at_ b hb fun hf => hU ((h4 b).2 (.inl hf)), fun b hb => ?_⟩, fun b hb => .inl hb⟩
  rcases hb with hb | hb
  · rcases k2.new b hb with hb | hb
    · exact .inl ((h4 b).2 (.inl hb))
    · exact .inr hb
  · exact .inl ((h4 b).2 (.inr hb))
theorem Bq.rs {H : AHeap} {p q : Nat} {m n : Sm} {U : Nat → Prop} (h : Bq H p q m n U) : ∃ G, RS H q n G ∧ (∀ b, G b → U b) ∧ ∀ H' n' G', RS H' q n' G' → Fr G H G' H' → Ok n' → ∃ U', Bq H' p q m n' U' ∧ Fr U H U' H' ∧ ∀ b, G' b → U' b := by
  obtain ⟨F, G, h1, h2, h3, h4⟩ := h.ex
  refine ⟨G, h2, fun b hb => (h4 b).2 (.inr hb), fun H' n' G' k1 k2 hok => ?_⟩
  obtain ⟨g1, g2⟩ := h1.fr (F := G) (F' := G') (fun b hb hg => h3 b hg hb) k2
  refine ⟨fun b => F b ∨ G' b, ⟨⟨F, G', g1, k1, fun b hb hf => g2 b hf hb, fun b => Iff.rfl⟩, h.okm, hok⟩, ⟨k2.next, fun b hb hU => k2.at_ b hb fun hf => hU ((h4 b).2 (.inr hf)), fun b hb => ?_⟩, fun b hb => .inr hb⟩
  rcases hb with hb | hb
  · exact .inl ((h4 b).2 (.inl hb))
  · rcases k2.new b hb with hb | hb
    · exact .inl ((h4 b).2 (.inr hb))
    · exact .inr hb

/-- Within a call: both stores, and the call's own variables. -/
structure Ac (H0 H : AHeap) (p q : Nat) (m n : Sm) (U0 : Nat → Prop) (ls : List (Nat × Blk)) : Prop where
  ex : ∃ U, Bq H p q m n U ∧ Fr U0 H0 U H ∧ ∀ z ∈ ls, H.at_ z.1 = z.2 ∧ z.1 < H.next ∧ ¬ U z.1 ∧ H0.next ≤ z.1
section
variable {H0 H : AHeap} {p q : Nat} {m n : Sm} {U0 : Nat → Prop} {ls : List (Nat × Blk)}
theorem Ac.start {U : Nat → Prop} (h : Bq H p q m n U) : Ac H H p q m n U [] := ⟨⟨U, h, Fr.refl _ _, by simp⟩⟩
theorem Ac.next (h : Ac H0 H p q m n U0 ls) : H0.next ≤ H.next := by
  obtain ⟨U, h1, h2, h3⟩ := h.ex
  exact h2.next
theorem Ac.okm (h : Ac H0 H p q m n U0 ls) : Ok m := by
  obtain ⟨U, h1, h2, h3⟩ := h.ex
  exact h1.okm
theorem Ac.okn (h : Ac H0 H p q m n U0 ls) : Ok n := by
  obtain ⟨U, h1, h2, h3⟩ := h.ex
  exact h1.okn
theorem Ac.at_ (h : Ac H0 H p q m n U0 ls) {t : Nat} {x : Blk} (ht : (t, x) ∈ ls) : H.at_ t = x ∧ t < H.next ∧ H0.next ≤ t := by
  obtain ⟨U, h1, h2, h3⟩ := h.ex
  obtain ⟨g1, g2, _, g3⟩ := h3 _ ht
  exact ⟨g1, g2, g3⟩
theorem Ac.keepLo (h : Ac H0 H p q m n U0 ls) {lo : Nat} (hlo : lo ≤ H0.next) (hU : ∀ b, U0 b → lo ≤ b) : Keep lo H0 H := by
  obtain ⟨U, h1, h2, h3⟩ := h.ex
  exact ⟨h2.next, fun b hb => h2.at_ b (by omega) fun hu => by have := hU b hu; omega⟩
theorem Ac.kept {H' : AHeap} (h : Ac H0 H p q m n U0 ls) (k : Keep H.next H H') : Ac H0 H' p q m n U0 ls := by
  obtain ⟨U, h1, h2, h3⟩ := h.ex
  refine ⟨⟨U, h1.kept k, h2.trans (Fr.keep k), fun z hz => ?_⟩⟩
  obtain ⟨g1, g2, g3, g4⟩ := h3 z hz
  exact ⟨(k.at_ _ g2).trans g1, Nat.lt_of_lt_of_le g2 k.next, g3, g4⟩
theorem Ac.alloc (h : Ac H0 H p q m n U0 ls) (x : Blk) : Ac H0 (H.alloc x) p q m n U0 ((H.next, x) :: ls) := by
  obtain ⟨U, h1, h2, h3⟩ := (h.kept ((Keep.refl _ _).alloc (Nat.le_refl _) x)).ex
  have hn := h.next
  obtain ⟨U', h1', _⟩ := h.ex
  obtain ⟨U, g1, g2, g3⟩ := h.ex
  have k : Keep H.next H (H.alloc x) := (Keep.refl _ _).alloc (Nat.le_refl _) x
  refine ⟨⟨U, g1.kept k, g2.trans (Fr.keep k), fun z hz => ?_⟩⟩
  rcases List.mem_cons.1 hz with rfl | hz
  · refine ⟨by simp, by simp, fun hu => ?_, hn⟩
    have := g1.lt _ hu
    dsimp only at this
    omega
  · obtain ⟨e1, e2, e3, e4⟩ := g3 z hz
    exact ⟨(k.at_ _ e2).trans e1, Nat.lt_of_lt_of_le e2 k.next, e3, e4⟩
theorem Ac.upd {t : Nat} {x : Blk} (h : Ac H0 H p q m n U0 ((t, x) :: ls)) (ht : ∀ z ∈ ls, z.1 ≠ t) (y : Blk) : Ac H0 (H.upd t y) p q m n U0 ((t, y) :: ls) := by
  obtain ⟨U, h1, h2, h3⟩ := h.ex
  obtain ⟨e1, e2, e3, e4⟩ := h3 _ (List.mem_cons_self ..)
  dsimp only at e1 e2 e3 e4
  refine ⟨⟨U, h1.updnf e3 y, ⟨h2.next, fun b hb hu => ?_, h2.new⟩, fun z hz => ?_⟩⟩
  · rw [AHeap.at_upd_ne _ _ (by omega)]
    exact h2.at_ b hb hu
  · rcases List.mem_cons.1 hz with rfl | hz
    · exact ⟨by simp, e2, e3, e4⟩
    · obtain ⟨k1, k2, k3, k4⟩ := h3 z (List.mem_cons_of_mem _ hz)
      exact ⟨by rw [AHeap.at_upd_ne _ _ (ht z hz)]; exact k1, k2, k3, k4⟩
theorem Ac.perm {ls' : List (Nat × Blk)} (h : Ac H0 H p q m n U0 ls) (hp : ∀ z ∈ ls', z ∈ ls) : Ac H0 H p q m n U0 ls' := by
  obtain ⟨U, h1, h2, h3⟩ := h.ex
  exact ⟨⟨U, h1, h2, fun z hz => h3 z (hp z hz)⟩⟩
theorem Ac.fr {U U' : Nat → Prop} {H' : AHeap} {p' : Nat} {m' n' : Sm} (h1 : Bq H p q m n U) (h2 : Fr U0 H0 U H) (h3 : ∀ z ∈ ls, H.at_ z.1 = z.2 ∧ z.1 < H.next ∧ ¬ U z.1 ∧ H0.next ≤ z.1) (g1 : Bq H' p' q m' n' U') (g2 : Fr U H U' H') : Ac H0 H' p' q m' n' U0 ls := by
  refine ⟨⟨U', g1, h2.trans g2, fun z hz => ?_⟩⟩
  obtain ⟨k1, k2, k3, k4⟩ := h3 z hz
  refine ⟨(g2.at_ _ k2 k3).trans k1, Nat.lt_of_lt_of_le k2 g2.next, fun hu => ?_, k4⟩
  rcases g2.new _ hu with hu | hu
  · exact k3 hu
  · omega
theorem Ac.st (h : Ac H0 H p q m n U0 ls) : ∃ F, St H p m F ∧ (∀ b, F b → U0 b ∨ H0.next ≤ b) ∧ ∀ H' p' m' F', St H' p' m' F' → Fr F H F' H' → Ok m' → Ac H0 H' p' q m' n U0 ls := by
  obtain ⟨U, h1, h2, h3⟩ := h.ex
  obtain ⟨F, g1, g2, g3⟩ := h1.st
  refine ⟨F, g1, fun b hb => h2.new b (g2 b hb), fun H' p' m' F' k1 k2 k3 => ?_⟩
  obtain ⟨U', e1, e2, _⟩ := g3 H' p' m' F' k1 k2 k3
  exact Ac.fr h1 h2 h3 e1 e2
theorem Ac.rs (h : Ac H0 H p q m n U0 ls) : ∃ G, RS H q n G ∧ (∀ b, G b → U0 b ∨ H0.next ≤ b) ∧ ∀ H' n' G', RS H' q n' G' → Fr G H G' H' → Ok n' → Ac H0 H' p q m n' U0 ls := by
  obtain ⟨U, h1, h2, h3⟩ := h.ex
  obtain ⟨G, g1, g2, g3⟩ := h1.rs
  refine ⟨G, g1, fun b hb => h2.new b (g2 b hb), fun H' n' G' k1 k2 k3 => ?_⟩
  obtain ⟨U', e1, e2, _⟩ := g3 H' n' G' k1 k2 k3
  exact Ac.fr h1 h2 h3 e1 e2
end
end Go.Proofs.Ytngldjajfpbmbaa.A

set_option linter.unusedVariables false
set_option linter.unusedSimpArgs false
namespace Go.Proofs.Ytngldjajfpbmbaa.A
open Go Go.Abs

/-- A call that is to be made. -/
structure ActT where
  act : Int
  kind : Int
  i : Int
  sl : Option Addr
  xs : List V
  v : V
  x : V
  name : ByteArray
def encA (a : ActT) : List Value := [.int .i64 a.act, .int .i64 a.kind, .int .i64 a.i, .slice a.sl a.xs.length a.xs.length, .int .i64 a.v.1, .int .i64 a.v.2, .int .i64 a.x.1, .int .i64 a.x.2, .string a.name]
theorem ldV {H : AHeap} {t : Nat} {v : V} (h : H.at_ t = .cells (eV v) .var 28) : aLdAgg 2 (Pt t) H = some (vV v) := by simp [h]
theorem stV {H : AHeap} {t : Nat} {u v : V} (h : H.at_ t = .cells (eV u) .var 28) : aSt 2 (Pt t) (vV v) H = some (H.upd t (.cells (eV v) .var 28)) := by simp [h]
theorem x0 (a b : Value) : aExtract (.tuple #[a, b]) 0 = some a := rfl
theorem x1 (a b : Value) : aExtract (.tuple #[a, b]) 1 = some b := rfl
section
variable {H0 H : AHeap} {p q : Nat} {m n : Sm} {U0 : Nat → Prop} {ls : List (Nat × Blk)}
theorem Ac.var {v : V} (h : Ac H0 H p q m n U0 ls) (hl : ∀ z ∈ ls, z.1 < H.next) : aSt 2 (Pt H.next) (vV v) (H.alloc (.cells [.int .i64 0, .int .i64 0] .var 28)) = some ((H.alloc (.cells [.int .i64 0, .int .i64 0] .var 28)).upd H.next (.cells (eV v) .var 28)) ∧
    Ac H0 ((H.alloc (.cells [.int .i64 0, .int .i64 0] .var 28)).upd H.next (.cells (eV v) .var 28)) p q m n U0 ((H.next, .cells (eV v) .var 28) :: ls) :=
  ⟨stV (u := (0, 0)) (by simp), (h.alloc _).upd (fun z hz => Nat.ne_of_lt (hl z hz)) _⟩
theorem Ac.ltl (h : Ac H0 H p q m n U0 ls) : ∀ z ∈ ls, z.1 < H.next := by
  obtain ⟨U, h1, h2, h3⟩ := h.ex
  exact fun z hz => (h3 z hz).2.1
theorem ldA (h : Ac H0 H p q m n U0 ls) {t : Nat} {a : ActT} (ht : (t, .cells (encA a) .var 66) ∈ ls) : H.at_ t = .cells (encA a) .var 66 := (h.at_ ht).1

/-- Two answers that are alike, held against one another. -/
theorem tail46 {t : Nat} {v : V} {e : Int} {R : Value → AHeap → Prop} (h : Ac H0 H p q m n U0 ls) (ht : (t, .cells (eV v) .var 28) ∈ ls) (hR : ∀ H', Ac H0 H' p q m n U0 ls → R (.bool true) H') : S29_46 R (Pt t) (.int .i64 e) (.tuple #[vV v, .int .i64 e]) H := by
  unfold S29_46
  obtain ⟨g1, g2⟩ := h.var (v := v) h.ltl
  have l1 := ldV (g2.at_ (List.mem_cons_of_mem _ ht)).1
  have l2 := ldV (g2.at_ (List.mem_cons_self ..)).1
  simp only [x0, x1, bnd_some', aAlloc_eq, g1, l1, l2, eqV, decide_true, aGuardK_tt, aBin_eql, aPick_tt]
  exact hR _ (g2.perm fun z hz => List.mem_cons_of_mem _ hz)
theorem tail112 {t : Nat} {v : V} {e : Int} {R : Value → AHeap → Prop} (h : Ac H0 H p q m n U0 ls) (ht : (t, .cells (eV v) .var 28) ∈ ls) (hR : ∀ H', Ac H0 H' p q m n U0 ls → R (.bool true) H') : S29_112 R (.int .i64 e) (Pt t) (.tuple #[vV v, .int .i64 e]) H := by
  unfold S29_112
  obtain ⟨g1, g2⟩ := h.var (v := v) h.ltl
  have l1 := ldV (g2.at_ (List.mem_cons_of_mem _ ht)).1
  have l2 := ldV (g2.at_ (List.mem_cons_self ..)).1
  simp only [x0, x1, bnd_some', aAlloc_eq, g1, l1, l2, eqV, decide_true, aGuardK_tt, aBin_eql, aPick_tt]
  exact hR _ (g2.perm fun z hz => List.mem_cons_of_mem _ hz)
theorem tail150 {t : Nat} {v : V} {e : Int} {R : Value → AHeap → Prop} (h : Ac H0 H p q m n U0 ls) (ht : (t, .cells (eV v) .var 28) ∈ ls) (hR : ∀ H', Ac H0 H' p q m n U0 ls → R (.bool true) H') : S29_150 R (.int .i64 e) (Pt t) (.tuple #[vV v, .int .i64 e]) H := by
  unfold S29_150
  obtain ⟨g1, g2⟩ := h.var (v := v) h.ltl
  have l1 := ldV (g2.at_ (List.mem_cons_of_mem _ ht)).1
  have l2 := ldV (g2.at_ (List.mem_cons_self ..)).1
  simp only [x0, x1, bnd_some', aAlloc_eq, g1, l1, l2, eqV, decide_true, aGuardK_tt, aBin_eql, aPick_tt]
  exact hR _ (g2.perm fun z hz => List.mem_cons_of_mem _ hz)
theorem tail220 {t : Nat} {v : V} {e : Int} {R : Value → AHeap → Prop} (h : Ac H0 H p q m n U0 ls) (ht : (t, .cells (eV v) .var 28) ∈ ls) (hR : ∀ H', Ac H0 H' p q m n U0 ls → R (.bool true) H') : S29_220 R (.int .i64 e) (Pt t) (.tuple #[vV v, .int .i64 e]) H := by
  unfold S29_220
  obtain ⟨g1, g2⟩ := h.var (v := v) h.ltl
  have l1 := ldV (g2.at_ (List.mem_cons_of_mem _ ht)).1
  have l2 := ldV (g2.at_ (List.mem_cons_self ..)).1
  simp only [x0, x1, bnd_some', aAlloc_eq, g1, l1, l2, eqV, decide_true, aGuardK_tt, aBin_eql, aPick_tt]
  exact hR _ (g2.perm fun z hz => List.mem_cons_of_mem _ hz)
end

/-- Behind a call: both are alike still. -/
def actPost (H0 : AHeap) (p q : Nat) (m : Sm) (U0 : Nat → Prop) (r : Value) (H' : AHeap) : Prop := r = .bool true ∧ ∃ m' U', Bq H' p q m' m' U' ∧ Fr U0 H0 U' H' ∧ m'.names.length ≤ m.names.length + 1
theorem Ac.post {H0 H : AHeap} {p q : Nat} {m m' : Sm} {U0 : Nat → Prop} {ls : List (Nat × Blk)} (h : Ac H0 H p q m' m' U0 ls) (hn : m'.names.length ≤ m.names.length + 1) : actPost H0 p q m U0 (.bool true) H := by
  obtain ⟨U, h1, h2, h3⟩ := h.ex
  exact ⟨rfl, m', U, h1, h2, hn⟩

section
variable {H0 H : AHeap} {p q lo : Nat} {m : Sm} {U0 : Nat → Prop} {a : ActT}
theorem l29_49 (h : Ac H0 H p q m m U0 [(H0.next, .cells (encA a) .var 66)]) (hlo : lo ≤ H0.next) (hU : ∀ b, U0 b → lo ≤ b) (hB : Rd 2 eV lo H0 a.sl a.xs) (hn : a.xs.length ≤ 100) : S29_49 (Pt p) (Pt q) (actPost H0 p q m U0) (Pt H0.next) H := by
  unfold S29_49
  have a5 := (h.at_ (List.mem_cons_self ..)).1
  have l1 : aLdCell (.pointer (some ⟨H0.next, 1, none⟩)) H = some (.int .i64 a.kind) := by simp [a5, encA]
  have l3 : aLdCell (.pointer (some ⟨H0.next, 3, none⟩)) H = some (.slice a.sl a.xs.length a.xs.length) := by simp [a5, encA]
  simp only [aAdd_ptr, bnd_some', Nat.zero_add, l1, l3, aAlloc_eq]
  have h2 := h.alloc (.cells [.int .i64 0, .int .i64 0] .var 28)
  have hne : H0.next ≠ H.next := by have := (h.at_ (List.mem_cons_self ..)).2.1; omega
  obtain ⟨G, hG⟩ : ∃ X, X = H.alloc (.cells [.int .i64 0, .int .i64 0] .var 28) := ⟨_, rfl⟩
  rw [← hG] at h2 ⊢
  clear hG
  have hBG := hB.kept (h2.keepLo hlo hU)
  refine (c54 (by have := h2.next; omega) hBG (by omega)).mono fun r H2 ⟨A, hr, hA, hk⟩ => ?_
  subst hr
  have h3 := h2.kept hk
  have b5 := (h3.at_ (List.mem_cons_of_mem _ (List.mem_cons_self ..))).1
  have b7 := (h3.at_ (List.mem_cons_self ..)).1
  have c7 := (h2.at_ (List.mem_cons_self ..)).1
  have l1' : aLdCell (.pointer (some ⟨H0.next, 1, none⟩)) H2 = some (.int .i64 a.kind) := by simp [b5, encA]
  have eb : blkOf (Pt H.next) = H.next := rfl
  simp only [l1', bnd_some', eb, b7, c7, true_and]
  obtain ⟨F, hS, _, hstep⟩ := h3.st
  refine (c15 hS h3.okm.inv a.kind (Nat.le_refl _) hA.rd (by omega) (by simp)).mono fun r H3 ⟨hr, F', hS', hF'⟩ => ?_
  subst hr
  have h4 := hstep _ _ _ _ hS' hF' (h3.okm.make _ _)
  unfold S29_47
  have d7 := (h4.at_ (List.mem_cons_self ..)).1
  have h5 := h4.upd (fun z hz => by simp at hz; subst hz; exact hne) (.cells (eV (m.make a.kind a.xs).1.1) .var 28)
  have st := stV (u := (0, 0)) (v := (m.make a.kind a.xs).1.1) d7
  simp only [eb, b7, d7, true_and, x0, x1, bnd_some', st]
  have f5 := (h5.at_ (List.mem_cons_of_mem _ (List.mem_cons_self ..))).1
  have m1 : aLdCell (.pointer (some ⟨H0.next, 1, none⟩)) (H3.upd H.next (.cells (eV (m.make a.kind a.xs).1.1) .var 28)) = some (.int .i64 a.kind) := by rw [aLdCell_ptr, f5]; simp [encA]
  have m3 : aLdCell (.pointer (some ⟨H0.next, 3, none⟩)) (H3.upd H.next (.cells (eV (m.make a.kind a.xs).1.1) .var 28)) = some (.slice a.sl a.xs.length a.xs.length) := by rw [aLdCell_ptr, f5]; simp [encA]
  simp only [aAdd_ptr, bnd_some', Nat.zero_add, m1, m3]
  obtain ⟨G', hR, _, hstep2⟩ := h5.rs
  refine (c49 hR h5.okn.inv a.kind (by have := h5.next; omega) (hB.kept (h5.keepLo hlo hU)) (by omega)).mono fun r H4 ⟨hr, F2, hR', hF2⟩ => ?_
  subst hr
  have h6 := hstep2 _ _ _ hR' hF2 (h5.okn.make _ _)
  exact tail46 h6 (List.mem_cons_self ..) fun H5 h7 => h7.post (by rw [names_make]; omega)

theorem ldx {H : AHeap} {t : Nat} {a : ActT} (h : H.at_ t = .cells (encA a) .var 66) : aLdCell (.pointer (some ⟨t, 0, none⟩)) H = some (.int .i64 a.act) ∧ aLdCell (.pointer (some ⟨t, 1, none⟩)) H = some (.int .i64 a.kind) ∧ aLdCell (.pointer (some ⟨t, 2, none⟩)) H = some (.int .i64 a.i) ∧ aLdCell (.pointer (some ⟨t, 3, none⟩)) H = some (.slice a.sl a.xs.length a.xs.length) ∧
    aLdAgg 2 (.pointer (some ⟨t, 4, none⟩)) H = some (vV a.v) ∧ aLdAgg 2 (.pointer (some ⟨t, 6, none⟩)) H = some (vV a.x) ∧ aLdCell (.pointer (some ⟨t, 8, none⟩)) H = some (.string a.name) := by
  simp [h, encA]

theorem l29_71 (h : Ac H0 H p q m m U0 [(H0.next, .cells (encA a) .var 66)]) : S29_71 (Pt p) (Pt q) (actPost H0 p q m U0) (Pt H0.next) H := by
  unfold S29_71
  obtain ⟨_, _, k2, _, k4, k6, _⟩ := ldx (h.at_ (List.mem_cons_self ..)).1
  simp only [aAdd_ptr, bnd_some', Nat.zero_add, k2, k4, k6]
  obtain ⟨F, hS, _, hstep⟩ := h.st
  refine (c19 hS a.v a.i a.x).mono fun r H3 ⟨hr, hS', hF'⟩ => ?_
  subst hr
  have h4 := hstep _ _ _ _ hS' hF' (h.okm.set _ _ _)
  obtain ⟨_, _, j2, _, j4, j6, _⟩ := ldx (h4.at_ (List.mem_cons_self ..)).1
  simp only [bnd_some', j2, j4, j6, true_and]
  obtain ⟨G', hR, _, hstep2⟩ := h4.rs
  refine (c50 hR h4.okn.kd a.v a.i a.x).mono fun r H4 ⟨hr, hR', hF2⟩ => ?_
  subst hr
  have h6 := hstep2 _ _ _ hR' hF2 (h4.okn.set _ _ _)
  simp only [aBin_eql, bnd_some', decide_true]
  exact h6.post (by rw [names_set]; omega)

theorem l29_get (h : Ac H0 H p q m m U0 [(H0.next, .cells (encA a) .var 66)]) : ACalls Try.prog 18 [Pt p, vV a.v, .int .i64 a.i] H fun t91_77 H_78 => S29_113 (Pt q) (actPost H0 p q m U0) (Pt H0.next) t91_77 H_78 := by
  obtain ⟨F, hS, _, hstep⟩ := h.st
  refine (c18 hS a.v a.i).use ?_
  unfold S29_113
  obtain ⟨g1, g2⟩ := h.var (v := (m.get a.v a.i).1) h.ltl
  simp only [x0, x1, bnd_some', aAlloc_eq, g1]
  obtain ⟨_, _, j2, _, j4, _, _⟩ := ldx (g2.at_ (List.mem_cons_of_mem _ (List.mem_cons_self ..))).1
  simp only [aAdd_ptr, bnd_some', Nat.zero_add, j2, j4]
  obtain ⟨G', hR, _, hstep2⟩ := g2.rs
  refine (c55 hR g2.okn.kd a.v a.i).use ?_
  exact tail112 g2 (List.mem_cons_self ..) fun H5 h7 => h7.post (by omega)

theorem l29_151 (h : Ac H0 H p q m m U0 [(H0.next, .cells (encA a) .var 66)]) (hnl : m.names.length ≤ 1048576) (hnm : a.name.size ≤ maxLen) : S29_151 (Pt p) (Pt q) (actPost H0 p q m U0) (Pt H0.next) H := by
  unfold S29_151
  obtain ⟨_, _, _, _, _, _, k8⟩ := ldx (h.at_ (List.mem_cons_self ..)).1
  simp only [aAdd_ptr, bnd_some', Nat.zero_add, k8]
  obtain ⟨F, hS, _, hstep⟩ := h.st
  refine (c23 hS hnl a.name hnm).mono fun r H3 ⟨hr, F', hS', hF'⟩ => ?_
  subst hr
  have h4 := hstep _ _ _ _ hS' hF' (h.okm.sym _)
  obtain ⟨g1, g2⟩ := h4.var (v := (m.sym a.name).1.1) h4.ltl
  simp only [x0, x1, bnd_some', aAlloc_eq, g1]
  obtain ⟨_, _, _, _, _, _, j8⟩ := ldx (g2.at_ (List.mem_cons_of_mem _ (List.mem_cons_self ..))).1
  simp only [aAdd_ptr, bnd_some', Nat.zero_add, j8]
  obtain ⟨G', hR, _, hstep2⟩ := g2.rs
  refine (c56 hR hnl a.name hnm).mono fun r H4 ⟨hr, F2, hR', hF2⟩ => ?_
  subst hr
  have h6 := hstep2 _ _ _ hR' hF2 (g2.okn.sym _)
  exact tail150 h6 (List.mem_cons_self ..) fun H5 h7 => h7.post (names_sym _ _)

theorem l29_181 (h : Ac H0 H p q m m U0 [(H0.next, .cells (encA a) .var 66)]) : S29_181 (Pt p) (Pt q) (actPost H0 p q m U0) (Pt H0.next) H := by
  unfold S29_181
  obtain ⟨_, _, _, _, k4, _, _⟩ := ldx (h.at_ (List.mem_cons_self ..)).1
  simp only [aAdd_ptr, bnd_some', Nat.zero_add, k4]
  obtain ⟨F, hS, _, hstep⟩ := h.st
  refine (c24 hS a.v).use ?_
  simp only [x0, x1, bnd_some', aAdd_ptr, Nat.zero_add, k4]
  obtain ⟨G', hR, _, hstep2⟩ := h.rs
  refine (c57 hR a.v).use ?_
  unfold S29_180
  simp only [x0, x1, bnd_some', aBin_seql, ba_beq, decide_true, aGuardK_tt, aBin_eql, aPick_tt]
  exact h.post (by omega)

theorem l29_222 (h : Ac H0 H p q m m U0 [(H0.next, .cells (encA a) .var 66)]) : S29_222 (Pt p) (Pt q) (actPost H0 p q m U0) (Pt H0.next) H := by
  unfold S29_222
  obtain ⟨_, _, _, _, _, _, k8⟩ := ldx (h.at_ (List.mem_cons_self ..)).1
  have fx : ∀ s, aFill [(.int .i64 0), (.string ⟨#[]⟩), (.bool false), (.slice none 0 0), (.slice none 0 0), (.int .i64 0), (.slice none 0 0), (.slice none 0 0)] [(0, 1, (.int .i64 4)), (1, 1, Value.string s)] = some (eX 4 s) := by intro s; simp [aFill]
  simp only [aAdd_ptr, bnd_some', Nat.zero_add, k8, fx]
  obtain ⟨F, hS, _, hstep⟩ := h.st
  refine (c34 hS h.okm.inv 4 a.name).mono fun r H3 ⟨hr, F', hS', hF'⟩ => ?_
  subst hr
  have h4 := hstep _ _ _ _ hS' hF' (h.okm.wrap _ _)
  obtain ⟨g1, g2⟩ := h4.var (v := (m.wrap 4 a.name).1.1) h4.ltl
  unfold S29_221
  simp only [x0, x1, bnd_some', aAlloc_eq, g1]
  obtain ⟨_, _, _, _, _, _, j8⟩ := ldx (g2.at_ (List.mem_cons_of_mem _ (List.mem_cons_self ..))).1
  simp only [aAdd_ptr, bnd_some', Nat.zero_add, j8, fx]
  obtain ⟨G', hR, _, hstep2⟩ := g2.rs
  refine (c58 hR g2.okn.inv 4 a.name).mono fun r H4 ⟨hr, F2, hR', hF2⟩ => ?_
  subst hr
  have h6 := hstep2 _ _ _ hR' hF2 (g2.okn.wrap _ _)
  exact tail220 h6 (List.mem_cons_self ..) fun H5 h7 => h7.post (by rw [names_wrap]; omega)
end
end Go.Proofs.Ytngldjajfpbmbaa.A

set_option linter.unusedVariables false
set_option linter.unusedSimpArgs false
namespace Go.Proofs.Ytngldjajfpbmbaa.A
open Go Go.Abs

/-- A row that is not the store's stays. -/
theorem Ow.out {H H' : AHeap} {F F' : Nat → Prop} {lo : Nat} {A : Option Addr} {xs : List V} (h : Ow 2 eV 28 lo H A xs) (k : Fr F H F' H') (hF : ∀ b, F b → b < lo) : Ow 2 eV 28 lo H' A xs := by
  refine h.at k.next fun a ha => k.at_ _ (h.blkOf ha).2.2.1 fun hf => ?_
  have := hF _ hf
  have := (h.blkOf ha).2.1
  omega
def rootsOf (xs : List V) (len : Int) (i : Nat) : List V := xs ++ (List.range i).map fun (j : Nat) => ((7 : Int), len - 1 - (j : Int))
theorem rootsOf_len (xs : List V) (len : Int) (i : Nat) : (rootsOf xs len i).length = xs.length + i := by simp [rootsOf]
theorem rootsOf_succ (xs : List V) (len : Int) (i : Nat) : rootsOf xs len (i + 1) = rootsOf xs len i ++ [(7, len - 1 - (i : Int))] := by simp [rootsOf, List.range_succ]

theorem l29_308 {H0 H1 H2 H3 : AHeap} {p q : Nat} {m : Sm} {U0 : Nat → Prop} {ls : List (Nat × Blk)} {A A2 : Option Addr} {roots : List V} {vi : Value} (h : Ac H0 H1 p q m m U0 ls) (hk : Keep H1.next H1 H2) (hA : Ow 2 eV 28 H1.next H2 A roots) (hk2 : Keep H2.next H2 H3) (hA2 : Ow 2 eV 28 H2.next H3 A2 roots) (hl : roots.length ≤ 2097152) :
    S29_308 (Pt p) (Pt q) (actPost H0 p q m U0) [.slice A roots.length roots.length, vi] (.slice A2 roots.length roots.length) H3 := by
  unfold S29_308
  obtain ⟨U, hbq, hfr, _⟩ := h.ex
  obtain ⟨F, G, hS, hR, hd, hU⟩ := hbq.ex
  have ok := hbq.okm
  have hkk : Keep H1.next H1 H3 := hk.trans (hk2.lower hk.next)
  have n1 := hk.next
  have n2 := hk2.next
  have hS3 := hS.kept hkk
  have hR3 := hR.kept hkk
  have hA3 : Ow 2 eV 28 H1.next H3 A roots := hA.kept hk2
  have tail : ∀ (H5 : AHeap) (F' G' : Nat → Prop) (m' : Sm), St H5 p m' F' → RS H5 q m' G' → (∀ b, G' b → ¬ F' b) → Ok m' → m'.names = m.names → H1.next ≤ H5.next → (∀ b, b < H1.next → ¬ U b → H5.at_ b = H1.at_ b) → (∀ b, F' b → F b ∨ H1.next ≤ b) → (∀ b, G' b → G b ∨ H1.next ≤ b) → ∀ e : Int,
      S29_307 (actPost H0 p q m U0) (.int .i64 e) (.int .i64 e) (.bool true) H5 := by
    intro H5 F' G' m' k1 k2 k3 k4 k5 k6 k7 k8 k9 e
    unfold S29_307
    simp only [aGuardK_tt, aBin_eql, bnd_some', aPick_tt, decide_true]
    refine ⟨rfl, m', fun b => F' b ∨ G' b, ⟨⟨F', G', k1, k2, k3, fun b => Iff.rfl⟩, k4, k4⟩, hfr.trans ⟨k6, k7, fun b hb => ?_⟩, by rw [k5]; omega⟩
    rcases hb with hb | hb
    · exact (k8 b hb).imp (fun x => (hU b).2 (.inl x)) id
    · exact (k9 b hb).imp (fun x => (hU b).2 (.inr x)) id
  refine (c16 hS3 ok.inv ok.vd (Nat.le_refl _) hA2.rd hl (by simp) fun x hx hf => ?_).mono fun r H4 hr => ?_
  · have := hS.lt _ hf
    have := (hA2.blkOf hx).2.1
    omega
  by_cases hs : roots.all m.sound = true
  · rw [if_pos hs] at hr
    obtain ⟨s, hsl, hsr, C1, F', rfl, hC1, hS4, hF4, hC1F⟩ := hr
    simp only [x0, x1, bnd_some', nth_zero]
    obtain ⟨hR4, hd4⟩ := hR3.fr hd hF4
    have hA4 : Ow 2 eV 28 H1.next H4 A roots := Ow.out hA3 hF4 fun b hb => hS.lt b hb
    refine (c59 hR4 ok.inv ok.vd (Nat.le_refl _) hA4.rd hl fun x hx hg => ?_).mono fun r H5 hr => ?_
    · have := hR.lt _ hg
      have := (hA4.blkOf hx).2.1
      omega
    rw [if_pos hs] at hr
    obtain ⟨s', hsl', hsr', C2, G', rfl, hC2, hR5, hG5, hC2G⟩ := hr
    have := seen_unique hsl' hsl hsr' hsr
    subst this
    simp only [x0, x1, bnd_some', nth_zero]
    have hlG : ∀ b, G b → b < H3.next := fun b hb => by have := hR.lt b hb; omega
    have hC15 : Ow 2 eV 28 H3.next H5 C1 (roots.map (mv (place m s'))) := Ow.out hC1 hG5 hlG
    have e : (roots.map (mv (place m s'))).length = roots.length := by simp
    have c := c60 hC15.rd hC2.rd (by rw [e]; exact hl)
    rw [e] at c
    refine c.use ?_
    simp only [decide_true]
    obtain ⟨hS5, hd5⟩ := hS4.fr (G := F') (F := G) (fun b hb hg => hd4 b hg hb) hG5
    have n4 := hF4.next
    have n5 := hG5.next
    refine tail H5 F' G' _ hS5 hR5 (fun b hb hf => hd5 b hf hb) (ok.collect hsl hsr) rfl (by omega) (fun b hb hu => ?_) (fun b hb => ?_) (fun b hb => ?_) 0
    · rw [hG5.at_ b (by omega) fun hg => hu ((hU b).2 (.inr hg)), hF4.at_ b (by omega) fun hg => hu ((hU b).2 (.inl hg))]
      exact hkk.at_ b hb
    · rcases hF4.new b hb with hb | hb
      · exact .inl hb
      · exact .inr (by omega)
    · rcases hG5.new b hb with hb | hb
      · exact .inl hb
      · exact .inr (by omega)
  · rw [if_neg hs] at hr
    obtain ⟨rfl, hk4⟩ := hr
    simp only [x0, x1, bnd_some', nth_zero]
    have n4 := hk4.next
    refine (c59 (hR3.kept hk4) ok.inv ok.vd (Nat.le_refl _) (hA3.kept hk4).rd hl fun x hx hg => ?_).mono fun r H5 hr => ?_
    · have := hR.lt _ hg
      have := (hA3.blkOf hx).2.1
      omega
    rw [if_neg hs] at hr
    obtain ⟨rfl, hk5⟩ := hr
    have n5 := hk5.next
    simp only [x0, x1, bnd_some', nth_zero]
    have c := c60 (H := H5) (Rd.nil 2 eV 0 H5) (Rd.nil 2 eV 0 H5) (by simp)
    simp only [List.length_nil] at c
    refine c.use ?_
    simp only [decide_true]
    have hk15 : Keep H1.next H1 H5 := (hkk.trans (hk4.lower (by omega))).trans (hk5.lower (by omega))
    exact tail H5 F G m (hS.kept hk15) (hR.kept hk15) hd ok rfl hk15.next (fun b hb _ => hk15.at_ b hb) (fun b hb => .inl hb) (fun b hb => .inl hb) 2

theorem l29_310 {H0 H : AHeap} {p q lo : Nat} {m : Sm} {U0 : Nat → Prop} {a : ActT} (h : Ac H0 H p q m m U0 [(H0.next, .cells (encA a) .var 66)]) (hlo : lo ≤ H0.next) (hU : ∀ b, U0 b → lo ≤ b) (hB : Rd 2 eV lo H0 a.sl a.xs) (hn : a.xs.length ≤ 100) : S29_310 (Pt p) (Pt q) (actPost H0 p q m U0) (Pt H0.next) H (.int .i64 a.act) := by
  unfold S29_310
  obtain ⟨_, _, k2, k3, _, _, _⟩ := ldx (h.at_ (List.mem_cons_self ..)).1
  simp only [aBin_eql, bnd_some']
  refine aCond_of (fun hd => ?_) fun hd => h.post (by omega)
  clear hd
  simp only [aAdd_ptr, bnd_some', Nat.zero_add, k3]
  refine (c54 (by have := h.next; omega) (hB.kept (h.keepLo hlo hU)) (by omega)).mono fun r H2 ⟨A, hr, hA, hk⟩ => ?_
  subst hr
  have hlen := h.okm.inv.len
  obtain ⟨n, hnn⟩ : ∃ n : Nat, n = min a.i.toNat m.objs.length := ⟨_, rfl⟩
  have hl5 := (h.at_ (List.mem_cons_self ..)).2.1
  refine aLoop_vs n (fun i vs H' => ∃ A, vs = [.slice A (rootsOf a.xs m.objs.length i).length (rootsOf a.xs m.objs.length i).length, .int .i64 i] ∧ Ow 2 eV 28 H.next H' A (rootsOf a.xs m.objs.length i) ∧ Keep H.next H H') ⟨A, by simp [rootsOf], by simpa [rootsOf] using hA, hk⟩ ?_
  clear hA hk
  rintro i vs H' again hi ⟨A, rfl, hA, hk⟩ ha
  unfold S29_309
  have h' := h.kept hk
  obtain ⟨_, _, j2, j3, _, _, _⟩ := ldx (h'.at_ (List.mem_cons_self ..)).1
  obtain ⟨G, hR, _, _⟩ := h'.rs
  obtain ⟨OA, os, NA, hX⟩ := id hR
  have lp : aLdCell (.pointer (some ⟨q, 2, none⟩)) H' = some (.slice OA m.objs.length m.objs.length) := by simp [hX.hp]
  have hrl := rootsOf_len a.xs m.objs.length i
  simp only [aAdd_ptr, bnd_some', Nat.zero_add, j2, nth_1, aBin_lss]
  have done : ∀ b : Bool, b = false → aCond (.bool b) (S29_280 (Pt q) [.slice A (rootsOf a.xs m.objs.length i).length (rootsOf a.xs m.objs.length i).length, .int .i64 i] again H') (ACalls Try.prog 54 [nth [.slice A (rootsOf a.xs m.objs.length i).length (rootsOf a.xs m.objs.length i).length, .int .i64 i] 0] H' fun t220_281 H_282 => S29_308 (Pt p) (Pt q) (actPost H0 p q m U0) [.slice A (rootsOf a.xs m.objs.length i).length (rootsOf a.xs m.objs.length i).length, .int .i64 i] t220_281 H_282) := by
    rintro b rfl
    simp only [aCond_false, nth_zero]
    refine (c54 (Nat.le_refl _) hA.rd (by omega)).mono fun r H3 ⟨A2, hr, hA2, hk2⟩ => ?_
    subst hr
    exact l29_308 h hk hA hk2 hA2 (by omega)
  by_cases h1 : (i : Int) < a.i
  · simp only [decide_eq_true h1, aGuardK_tt, aNilCheck_ptr, bnd_some', aAdd_ptr, Nat.zero_add, lp, aLenSl_slice, aBin_lss, aPick_tt]
    by_cases h2 : (i : Int) < m.objs.length
    · simp only [decide_eq_true h2, aCond_true]
      unfold S29_280
      have w1 := wrap64 (x := (m.objs.length : Int) - 1) (by omega) (by omega)
      have w2 := wrap64 (x := (m.objs.length : Int) - 1 - i) (by omega) (by omega)
      have w3 := wrap64 (x := (i : Int) + 1) (by omega) (by omega)
      simp only [aNilCheck_ptr, bnd_some', aAdd_ptr, Nat.zero_add, lp, aLenSl_slice, nth_zero, nth_1, aBin_sub, w1, w2]
      have hR1 : Rd 2 eV (H'.next + 1) (H'.alloc (.cells (eV (7, (m.objs.length : Int) - 1 - i)) (.row 2) 28)) (some ⟨H'.next, 0, none⟩) [(7, (m.objs.length : Int) - 1 - i)] := Rd.mk' (by simp) (by omega) (AHeap.at_alloc_new _ _) (by simp) (by simp) (by simp)
      have hnk := hk.next
      have := (hA.alloc (.cells (eV (7, (m.objs.length : Int) - 1 - i)) (.row 2) 28)).append (bytes := 16) (c := (rootsOf a.xs m.objs.length i).length) (c' := 1) (K := fun t H_278 => bnd (aBin .add .no (.int .i64 i) (.int .i64 1)) fun t204 => again [t, t204] H_278) hR1 (by simp; omega) (by simp only [maxLen, List.length_singleton]; omega) (by simp only [List.length_singleton]; omega) fun H3 g1 g2 g3 g4 => by
        rw [← rootsOf_succ] at g1 ⊢
        simp only [aBin_add, bnd_some', w3]
        refine ha _ H3 (by omega) ⟨_, rfl, g1, (hk.trans ?_).trans g4⟩
        exact (Keep.refl _ _).alloc hnk _
      simpa using this
    · simp only [decide_eq_false h2]
      exact done _ rfl
  · simp only [decide_eq_false h1, aGuardK_ft, aGuardK_undef, bnd_some', aPick_ff]
    exact done _ rfl

theorem c29 {H : AHeap} {p q lo : Nat} {m : Sm} {U : Nat → Prop} {a : ActT} (h : Bq H p q m m U) (hlo : lo ≤ H.next) (hU : ∀ b, U b → lo ≤ b) (hB : Rd 2 eV lo H a.sl a.xs) (hn : a.xs.length ≤ 100) (hnl : m.names.length ≤ 1048576) (hnm : a.name.size ≤ maxLen) :
    ACalls Try.prog 29 [Pt p, Pt q, .agg (encA a).toArray] H fun r H' => actPost H p q m U r H' := by
  refine S29_calls ?_
  unfold S29
  have hv : vcells (.agg (encA a).toArray) = encA a := by simp
  have hok : (encA a).all okCell = true := by simp [encA]
  simp only [aBox_eq, hv, hok, true_and]
  have h1 := (Ac.start h).alloc (.cells (encA a) .var 66)
  obtain ⟨k0, _⟩ := ldx (h1.at_ (List.mem_cons_self ..)).1
  simp only [aAdd_ptr, bnd_some', Nat.zero_add, k0, aBin_eql]
  refine aCond_of (fun hd => l29_49 h1 hlo hU hB hn) fun _ => ?_
  refine aCond_of (fun hd => l29_71 h1) fun _ => ?_
  unfold S29_312
  obtain ⟨_, _, k2, _, k4, _⟩ := ldx (h1.at_ (List.mem_cons_self ..)).1
  simp only [aAdd_ptr, bnd_some', Nat.zero_add, k2, k4, aBin_eql]
  refine aCond_of (fun hd => l29_get h1) fun _ => ?_
  unfold S29_311
  simp only [aBin_eql, bnd_some']
  refine aCond_of (fun hd => l29_151 h1 hnl hnm) fun _ => ?_
  refine aCond_of (fun hd => l29_181 h1) fun _ => ?_
  refine aCond_of (fun hd => l29_222 h1) fun _ => ?_
  exact l29_310 h1 hlo hU hB hn
end Go.Proofs.Ytngldjajfpbmbaa.A

set_option linter.unusedVariables false
set_option linter.unusedSimpArgs false
namespace Go.Proofs.Ytngldjajfpbmbaa.A
open Go Go.Abs

theorem c62nil {H : AHeap} (v : V) : ACalls Try.prog 62 [.pointer none, vV v] H fun r H' => r = .pointer none ∧ H' = H := by
  refine ACalls.eq (S62_calls ?_) rfl
  unfold S62
  have hk : ∀ x, Keep H.next H (H.alloc x) := fun x => (Keep.refl _ _).alloc (Nat.le_refl _) _
  simp [hk]
theorem c30nil {H : AHeap} (v : V) : ACalls Try.prog 30 [.pointer none, vV v] H fun r H' => r = .bool false ∧ H' = H := by
  refine ACalls.eq (S30_calls ?_) rfl
  have hk : ∀ x, Keep H.next H (H.alloc x) := fun x => (Keep.refl _ _).alloc (Nat.le_refl _) _
  unfold S30
  simp
  rw [aJoin_eq]
  have fin : ∀ x, S30_154 (.pointer none) (fun r H' => r = .bool false ∧ Keep H.next H H') (.pointer (some ⟨H.next, 0, none⟩)) (.int .i64 v.1) [.bool x] (H.alloc (.cells (eV v) .var 28)) := by
    intro x
    unfold S30_154
    cases x with
    | true =>
      simp
      unfold S30_24
      simp [hk]
    | false =>
      obtain ⟨t, n⟩ := v
      simp
      by_cases h4 : t = 4
      · simp [h4, hk]
      simp [h4]
      unfold S30_147
      by_cases h5 : t = 5
      · simp [h5]
        unfold S30_46
        simp [hk]
      by_cases h8 : t = 8
      · simp [h5, h8]
        unfold S30_81
        simp [hk]
      by_cases h6 : t = 6
      · simp [h5, h8, h6]
        unfold S30_140
        simp [hk]
      simp [h5, h8, h6]
      unfold S30_146
      by_cases h7 : t = 7
      · simp [h7]
        refine (c62nil (7, n)).use ?_
        simp [hk]
      · simp [h7, hk]
  obtain ⟨t, n⟩ := v
  dsimp only at fin ⊢
  by_cases h0 : t = 0
  · subst h0
    simpa using fin true
  by_cases h1 : t = 1
  · subst h1
    simpa using fin true
  simp [h0, h1]
  unfold S30_153
  by_cases h2 : t = 2
  · subst h2
    simpa using fin true
  by_cases h3 : t = 3
  · subst h3
    simpa using fin true
  simp [h2, h3]
  simpa using fin (decide (t = 9))

/-- The calls that are to be made, in memory. -/
structure Acs (lo : Nat) (H : AHeap) (A : Option Addr) (xs : List ActT) : Prop where
  rd : Rd 9 encA lo H A xs
  slots : ∀ x ∈ xs, Rd 2 eV lo H x.sl x.xs
  text : ∀ x ∈ xs, x.name.size ≤ maxLen
theorem Acs.kept {lo : Nat} {H H' : AHeap} {A : Option Addr} {xs : List ActT} (h : Acs lo H A xs) (hk : Keep lo H H') : Acs lo H' A xs := ⟨h.rd.kept hk, fun x hx => (h.slots x hx).kept hk, h.text⟩
theorem Acs.at {lo : Nat} {H : AHeap} {A : Option Addr} {xs : List ActT} (h : Acs lo H A xs) {i : Nat} (hi : i < xs.length) : ∃ b o, aIdxAddr 9 (.slice A xs.length xs.length) (.int .i64 i) = some (.pointer (some ⟨b, o, none⟩)) ∧
    aLdCell (.pointer (some ⟨b, o, none⟩)) H = some (.int .i64 xs[i].act) ∧ aLdCell (.pointer (some ⟨b, o + 3, none⟩)) H = some (.slice xs[i].sl xs[i].xs.length xs[i].xs.length) ∧ aLdAgg 9 (.pointer (some ⟨b, o, none⟩)) H = some (.agg (encA xs[i]).toArray) := by
  obtain ⟨b, o, cs, k, t, hA, hb, hat, hl, hc⟩ := h.rd.elem hi
  have i1 := h.rd.idx (k := .i64) (j := (i : Int)) (c := xs.length) (by omega) (by omega)
  have hs : slot 9 A i = .pointer (some ⟨b, o + i * 9, none⟩) := by rw [hA]; rfl
  rw [Int.toNat_natCast, hs] at i1
  have hf : ∀ f, f < 9 → aLdCell (.pointer (some ⟨b, o + i * 9 + f, none⟩)) H = (encA xs[i])[f]? := by
    intro f hf
    rw [← hc, List.getElem?_take, if_pos hf, List.getElem?_drop, aLdCell_ptr, hat, blkCell_cells]
  have l9 := h.rd.agg hi
  rw [hs] at l9
  exact ⟨b, o + i * 9, i1, hf 0 (by omega), hf 3 (by omega), l9⟩
theorem Ac.call {H0 H : AHeap} {p q lo : Nat} {m : Sm} {ls : List (Nat × Blk)} {U0 : Nat → Prop} {a : ActT} (h : Ac H0 H p q m m U0 ls) (hlo : lo ≤ H0.next) (hU : ∀ b, U0 b → lo ≤ b) (hB : Rd 2 eV lo H0 a.sl a.xs) (hn : a.xs.length ≤ 100) (hnl : m.names.length ≤ 1048576) (hnm : a.name.size ≤ maxLen) :
    ACalls Try.prog 29 [Pt p, Pt q, .agg (encA a).toArray] H fun r H' => r = .bool true ∧ ∃ m', Ac H0 H' p q m' m' U0 ls ∧ m'.names.length ≤ m.names.length + 1 := by
  have hB' := hB.kept (h.keepLo hlo hU)
  obtain ⟨U, h1, h2, h3⟩ := h.ex
  have hn0 := h.next
  refine (c29 h1 (by omega) (fun b hb => ?_) hB' hn hnl hnm).mono fun r H' ⟨hr, m', U', g1, g2, g3⟩ => ⟨hr, m', Ac.fr h1 h2 h3 g1 g2, g3⟩
  rcases h2.new b hb with hb | hb
  · exact hU b hb
  · omega

theorem eqB (a b : Bool) : aBin .eql .bool (.bool a) (.bool b) = some (.bool (a == b)) := nr rfl

theorem c10 {H : AHeap} {lo : Nat} {A : Option Addr} {xs : List ActT} (hlo : lo ≤ H.next) (hA : Acs lo H A xs) (v : V) : ACalls Try.prog 10 [.slice A xs.length xs.length, vV v] H fun r _ => r = .bool true := by
  refine S10_calls ?_
  unfold S10
  have hv : vcells (vV v) = eV v := by simp
  have hok : (eV v).all okCell = true := by simp
  simp only [aBox_eq, hv, hok, true_and]
  obtain ⟨H1, hH1⟩ : ∃ X, X = H.alloc (.cells (eV v) .var 28) := ⟨_, rfl⟩
  rw [← hH1]
  have hk1 : Keep H.next H H1 := hH1 ▸ (Keep.refl _ _).alloc (Nat.le_refl _) _
  have n1 : H1.next = H.next + 1 := by rw [hH1]; simp
  have a1 : H1.at_ H.next = .cells (eV v) .var 28 := by rw [hH1]; simp
  clear hH1
  refine (c13 (by omega) (by omega)).mono fun r H3 ⟨p, F, hr, hS, hk3, hF⟩ => ?_
  subst hr
  unfold S10_84
  simp only [x0, x1, bnd_some']
  refine c14.use ?_
  have n3 := hk3.next
  simp only [aUn_not, bnd_some', Bool.not_true, aGuardK_ff, aBin_neq, decide_true, aPick_ff, aCond_false]
  unfold S10_83
  have fx : aFill [(.int .i64 0), (.int .i64 0), (.slice none 0 0), (.slice none 0 0)] [(0, 1, (.int .i64 200))] = some [.int .i64 200, .int .i64 0, .slice none 0 0, .slice none 0 0] := by simp [aFill]
  simp only [fx, bnd_some', aBox_eq, vcells_agg]
  refine ⟨by simp, ?_⟩
  have hac : Ac H (H3.alloc (.cells [.int .i64 200, .int .i64 0, .slice none 0 0, .slice none 0 0] .var 64)) p H3.next (Sm.new 200) (Sm.new 200) (fun _ => False) [(H.next, .cells (eV v) .var 28)] := by
    have hk : Keep H3.next H3 (H3.alloc (.cells [.int .i64 200, .int .i64 0, .slice none 0 0, .slice none 0 0] .var 64)) := (Keep.refl _ _).alloc (Nat.le_refl _) _
    have ok : Ok (Sm.new 200) := ⟨Inv.new (by omega) (by omega), Vd.new _, by simp [Kd, Sm.new], by simp [Sm.new]⟩
    refine ⟨⟨fun b => F b ∨ b = H3.next, ⟨⟨F, fun b => b = H3.next, hS.kept hk, ⟨none, [], none, ?_⟩, ?_, fun b => Iff.rfl⟩, ok, ok⟩, ⟨?_, fun b hb _ => ?_, fun b hb => .inr ?_⟩, ?_⟩⟩
    · refine ⟨rfl, by simp [Sm.new], Ow.nil _ _ _ _ _, fun i o a ho => (by simp [Sm.new] at ho), fun i j a b hi => (by simp at hi), Ow.nil _ _ _ _ _, rfl, fun a ha => (by cases ha), fun i a ha => (by simp at ha), fun a ha => (by cases ha), ?_⟩
      rintro b rfl
      simp
    · rintro b rfl hf
      have := hS.lt _ hf
      omega
    · simp; omega
    · rw [hk.at_ b (by omega), hk3.at_ b (by omega), hk1.at_ b hb]
    · rcases hb with hb | rfl
      · have := hF b hb; omega
      · omega
    · intro z hz
      simp at hz
      subst hz
      refine ⟨?_, by simp; omega, ?_, Nat.le_refl _⟩
      · dsimp only
        rw [hk.at_ _ (by omega), hk3.at_ _ (by omega), a1]
      · rintro (hb | hb)
        · have := hF _ hb; dsimp only at this; omega
        · dsimp only at hb; omega
  obtain ⟨q, hq⟩ : ∃ q, q = H3.next := ⟨_, rfl⟩
  rw [← hq] at hac ⊢
  obtain ⟨n, hn⟩ : ∃ n : Nat, n = min xs.length 30 := ⟨_, rfl⟩
  refine aLoop_vs n (fun i vs H' => vs = [.int .i64 i] ∧ ∃ m, Ac H H' p q m m (fun _ => False) [(H.next, .cells (eV v) .var 28)] ∧ m.names.length ≤ i) ⟨rfl, _, hac, by simp [Sm.new]⟩ ?_
  clear hac hS hk3 hF n3 hk1 a1 n1 hq
  rintro i vs H' again hi ⟨rfl, m, hac, hml⟩ ha
  unfold S10_82
  have fin : ∀ b : Bool, b = false → aCond (.bool b) (S10_50 (.slice A xs.length xs.length) (Pt p) (Pt q) [.int .i64 i] again H') (S10_81 (fun r _ => r = .bool true) (Pt H.next) (Pt p) (Pt q) H') := by
    rintro b rfl
    simp only [aCond_false]
    unfold S10_81
    have l1 := ldV (hac.at_ (List.mem_cons_self ..)).1
    simp only [l1, bnd_some']
    obtain ⟨F, hS, _, _⟩ := hac.st
    refine (c30 hS v).use ?_
    simp only [l1, bnd_some', true_and]
    obtain ⟨G, hR, _, _⟩ := hac.rs
    refine (c31 hR v).use ?_
    unfold S10_79
    simp only [eqB, bnd_some', beq_self_eq_true, aGuardK_tt, l1]
    refine (c30nil v).use ?_
    simp
  simp only [aLenSl_slice, bnd_some', nth_zero, aBin_lss]
  by_cases h1 : (i : Int) < xs.length
  · simp only [decide_eq_true h1, aGuardK_tt, aBin_lss, bnd_some', aPick_tt]
    by_cases h2 : (i : Int) < 30
    · simp only [decide_eq_true h2, aCond_true]
      unfold S10_50
      rw [aJoin_eq]
      have hi1 : i < xs.length := by omega
      have w1 := wrap64 (x := (i : Int) + 1) (by omega) (by omega)
      have hA' := hA.kept (hac.keepLo hlo fun b hb => hb.elim)
      obtain ⟨b, o, i1, _, l3, l9⟩ := hA'.at hi1
      simp only [nth_zero, i1, bnd_some', aAdd_ptr, l3, aLenSl_slice, aBin_leq]
      refine aCond_of (fun hd => ?_) fun hd => ?_
      · have hd : ((xs[i].xs.length : Nat) : Int) ≤ 100 := of_decide_eq_true hd
        simp only [l9, bnd_some']
        refine (hac.call hlo (fun b hb => hb.elim) (hA.slots _ (List.getElem_mem hi1)) (by omega) (by omega) (hA.text _ (List.getElem_mem hi1))).mono fun r H2 ⟨hr, m', hac', hml'⟩ => ?_
        simp only [aBin_add, bnd_some', w1]
        exact ha _ _ (by omega) ⟨rfl, m', hac', by omega⟩
      · simp only [aBin_add, bnd_some', w1]
        exact ha _ _ (by omega) ⟨rfl, m, hac, by omega⟩
    · simp only [decide_eq_false h2]
      exact fin _ rfl
  · simp only [decide_eq_false h1, aGuardK_ft, aGuardK_undef, bnd_some', aPick_ff]
    exact fin _ rfl
end Go.Proofs.Ytngldjajfpbmbaa.A

set_option linter.unusedVariables false
set_option linter.unusedSimpArgs false
namespace Go.Proofs.Ytngldjajfpbmbaa.A
open Go Go.Abs

def gdAct (lo : Nat) (H : AHeap) (x : ActT) : Prop := Rd 2 eV lo H x.sl x.xs ∧ x.name.size ≤ maxLen
theorem monoAct : GdMono gdAct := fun lo lo' H H' a h hl hk => ⟨(h.1.kept hk).up hl, h.2⟩
section
variable {Hd : Type} {enc : TypeId × Value → Hd} {W : World}
set_option maxRecDepth 100000 in
theorem openAct : Opens enc Try.prog W 66 ActT encA gdAct := by
  have h := Opens.struct Try.underlying66 (by kernel_rfl) (OpensF.cons (Opens.int (enc := enc) (W := W) Try.underlying3) (OpensF.cons (Opens.int (enc := enc) (W := W) Try.underlying3) (OpensF.cons (Opens.int (enc := enc) (W := W) Try.underlying3) (OpensF.cons (openVs (enc := enc) (W := W)) (OpensF.cons openV (OpensF.cons openV (OpensF.cons (Opens.string (enc := enc) (W := W) Try.underlying9) OpensF.nil GdMono.const) GdMono.const) GdMono.const) monoVs) GdMono.const) GdMono.const) GdMono.const)
  exact Opens.map (fun (x : Int × Int × Int × (Option Addr × List V) × V × V × ByteArray × Unit) => (⟨x.1, x.2.1, x.2.2.1, x.2.2.2.1.1, x.2.2.2.1.2, x.2.2.2.2.1, x.2.2.2.2.2.1, x.2.2.2.2.2.2.1⟩ : ActT)) (fun _ => rfl) (fun _ _ _ h => ⟨h.2.2.2.1, h.2.2.2.2.2.2.1⟩) h
theorem openActs : Opens enc Try.prog W 61 (Option Addr × List ActT) (fun p => [.slice p.1 p.2.length p.2.length]) (fun lo H p => Acs lo H p.1 p.2) := by
  have h := Opens.slice (n := 9) Try.underlying61 (by kernel_rfl) (by omega) (fun _ => rfl) (openAct (enc := enc) (W := W)) monoAct
  exact Opens.map id (fun _ => rfl) (fun _ _ _ h => ⟨h.1, fun x hx => (h.2.1 x hx).1, fun x hx => (h.2.1 x hx).2⟩) h
end
theorem c10i {H : AHeap} {ms : Option Addr × List ActT} {a0 a1 : Int} (hM : Acs H.next H ms.1 ms.2) :
    ACalls Try.prog 10 [.slice ms.1 ms.2.length ms.2.length, .agg #[.int .i64 a0, .int .i64 a1]] H fun r _ => r = .bool true := c10 (Nat.le_refl _) hM (a0, a1)
end Go.Proofs.Ytngldjajfpbmbaa.A
