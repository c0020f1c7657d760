/- An operation does what is said of it, wherever its values lie. -/
import Derived.Test.YtliakckflcoffaaDoorAbsJ
import Derived.MapKept
import Derived.Lib.AppendZeros
import Derived.Lib.UnsafeStr
set_option linter.unusedVariables false
set_option linter.unusedSimpArgs false
namespace Go.Abs
open Go

section
variable {P : Program} {B : Nat} {φ : Phi} {H : AHeap} {w : World} {n : Nat} {a : ATmps} {act : Act}

theorem wp_val {o : Oper} {next : Act → World → Prop} {Q : Exit → Act → World → Prop} {u : Value} {w' : World} (h : (execOp act.eval o).run P w = .ok (.value u) w') (hk : next (act.put o.dst u) w') : o.wp P act w next Q := by
  unfold Oper.wp
  rw [h]
  exact hk
theorem wp_unit {o : Oper} {next : Act → World → Prop} {Q : Exit → Act → World → Prop} {w' : World} (h : (execOp act.eval o).run P w = .ok .skip w') (hk : next (act.put o.dst undef) w') : o.wp P act w next Q := by
  unfold Oper.wp
  rw [h]
  exact hk
theorem wp_enter {o : Oper} {next : Act → World → Prop} {Q : Exit → Act → World → Prop} {f : FuncId} {args : Array Value} (h : (execOp act.eval o).run P w = .ok (.enter f args) w) {R : Ending → World → Prop} (hc : Calls P f args w R)
    (hk : ∀ e w', R e w' → ∃ u, e = .returned u ∧ next (act.put o.dst u) w') : o.wp P act w next Q := by
  unfold Oper.wp
  rw [h]
  refine hc.mono fun e w' hR => ?_
  obtain ⟨u, rfl, hn⟩ := hk e w' hR
  exact hn

theorem goodCall_run {f : FuncId} (h : goodCall P f = true) (args : Array Value) : (callFunc f args).run P w = .ok (.enter f args) w := by
  unfold goodCall at h
  split at h
  · rename_i fn hf
    split at h
    · rename_i c hb
      have hname : (fn.name == "runtime.NumGoroutine") = false := by simpa using h
      simp only [callFunc, Sem.run_bind, run_program, Result.andThen_ok, hf, hname, Bool.false_eq_true, if_false, hb, Option.isNone_some, Sem.run_pure]
    · cases h
  · cases h

theorem elemInfo_inv {t e : TypeId} {m bytes : Nat} {zs : List Value} (h : elemInfo P t = some (e, m, bytes, zs)) : P.underlying t = some (.slice e) ∧ ∃ i z, P.info? e = some i ∧ i.zero = some z ∧ i.size = m ∧ i.bytes = bytes ∧ z.cells.toList = zs ∧ zs.all plainCell = true ∧ zs.length = m ∧ 0 < m ∧ tySize P e = some m ∧ tyZero P e = some zs := by
  unfold elemInfo at h
  split at h
  · rename_i e' hu
    split at h
    · rename_i i hi
      split at h
      · rename_i z hz
        split at h
        · rename_i k h1 h2 h3
          simp only [Option.some.injEq, Prod.mk.injEq] at h
          obtain ⟨rfl, rfl, rfl, rfl⟩ := h
          have hzc : z.cells.toList = vcells z := by
            cases z <;> first | rfl | (simp [vcells, plainCell] at h1)
          exact ⟨hu, i, z, hi, hz, h3, rfl, hzc, h1, by simpa [h3] using h2, Nat.succ_pos k, by simp [tySize, hi, h3], by simp [tyZero, hi, hz]⟩
        · cases h
      · cases h
    · cases h
  · cases h

theorem opt_rel (hr : Rel P.globals.size B φ H w) (ha : ATRel φ n a act) (x : Option Operand) : VRelO φ (opOpt P.globals.size a x) (x.map act.eval) := by
  cases x with
  | none => trivial
  | some x => exact eval_rel hr ha x
theorem parts_rel (hr : Rel P.globals.size B φ H w) (ha : ATRel φ n a act) (xs : Array (Nat × Operand)) :
    (opParts P.globals.size a xs).map (·.1) = ((xs.map fun (i, x) => (i, act.eval x)).toList).map (·.1) ∧ VRels φ ((opParts P.globals.size a xs).map (·.2)) (((xs.map fun (i, x) => (i, act.eval x)).toList).map (·.2)) := by
  refine ⟨by simp [opParts], ?_⟩
  have h1 : (opParts P.globals.size a xs).map (·.2) = (xs.toList.map (·.2)).map (aeval P.globals.size a) := by simp [opParts]
  have h2 : ((xs.map fun (i, x) => (i, act.eval x)).toList).map (·.2) = (xs.toList.map (·.2)).map act.eval := by simp
  rw [h1, h2]
  exact evals_rel hr ha _

theorem row_cells (hr : Rel P.globals.size B φ H w) {m : Nat} {x u : Value} {news : List Value} (hx : VRel φ x u) (h : aRow m x H = some news) :
    ∃ A c, u = .slice A (sliceLen x) c ∧ news.length = sliceLen x * m ∧ (∀ v ∈ news, okCell v = true) ∧ (0 < sliceLen x → ∃ ad, A = some ad ∧ ∀ j v, news[j]? = some v → ∃ v', w.cell? (ad.add j) = some v' ∧ VRel φ v v') := by
  unfold aRow at h
  split at h
  · obtain rfl := Option.some.inj h
    obtain ⟨rfl, rfl, rfl⟩ := hx.sliceNone
    exact ⟨none, 0, rfl, by simp [sliceLen], by simp, by simp [sliceLen]⟩
  · rename_i b o len c
    split at h
    · rename_i cs k t hat
      split at h
      · rename_i hl
        obtain rfl := Option.some.inj h
        obtain ⟨_, _, h3⟩ := hx.sliceInv
        have hlen : ((cs.drop o).take (len * m)).length = len * m := by rw [List.length_take, List.length_drop]; omega
        rcases h3 with ⟨p, c, hp, hnc, hm, hll, rfl⟩ | ⟨rfl, hb, A, hA, rfl⟩
        · refine ⟨_, c, rfl, hlen, fun v hv => ?_, fun _ => ⟨_, rfl, fun j v hj => ?_⟩⟩
          · obtain ⟨j, hj⟩ := List.getElem?_of_mem hv
            have hj' : (cs.drop o)[j]? = some v := by rw [List.getElem?_take] at hj; split at hj <;> first | exact hj | cases hj
            rw [List.getElem?_drop] at hj'
            obtain ⟨v', _, _, hok⟩ := cells_at hr hp hat _ v hj'
            exact hok
          · have hj' : (cs.drop o)[j]? = some v := by rw [List.getElem?_take] at hj; split at hj <;> first | exact hj | cases hj
            rw [List.getElem?_drop] at hj'
            obtain ⟨v', hv', hr', _⟩ := cells_at hr hp hat _ v hj'
            exact ⟨v', by rw [addr_add, Nat.add_assoc]; exact hv', hr'⟩
        · refine ⟨A, 0, rfl, hlen, ?_, by simp [sliceLen]⟩
          simp
      · cases h
    · cases h
  · cases h

theorem zeroCells_one {z : Value} {z0 : Value} (h : z.cells = #[z0]) (n : Nat) : (Builtin.zeroCells z.cells n).toList = List.replicate n z0 := by
  rw [h]
  apply List.ext_getElem
  · simp [Builtin.zeroCells]
  · intro j h1 h2
    simp [Builtin.zeroCells, Nat.mod_one]

theorem opArgs_one {G : Nat} {a : ATmps} {args : Array Operand} {v : Value} (h : opArgs G a args = [v]) : ∃ x, args = #[x] ∧ v = aeval G a x := by
  unfold opArgs at h
  have : ∃ x, args.toList = [x] ∧ aeval G a x = v := by
    match hl : args.toList, h with
    | [x], h => exact ⟨x, rfl, by simpa using h⟩
  obtain ⟨x, hx, rfl⟩ := this
  exact ⟨x, by apply Array.ext'; simpa using hx, rfl⟩
theorem opArgs_two {G : Nat} {a : ATmps} {args : Array Operand} {v v' : Value} (h : opArgs G a args = [v, v']) : ∃ x y, args = #[x, y] ∧ v = aeval G a x ∧ v' = aeval G a y := by
  unfold opArgs at h
  have : ∃ x y, args.toList = [x, y] ∧ aeval G a x = v ∧ aeval G a y = v' := by
    match hl : args.toList, h with
    | [x, y], h =>
      simp only [List.map_cons, List.map_nil, List.cons.injEq, and_true] at h
      exact ⟨x, y, rfl, h⟩
  obtain ⟨x, y, hx, rfl, rfl⟩ := this
  exact ⟨x, y, by apply Array.ext'; simpa using hx, rfl, rfl⟩

theorem zeros_sound {dst : Option Tmp} {t t' ty e : TypeId} {x y : Operand} {pos : String} {after : Array Edge} {guard : Option (Nat × Bool)} {K : Value → AHeap → Prop} {m bytes : Nat} {zs : List Value} {kd : IntKind}
    (h : aZeros bytes e zs (aeval P.globals.size a x) (aeval P.globals.size a y) H K) (hei : elemInfo P t = some (e, m, bytes, zs)) (hut : P.underlying t' = some (.int kd)) (hr : Rel P.globals.size B φ H w) (ha : ATRel φ n a act) {next : Act → World → Prop} {Q : Exit → Act → World → Prop}
    (hk : ∀ v H' φ' w' u, K v H' → Step P.globals.size B φ H w φ' H' w' → VRel φ' v u → next (act.put dst u) w') :
    ({ dst := dst, op := .call { callee := .builtin .append, args := #[x, y], argTypes := #[t, t'] }, type := ty, pos := pos, after := after, guard := guard } : Oper).wp P act w next Q := by
  have hx := eval_rel hr ha x
  have hy := eval_rel hr ha y
  obtain ⟨hu, i, z, hi, hz, hsz, hby, hzc, hzp, hzl, hpos, hts, htz⟩ := elemInfo_inv hei
  unfold aZeros at h
  split at h
  · rename_i n1 c1 k l e1 e2
    rw [e1] at hx
    rw [e2] at hy
    obtain ⟨⟨h0, hm, hb, hz1⟩, h⟩ := h
    obtain ⟨hx', _, _⟩ := hx.sliceNone
    have hy' := hy.int
    have hm1 : m = 1 := by omega
    subst hm1
    obtain ⟨z0, rfl⟩ : ∃ z0, zs = [z0] := by
      cases zs with
      | nil => simp at hz1
      | cons z0 r => cases r with
        | nil => exact ⟨z0, rfl⟩
        | cons _ _ => simp at hz1
    have hzcells : z.cells = #[z0] := by
      apply Array.ext'
      simpa using hzc
    obtain ⟨q, rfl⟩ : ∃ q : Nat, l = q := ⟨l.toNat, by omega⟩
    have hrun := Lib.run_append_nil_zeros (P := P) w t t' ty e i z k kd hu hut hi hz q (by omega) (by omega) (by omega) (by
      rw [hby]
      have : ((q * bytes : Nat) : Int) ≤ 140737488355328 := by rw [Int.natCast_mul]; exact hb
      omega)
    have hp0 : plainCell z0 = true := by simpa using hzp
    have hge := grownCap_ge w q 0 e
    have hcm : grownCap w q 0 e ≤ maxLen := grownCap_le_maxLen w q 0 e (by simp only [maxLen]; omega)
    have hcl : (Builtin.zeroCells z.cells q ++ Builtin.zeroCells z.cells (grownCap w q 0 e - q)).toList = List.replicate (grownCap w q 0 e) z0 := by
      rw [Array.toList_append, zeroCells_one hzcells, zeroCells_one hzcells, List.replicate_append_replicate]
      congr 1
      omega
    have hcs : (Builtin.zeroCells z.cells q ++ Builtin.zeroCells z.cells (grownCap w q 0 e - q)).size = grownCap w q 0 e := by
      rw [← Array.length_toList, hcl, List.length_replicate]
    have hfr : φ H.next = none := by
      cases e : φ H.next with
      | none => rfl
      | some q => have := hr.dom _ _ e; omega
    have hst0 : Step P.globals.size B φ H w φ H w.drew := Step.same hr rfl rfl rfl rfl
    have hst := Step.alloc hst0.rel (.cells (List.replicate q z0) (.row 1) e) (.cells (Builtin.zeroCells z.cells q ++ Builtin.zeroCells z.cells (grownCap w q 0 e - q)) e) ⟨w.heap.size, 0, grownCap w q 0 e, 1⟩ rfl (by
      refine ⟨_, e, (0, 0), by rw [heap_alloc]; exact if_pos rfl, hcs, ?_, ?_, ?_, fun _ => ⟨hr.base, rfl, rfl, rfl⟩, fun s hs => ?_, fun h => by cases h⟩
      · rw [hcs]; simpa using hge
      · rw [hcl, List.drop_zero, List.take_replicate, List.length_replicate, Nat.min_eq_left hge]
        exact VRels.replicate (.plain hp0) _
      · intro v hv; rw [List.eq_of_mem_replicate hv]; exact okCell_of_plain hp0
      · cases hs; exact ⟨rfl, _, (Nat.mul_one _).symm⟩)
    have e3 : (Int.toNat (q : Int)) = q := by simp
    rw [e3] at h
    refine wp_val (u := .slice (some ⟨w.heap.size, 0, none⟩) q (grownCap w q 0 e)) (by simp [execOp, Go.resolve, invoke, builtin, hx', hy', hrun]) (hk _ _ _ _ _ h (hst0.trans hst) ?_)
    have := VRel.slice (φ := φ.upd H.next (some (some ⟨w.heap.size, 0, grownCap w q 0 e, 1⟩))) (b := H.next) (o := 0) (n := q) (c := grownCap w q 0 e) (p := ⟨w.heap.size, 0, grownCap w q 0 e, 1⟩) (by simp) hge hcm (.inr (.inr (by simp)))
    simpa using this
  · exact h.elim

theorem append_sound {dst : Option Tmp} {t ty e : TypeId} {x y : Operand} {pos : String} {after : Array Edge} {guard : Option (Nat × Bool)} {K : Value → AHeap → Prop} {m bytes : Nat} {zs : List Value}
    (h : aAppend m bytes e (aeval P.globals.size a x) (aeval P.globals.size a y) H K) (hei : elemInfo P t = some (e, m, bytes, zs)) (hr : Rel P.globals.size B φ H w) (ha : ATRel φ n a act) {next : Act → World → Prop} {Q : Exit → Act → World → Prop}
    (hk : ∀ v H' φ' w' u, K v H' → Step P.globals.size B φ H w φ' H' w' → VRel φ' v u → next (act.put dst u) w') :
    ({ dst := dst, op := .call { callee := .builtin .append, args := #[x, y], argTypes := #[t, t] }, type := ty, pos := pos, after := after, guard := guard } : Oper).wp P act w next Q := by
  have hx := eval_rel hr ha x
  have hy := eval_rel hr ha y
  obtain ⟨hu, i, z, hi, hz, hsz, hby, hzc, hzp, hzl, hpos, hts, htz⟩ := elemInfo_inv hei
  subst hsz; subst hby
  obtain ⟨cs, hcs, h⟩ := bnd_iff.1 h
  obtain ⟨news, hnews, ⟨hb1, hb2⟩, h⟩ := bnd_iff.1 h
  obtain ⟨A, c, hyv, hnl, hnok, hcells⟩ := row_cells (P := P) hr hy hnews
  have hbase : ((aeval P.globals.size a x) = .slice none 0 0 ∧ cs = [] ∧ sliceLen (aeval P.globals.size a x) = 0) ∨ ∃ b cs0, (aeval P.globals.size a x) = .slice (some ⟨b, 0, none⟩) (sliceLen (aeval P.globals.size a x)) (sliceLen (aeval P.globals.size a x)) ∧ H.at_ b = .cells cs0 (.row i.size) e ∧ cs = cs0.take (sliceLen (aeval P.globals.size a x) * i.size) := by
    generalize hq : aeval P.globals.size a x = q at hcs hx
    unfold aBase at hcs
    split at hcs
    · obtain rfl := Option.some.inj hcs
      obtain ⟨_, rfl, rfl⟩ := hx.sliceNone
      exact .inl ⟨rfl, rfl, rfl⟩
    · rename_i b len cap
      obtain ⟨_, rfl, _⟩ := hx.sliceInv
      split at hcs
      · rename_i cs0 s t1 hat
        split at hcs
        · rename_i hc1
          obtain ⟨rfl, rfl, _⟩ := hc1
          obtain rfl := Option.some.inj hcs
          exact .inr ⟨b, cs0, rfl, hat, rfl⟩
        · cases hcs
      · cases hcs
    · cases hcs
  have hcl : cs.length = sliceLen (aeval P.globals.size a x) * i.size := by
    clear hbase
    generalize aeval P.globals.size a x = q at hcs hx
    unfold aBase at hcs
    split at hcs
    · obtain rfl := Option.some.inj hcs
      obtain ⟨_, rfl, rfl⟩ := hx.sliceNone
      simp [sliceLen]
    · split at hcs
      · split at hcs
        · rename_i hc1
          obtain ⟨rfl, rfl, h3⟩ := hc1
          obtain rfl := Option.some.inj hcs
          rw [List.length_take]
          simp only [sliceLen]
          omega
        · cases hcs
      · cases hcs
    · cases hcs
  obtain ⟨r, w', φ', h1, h2, h3⟩ := Step.append (P := P) hr t ty e i z hu hi hz (by rw [← Array.length_toList, hzc, hzl]) hpos _ _ cs _ hbase hcl hx A _ c news hnl hnok hcells hb1 hb2
  exact wp_val (u := r) (w' := w') (by simp [execOp, Go.resolve, invoke, builtin, hyv, h1]) (hk _ _ _ _ _ h h2 h3)

theorem appstr_sound {dst : Option Tmp} {t tu ty e : TypeId} {x y : Operand} {pos : String} {after : Array Edge} {guard : Option (Nat × Bool)} {K : Value → AHeap → Prop} {m bytes : Nat} {zs : List Value}
    (h : aAppStr m bytes e (aeval P.globals.size a x) (aeval P.globals.size a y) H K) (hei : elemInfo P t = some (e, m, bytes, zs)) (htu : P.underlying tu = some .string) (hr : Rel P.globals.size B φ H w) (ha : ATRel φ n a act) {next : Act → World → Prop} {Q : Exit → Act → World → Prop}
    (hk : ∀ v H' φ' w' u, K v H' → Step P.globals.size B φ H w φ' H' w' → VRel φ' v u → next (act.put dst u) w') :
    ({ dst := dst, op := .call { callee := .builtin .append, args := #[x, y], argTypes := #[t, tu] }, type := ty, pos := pos, after := after, guard := guard } : Oper).wp P act w next Q := by
  have hx := eval_rel hr ha x
  have hy := eval_rel hr ha y
  obtain ⟨hu, i, z, hi, hz, hsz, hby, hzc, hzp, hzl, hpos, hts, htz⟩ := elemInfo_inv hei
  subst hsz; subst hby
  unfold aAppStr at h
  split at h
  case h_2 => exact h.elim
  rename_i s heqy
  rw [heqy] at hy
  have hyv := hy.string
  obtain ⟨cs, hcs, ⟨hs1, hb1, hlen⟩, h⟩ := bnd_iff.1 h
  have hbase : ((aeval P.globals.size a x) = .slice none 0 0 ∧ cs = [] ∧ sliceLen (aeval P.globals.size a x) = 0) ∨ ∃ b cs0, (aeval P.globals.size a x) = .slice (some ⟨b, 0, none⟩) (sliceLen (aeval P.globals.size a x)) (sliceLen (aeval P.globals.size a x)) ∧ H.at_ b = .cells cs0 (.row i.size) e ∧ cs = cs0.take (sliceLen (aeval P.globals.size a x) * i.size) := by
    generalize hq : aeval P.globals.size a x = q at hcs hx
    unfold aBase at hcs
    split at hcs
    · obtain rfl := Option.some.inj hcs
      obtain ⟨_, rfl, rfl⟩ := hx.sliceNone
      exact .inl ⟨rfl, rfl, rfl⟩
    · rename_i b len cap
      obtain ⟨_, rfl, _⟩ := hx.sliceInv
      split at hcs
      · rename_i cs0 s t1 hat
        split at hcs
        · rename_i hc1
          obtain ⟨rfl, rfl, _⟩ := hc1
          obtain rfl := Option.some.inj hcs
          exact .inr ⟨b, cs0, rfl, hat, rfl⟩
        · cases hcs
      · cases hcs
    · cases hcs
  have hcl : cs.length = sliceLen (aeval P.globals.size a x) * i.size := by
    clear hbase
    generalize aeval P.globals.size a x = q at hcs hx
    unfold aBase at hcs
    split at hcs
    · obtain rfl := Option.some.inj hcs
      obtain ⟨_, rfl, rfl⟩ := hx.sliceNone
      simp [sliceLen]
    · split at hcs
      · split at hcs
        · rename_i hc1
          obtain ⟨rfl, rfl, h3⟩ := hc1
          obtain rfl := Option.some.inj hcs
          rw [List.length_take]
          simp only [sliceLen]
          omega
        · cases hcs
      · cases hcs
    · cases hcs
  obtain ⟨r, w', φ', h1, h2, h3⟩ := Step.appendStr (P := P) hr t tu ty e i z hu htu hi hz (by rw [← Array.length_toList, hzc, hzl]) hs1 hb1 _ _ cs _ hbase hcl hx s (by simp only [maxLen]; omega) hlen
  exact wp_val (u := r) (w' := w') (by simp [execOp, Go.resolve, invoke, builtin, hyv, h1]) (hk _ _ _ _ _ h h2 h3)

theorem sliceArr_sound {t e : TypeId} {len n : Nat} (ht : P.underlying t = some (.array len e)) (hn : tySize P e = some n) {lo hi lo' hi' : Option Value} {x u v : Value} (hx : VRel φ x u) (hlo : VRelO φ lo lo') (hhi : VRelO φ hi hi')
    (h : aSliceArr len n x lo hi = some v) : ∃ v', (Instr.sliceAt t u lo' hi' none).run P w = .ok v' w ∧ VRel φ v v' := by
  unfold aSliceArr at h
  split at h
  · rename_i b o
    obtain ⟨l, h1, h7⟩ := Option.bind_eq_some_iff.1 h
    obtain ⟨hh, h2, h8⟩ := Option.bind_eq_some_iff.1 h7
    clear h h7
    split at h8
    · rename_i hc
      obtain ⟨hlh, hll, ho, hm⟩ := hc
      obtain rfl := hlo.lo h1
      obtain rfl := hhi.hi h2
      obtain rfl := Option.some.inj h8
      obtain ⟨_, p, hp, rfl⟩ := hx.ptrInv
      have hhl : hh ≤ len := by
        rcases hiOf_inv h2 with ⟨_, rfl⟩ | ⟨k, q, _, h3, h4, rfl⟩ <;> omega
      refine ⟨.slice (some ⟨p.blk, p.off + (o + l * n), none⟩) (hh - l) (len - l), ?_, .slice hp (by omega) (by omega) (.inr (.inl ho))⟩
      have hne : ¬ len = l := by omega
      simp [Instr.sliceAt, run_underlying ht, Instr.sureAddr, run_bounds (P := P) (w := w) false len len l hh lo' hi' h1 h2 hlh (Nat.le_refl _), run_sizeOf hn, hne, addr_add, Nat.add_assoc]
    · cases h8
  · cases h


set_option maxHeartbeats 1000000 in
/-- An own block that is only read from now on; its marks may change. -/
theorem Step.mark (h : Rel P.globals.size B φ H w) (b : Nat) (p : Place) (hp : φ b = some (some p)) {cs : List Value} {t : TypeId} {k : Use} (hko : k.own = true) (hx : H.at_ b = .cells cs k t) (w' : World)
    {c : Array Value} {t' : TypeId} {fr fr' : Nat × Nat} (hg : w.heap[p.blk]? = some (.cells c t' fr)) (hh : ∀ j, w'.heap[j]? = if j = p.blk then some (.cells c t' fr') else w.heap[j]?) (hsz : w'.heap.size = w.heap.size)
    (e1 : w'.os = w.os) (e2 : w'.tape = w.tape) (e3 : w'.output = w.output) : Step P.globals.size B φ H w φ (H.upd b (.cells cs .read t)) w' := by
  have hB := h.blk b p hp
  rw [hx] at hB
  obtain ⟨c0, t0, fr0, g0, g1, g2, g3, g4, g5, g6⟩ := hB
  rw [hg] at g0
  cases g0
  have hown : (H.at_ b).own = true := by rw [hx]; exact hko
  have hal : ∀ d, ((H.upd b (.cells cs .read t)).at_ d).alive = (H.at_ d).alive := by
    intro d
    by_cases e : d = b
    · subst e; rw [AHeap.at_upd_same, hx]; rfl
    · rw [AHeap.at_upd_ne _ _ e]
  have hon : ∀ d, ((H.upd b (.cells cs .read t)).at_ d).own = true → (H.at_ d).own = true := by
    intro d hd
    by_cases e : d = b
    · subst e; exact hown
    · rwa [AHeap.at_upd_ne _ _ e] at hd
  refine ⟨⟨by rw [hsz]; exact h.base, h.glob, h.dom, fun d hd => by rw [AHeap.at_upd_ne _ _ (by have := h.dom b _ hp; have hd' : H.next ≤ d := hd; omega)]; exact h.wf d hd, fun d q hd => ?_, fun d d' q q' hd hd' ho ha he => ?_⟩, Nat.le_refl _, fun _ _ => rfl, e1, e2, e3, by omega, fun k hk hno => ?_, fun k ⟨d, q, h1, h2, h3⟩ => .inl ⟨d, q, h1, hon d h2, h3⟩⟩
  · by_cases e : d = b
    · subst e
      rw [hp] at hd
      cases hd
      rw [AHeap.at_upd_same]
      exact ⟨c, t', fr', by rw [hh, if_pos rfl], g1, g2, g3, g4, fun h => (by cases h), fun s h => (by cases h), fun h => (by cases h)⟩
    · rw [AHeap.at_upd_ne _ _ e]
      by_cases ha : (H.at_ d).alive = true
      · refine (h.blk d q hd).heap ?_
        rw [hh, if_neg]
        intro he
        exact e (h.apart b d p q hp hd hown ha he.symm).symm
      · cases hc' : H.at_ d with
        | dead => trivial
        | cells _ _ _ => rw [hc'] at ha; simp [Blk.alive] at ha
        | map _ => rw [hc'] at ha; simp [Blk.alive] at ha
  · rw [hal] at ha
    exact h.apart d d' q q' hd hd' (hon d ho) ha he
  · rw [hh, if_neg]
    intro e
    exact hno ⟨b, p, hp, hown, e.symm⟩

theorem bytesOf_inv : ∀ {cs : List Value} {l : List UInt8}, bytesOf cs = some l → l.length = cs.length ∧ ∀ j (hj : j < l.length), cs[j]? = some (.int .u8 (l[j].toNat : Int))
  | [], l, h => by
    simp only [bytesOf, Option.some.injEq] at h
    subst h
    exact ⟨rfl, by simp⟩
  | v :: vs, l, h => by
    unfold bytesOf at h
    split at h
    · cases ‹v :: vs = []›
    · rename_i n vs' heq
      injection heq with e1 e2
      subst e1; subst e2
      split at h
      · rename_i hn
        rw [Option.map_eq_some_iff] at h
        obtain ⟨l', hl', rfl⟩ := h
        obtain ⟨h1, h2⟩ := bytesOf_inv hl'
        refine ⟨by simp [h1], fun j hj => ?_⟩
        cases j with
        | zero =>
          have : (UInt8.ofNat n.toNat).toNat = n.toNat := by rw [UInt8.toNat_ofNat']; omega
          simp only [List.getElem?_cons_zero, List.getElem_cons_zero, this, Option.some.injEq, Value.int.injEq, true_and]
          omega
        | succ j => simpa using h2 j (by simpa using hj)
      · cases h
    · cases h

theorem bytesStr_sound (hr : Rel P.globals.size B φ H w) {s d e : TypeId} (hs : P.underlying s = some (.slice e)) (hd : P.underlying d = some .string) (he : P.underlying e = some (.int .u8)) {x u v : Value} (hx : VRel φ x u) (h : aBytesStr x H = some v) :
    (convert s d u).run P w = .ok v w ∧ plainCell v = true := by
  unfold aBytesStr at h
  rw [Option.bind_eq_some_iff] at h
  obtain ⟨cs, hcs, h⟩ := h
  rw [Option.map_eq_some_iff] at h
  obtain ⟨l, hl, rfl⟩ := h
  refine ⟨?_, rfl⟩
  obtain ⟨A, c, rfl, h1, h2, h3⟩ := row_cells hr hx hcs
  obtain ⟨l1, l2⟩ := bytesOf_inv hl
  rw [Nat.mul_one] at h1
  have hlen : sliceLen x = l.length := by omega
  rw [hlen] at h3 ⊢
  cases A with
  | none =>
    have h0 : l.length = 0 := by
      rcases Nat.eq_zero_or_pos l.length with h0 | h0
      · exact h0
      · obtain ⟨ad, ha, _⟩ := h3 h0
        cases ha
    obtain rfl := List.eq_nil_of_length_eq_zero h0
    rw [run_convert_bytes_string w s d e none _ c hs he hd]
    rfl
  | some a =>
    refine run_convert_bytes_back w s d e a c l hs he hd fun j hj => ?_
    obtain ⟨ad, ha, h4⟩ := h3 (by omega)
    injection ha with ha
    subst ha
    obtain ⟨v', h5, h6⟩ := h4 j _ (l2 j hj)
    rw [h5, h6.int]

theorem strBytes_sound (hr : Rel P.globals.size B φ H w) {s d e : TypeId} (hs : P.underlying s = some .string) (hd : P.underlying d = some (.slice e)) (he : P.underlying e = some (.int .u8)) {b : ByteArray} (hb : b.size ≤ 140737488355328) :
    ∃ u φ' w', (convert s d (.string b)).run P w = .ok u w' ∧ Step P.globals.size B φ H w φ' (H.alloc (.cells (byteCells b) .read e)) w' ∧ VRel φ' (.slice (some ⟨H.next, 0, none⟩) b.size b.size) u := by
  have hrun := run_bytes_of_string (P := P) w s d e b hs hd he
  have hge := grownCap_ge w b.size 0 e
  have hcm : grownCap w b.size 0 e ≤ maxLen := grownCap_le_maxLen w b.size 0 e (by simp only [maxLen]; omega)
  have hst0 : Step P.globals.size B φ H w φ H w.drew := Step.same hr rfl rfl rfl rfl
  have hbl : (byteCells b).length = b.size := by unfold byteCells; rw [List.length_map, Array.length_toList]; rfl
  have hpl : (byteCells b).all plainCell = true := by unfold byteCells; rw [List.all_map]; exact List.all_eq_true.2 fun _ _ => rfl
  have hsz : (bytesRow b (grownCap w b.size 0 e)).size = grownCap w b.size 0 e := by
    have : b.data.size = b.size := rfl
    simp [bytesRow, this]; omega
  have htk : ((bytesRow b (grownCap w b.size 0 e)).toList.drop 0).take (byteCells b).length = byteCells b := by
    rw [List.drop_zero, hbl]
    have : (bytesRow b (grownCap w b.size 0 e)).toList = byteCells b ++ List.replicate (grownCap w b.size 0 e - b.size) (.int .u8 0) := by simp [bytesRow, byteCells]
    rw [this, ← hbl, List.take_left]
  have hst := Step.alloc hst0.rel (.cells (byteCells b) .read e) (.cells (bytesRow b (grownCap w b.size 0 e)) e ((bytesRow b (grownCap w b.size 0 e)).size, (bytesRow b (grownCap w b.size 0 e)).size + 1)) ⟨w.heap.size, 0, grownCap w b.size 0 e, 0⟩ rfl (by
    refine ⟨_, _, _, by rw [heap_alloc, if_pos]; rfl, hsz, (by show 0 + (byteCells b).length ≤ _; omega), ?_, ?_, fun h => (by cases h), fun s h => (by cases h), fun h => (by cases h)⟩
    · show VRels _ _ (List.take _ (List.drop 0 _))
      rw [htk]
      exact VRels.plain hpl
    · intro v hv
      simp only [byteCells, List.mem_map] at hv
      obtain ⟨x, _, rfl⟩ := hv
      rfl)
  refine ⟨_, _, _, hrun, hst0.trans hst, ?_⟩
  have := VRel.slice (φ := φ.upd H.next (some (some ⟨w.heap.size, 0, grownCap w b.size 0 e, 0⟩))) (b := H.next) (o := 0) (n := b.size) (c := grownCap w b.size 0 e) (p := ⟨w.heap.size, 0, grownCap w b.size 0 e, 0⟩) (by simp) hge hcm (.inl rfl)
  simpa using this

theorem mark_sound (hr : Rel P.globals.size B φ H w) {s e : TypeId} (hs : P.underlying s = some (.slice e)) (he : P.underlying e = some (.int .u8)) {b o n c : Nat} {q : Option Nat} {u : Value} (hx : VRel φ (.slice (some ⟨b, o, q⟩) n c) u) (hn : 0 < n)
    {cs : List Value} {k : Use} {t : TypeId} (hko : k.own = true) (hat : H.at_ b = .cells cs k t) :
    ∃ w', (convert s s u).run P w = .ok u w' ∧ Step P.globals.size B φ H w φ (H.upd b (.cells cs .read t)) w' := by
  obtain ⟨_, _, h1⟩ := hx.sliceInv
  rcases h1 with ⟨p, cap, hp, hnc, hm, hl, rfl⟩ | ⟨rfl, _, A', hA', rfl⟩
  · have hB := hr.blk b p hp
    rw [hat] at hB
    obtain ⟨c1, t', fr, g0, g1, g2, g3, g4, g5, g6⟩ := hB
    have hsh : w.shape? p.blk = some (t', c1.size) := by simp [World.shape?, g0]
    have hlt : p.blk < w.heap.size := (Array.getElem?_eq_some_iff.1 g0).1
    refine ⟨w.freeze ⟨p.blk, c1.size, none⟩ 1, ?_, ?_⟩
    · simp [convert, run_underlying hs, run_underlying he, markStringish, hsh]
    · have hfz : (w.freeze ⟨p.blk, c1.size, none⟩ 1).heap = w.heap.modify p.blk fun
          | .cells c elem (lo, hi) => .cells c elem (if lo == hi then (c1.size, c1.size + 1) else (min lo c1.size, max hi (c1.size + 1)))
          | o => o := by
        unfold World.freeze
        rw [if_neg (by decide)]
        rfl
      obtain ⟨fr', hh⟩ : ∃ fr', ∀ j, (w.freeze ⟨p.blk, c1.size, none⟩ 1).heap[j]? = if j = p.blk then some (.cells c1 t' fr') else w.heap[j]? := by
        rw [hfz]
        obtain ⟨lo, hi⟩ := fr
        refine ⟨if lo == hi then (c1.size, c1.size + 1) else (min lo c1.size, max hi (c1.size + 1)), fun j => ?_⟩
        rw [Array.getElem?_modify]
        by_cases hj : p.blk = j
        · subst hj
          rw [if_pos rfl, if_pos rfl, g0]
          rfl
        · rw [if_neg hj, if_neg (Ne.symm hj)]
      refine Step.mark hr b p hp hko hat _ g0 hh ?_ ?_ ?_ ?_
      · rw [hfz, Array.size_modify]
      all_goals (unfold World.freeze; rw [if_neg (by decide)])
  · omega

theorem uString_sound (hr : Rel P.globals.size B φ H w) {t it ty e : TypeId} {x y u v : Value} {K : Value → AHeap → Prop} (ht : P.underlying t = some (.pointer e)) (he : tySize P e = some 1) (hx : VRel φ x u) (hy : VRel φ y v)
    (h : aUString e x y H K) : ∃ s H' w', (Builtin.unsafeString_ #[t, it] ty #[u, v]).run P w = .ok (.string s) w' ∧ Step P.globals.size B φ H w φ H' w' ∧ K (.string s) H' := by
  unfold aUString at h
  split at h
  · rename_i b n
    split at h
    · rename_i cs k tb hat
      obtain ⟨l, hl, ⟨rfl, h0, hn, h63⟩, hfin⟩ := bnd_iff.1 h
      obtain ⟨_, p, hp, rfl⟩ := hx.ptrInv
      have hv := hy.int
      subst hv
      have hB := hr.blk b p hp
      rw [hat] at hB
      obtain ⟨c1, t', fr, g0, g1, g2, g3, g4, g5, g6⟩ := hB
      obtain ⟨k1, k2, k3, k4⟩ := g5 rfl
      subst k4
      obtain ⟨l1, l2⟩ := bytesOf_inv hl
      rw [List.length_take] at l1
      have hnl : n = (l.length : Int) := by omega
      have hsh : w.shape? p.blk = some (t', c1.size) := by simp [World.shape?, g0]
      have hcells : P.cellsOf t' = 1 := by
        unfold tySize at he
        simp only [Program.cellsOf]
        cases hi : P.info? t' with
        | none => rw [hi] at he; cases he
        | some i => rw [hi] at he; simpa using he
      have hcell : ∀ j x, l[j]? = some x → w.cell? ((⟨p.blk, 0, none⟩ : Addr).add j) = some (.int .u8 x.toNat) := by
        intro j x hj
        obtain ⟨hj1, hj2⟩ := List.getElem?_eq_some_iff.1 hj
        have h3 := l2 j hj1
        rw [List.getElem?_take] at h3
        split at h3
        · obtain ⟨v', h5, h6, _⟩ := cells_at hr hp hat j _ h3
          rw [k3] at h5
          rw [addr_add, h5, h6.int, hj2]
        · cases h3
      have hl0 : ¬ l.length = 0 := by omega
      have hrun := Lib.run_unsafeString_row (P := P) w t it ty t' ht hcells p.blk c1.size hsh l (by intro e; rw [e] at hnl; simp at hnl; omega) (by omega) (by omega) hcell
      refine ⟨_, _, w.freeze ⟨p.blk, 0, none⟩ l.length, by rw [hnl, k3]; exact hrun, ?_, hfin⟩
      have hfz : (w.freeze ⟨p.blk, 0, none⟩ l.length).heap = w.heap.modify p.blk fun
          | .cells c elem (lo, hi) => .cells c elem (if lo == hi then (0, 0 + l.length) else (min lo 0, max hi (0 + l.length)))
          | o => o := by
        unfold World.freeze
        rw [if_neg hl0]
        rfl
      obtain ⟨fr', hh⟩ : ∃ fr', ∀ j, (w.freeze ⟨p.blk, 0, none⟩ l.length).heap[j]? = if j = p.blk then some (.cells c1 t' fr') else w.heap[j]? := by
        rw [hfz]
        obtain ⟨lo, hi⟩ := fr
        refine ⟨if lo == hi then (0, 0 + l.length) else (min lo 0, max hi (0 + l.length)), fun j => ?_⟩
        rw [Array.getElem?_modify]
        by_cases hj : p.blk = j
        · subst hj
          rw [if_pos rfl, if_pos rfl, g0]
          rfl
        · rw [if_neg hj, if_neg (Ne.symm hj)]
      refine Step.mark hr b p hp rfl hat _ g0 hh ?_ ?_ ?_ ?_
      · rw [hfz, Array.size_modify]
      all_goals (unfold World.freeze; rw [if_neg hl0])
    · exact h.elim
  · exact h.elim

theorem mapGet_now {φ : Phi} : ∀ {es : List (Value × Value)} {ms : List MapEntry} {s : ByteArray} {r : Option Value} (j : Nat), VRels φ (es.map (·.1)) (ms.map (·.key)) → VRels φ (es.map (·.2)) (ms.map (·.val)) → mapGet es s = some r →
    ∃ r', Instr.findNow .string (.string s) ms j = some r' ∧ (match r with | some v => ∃ i v', r' = some (i, v') ∧ VRel φ v v' | none => r' = none)
  | [], [], s, r, j, _, _, h => by
    simp only [mapGet, Option.some.injEq] at h
    subst h
    exact ⟨none, rfl, rfl⟩
  | [], m :: ms, s, r, j, h1, _, _ => by have := h1.1; simp at this
  | e :: es, [], s, r, j, h1, _, _ => by have := h1.1; simp at this
  | (k, v) :: es, m :: ms, s, r, j, h1, h2, h => by
    have hk := h1.2 0 k m.key (by simp) (by simp)
    have hv := h2.2 0 v m.val (by simp) (by simp)
    have h1' : VRels φ (es.map (·.1)) (ms.map (·.key)) := ⟨by have := h1.1; simpa using this, fun i u w hu hw => h1.2 (i + 1) u w (by simpa using hu) (by simpa using hw)⟩
    have h2' : VRels φ (es.map (·.2)) (ms.map (·.val)) := ⟨by have := h2.1; simpa using this, fun i u w hu hw => h2.2 (i + 1) u w (by simpa using hu) (by simpa using hw)⟩
    unfold mapGet at h
    split at h
    · rename_i heq; cases heq
    · rename_i k' v' es' heq
      injection heq with e1 e2
      injection e1 with e1 e3
      subst e1; subst e2; subst e3
      have hm : m.key = .string k' := hk.string
      split at h
      · rename_i hs
        obtain rfl := Option.some.inj h
        exact ⟨some (j, m.val), by unfold Instr.findNow; rw [hm]; simp [Instr.sameNow, hs], j, m.val, rfl, hv⟩
      · rename_i hs
        obtain ⟨r', h3, h4⟩ := mapGet_now (j + 1) h1' h2' h
        exact ⟨r', by unfold Instr.findNow; rw [hm]; simp [Instr.sameNow, hs, h3], h4⟩
    · cases h
theorem tyZero1_inv {t : TypeId} {z : Value} (h : tyZero1 P t = some z) : plainCell z = true ∧ ∃ i, P.info? t = some i ∧ i.zero = some z := by
  unfold tyZero1 at h
  split at h
  · rename_i i hi
    split at h
    · rename_i z' hz
      split at h
      · rename_i hp
        obtain rfl := Option.some.inj h
        exact ⟨hp, i, hi, hz⟩
      · cases h
    · cases h
  · cases h
theorem lookup_sound (hr : Rel P.globals.size B φ H w) {t : TypeId} {z x i u j v : Value} (hi : mapInfo P t = some z) (hx : VRel φ x u) (hj : VRel φ i j) (h : aLookup z x i H = some v) : ∃ v', (Instr.lookup t u j true).run P w = .ok v' w ∧ VRel φ v v' := by
  unfold mapInfo at hi
  split at hi
  · rename_i kt et hu
    split at hi
    · rename_i z hk hz
      obtain rfl := Option.some.inj hi
      obtain ⟨hp, inf, hinf, hzz⟩ := tyZero1_inv hz
      unfold aLookup at h
      split at h
      · rename_i b s
        split at h
        · rename_i es hat
          rw [Option.map_eq_some_iff] at h
          obtain ⟨r, hg, rfl⟩ := h
          obtain ⟨p, hpb, rfl⟩ := hx.mapInv
          obtain rfl := hj.string
          have hB := hr.blk b p hpb
          rw [hat] at hB
          obtain ⟨ms, clock, hh, _, hks, hvs⟩ := hB
          obtain ⟨r', hn, hrr⟩ := mapGet_now 0 hks hvs hg
          have hzero : (zeroValue et).run P w = .ok z w := by simp [zeroValue, typeInfo, hinf, hzz]
          cases r with
          | none =>
            simp only at hrr
            subst hrr
            refine ⟨.tuple #[z, .bool false], ?_, .tuple rfl fun i u w hu hw => ?_⟩
            · simp [Instr.lookup, run_underlying hu, MapKept.run_getObj_map hh, MapKept.run_checkKey hk (k := .string s) trivial, MapKept.run_findKey hk hn, Result.andThen, hzero]
            · match i, hu, hw with
              | 0, hu, hw => simp at hu hw; subst hu; subst hw; exact .plain hp
              | 1, hu, hw => simp at hu hw; subst hu; subst hw; exact .plain rfl
              | i + 2, hu, _ => simp at hu
          | some v =>
            obtain ⟨q, v', rfl, hv'⟩ := hrr
            refine ⟨.tuple #[v', .bool true], ?_, .tuple rfl fun i u w hu hw => ?_⟩
            · simp [Instr.lookup, run_underlying hu, MapKept.run_getObj_map hh, MapKept.run_checkKey hk (k := .string s) trivial, MapKept.run_findKey hk hn, Result.andThen]
            · match i, hu, hw with
              | 0, hu, hw => simp at hu hw; subst hu; subst hw; exact hv'
              | 1, hu, hw => simp at hu hw; subst hu; subst hw; exact .plain rfl
              | i + 2, hu, _ => simp at hu
        · cases h
      · cases h
    · cases hi
  · cases hi

/-- A map's entries are others. -/
theorem Step.setMap (h : Rel P.globals.size B φ H w) (b : Nat) (p : Place) (hp : φ b = some (some p)) {es es' : List (Value × Value)} (hx : H.at_ b = .map es) {o : Obj} (hg : w.heap[p.blk]? = some o) (ms' : Array MapEntry) (clock' : Nat)
    (hk : VRels φ (es'.map (·.1)) (ms'.toList.map (·.key))) (hv : VRels φ (es'.map (·.2)) (ms'.toList.map (·.val))) :
    Step P.globals.size B φ H w φ (H.upd b (.map es')) { w with heap := w.heap.setIfInBounds p.blk (.map ms' clock') } := by
  obtain ⟨s1, s2⟩ := MapKept.heap_set (o' := .map ms' clock') hg
  have hB := h.blk b p hp
  rw [hx] at hB
  obtain ⟨ms, clock, g0, g1, g2, g3⟩ := hB
  have hown : (H.at_ b).own = true := by rw [hx]; rfl
  have hal : ∀ d, ((H.upd b (.map es')).at_ d).alive = (H.at_ d).alive := by
    intro d
    by_cases e : d = b
    · subst e; rw [AHeap.at_upd_same, hx]; rfl
    · rw [AHeap.at_upd_ne _ _ e]
  have hon : ∀ d, ((H.upd b (.map es')).at_ d).own = (H.at_ d).own := by
    intro d
    by_cases e : d = b
    · subst e; rw [AHeap.at_upd_same, hx]; rfl
    · rw [AHeap.at_upd_ne _ _ e]
  refine ⟨⟨by show B ≤ (w.heap.setIfInBounds _ _).size; rw [Array.size_setIfInBounds]; exact h.base, h.glob, h.dom, fun d hd => by rw [AHeap.at_upd_ne _ _ (by have := h.dom b _ hp; have hd' : H.next ≤ d := hd; omega)]; exact h.wf d hd, fun d q hd => ?_, fun d d' q q' hd hd' ho ha he => ?_⟩, Nat.le_refl _, fun _ _ => rfl, rfl, rfl, rfl, by show w.heap.size ≤ (w.heap.setIfInBounds _ _).size; rw [Array.size_setIfInBounds]; exact Nat.le_refl _, fun k hk hno => ?_, fun k ⟨d, q, h1, h2, h3⟩ => .inl ⟨d, q, h1, by rw [← hon d]; exact h2, h3⟩⟩
  · by_cases e : d = b
    · subst e
      rw [hp] at hd
      cases hd
      rw [AHeap.at_upd_same]
      exact ⟨ms', clock', s1, g1, hk, hv⟩
    · rw [AHeap.at_upd_ne _ _ e]
      by_cases ha : (H.at_ d).alive = true
      · refine (h.blk d q hd).heap (s2 _ ?_)
        intro he
        exact e (h.apart b d p q hp hd hown ha he.symm).symm
      · cases hc' : H.at_ d with
        | dead => trivial
        | cells _ _ _ => rw [hc'] at ha; simp [Blk.alive] at ha
        | map _ => rw [hc'] at ha; simp [Blk.alive] at ha
  · rw [hon] at ho
    rw [hal] at ha
    exact h.apart d d' q q' hd hd' ho ha he
  · exact s2 k fun e => hno ⟨b, p, hp, hown, e.symm⟩
theorem VRels.one' {φ : Phi} {u v : Value} (h : VRel φ u v) : VRels φ [u] [v] := VRels.cons h (VRels.nil φ)
theorem beq_ba {a b : ByteArray} (h : (a == b) = true) : a = b := by
  cases a with
  | mk x => cases b with
    | mk y => exact congrArg ByteArray.mk (eq_of_beq (show (x == y) = true from h))
/-- What mapUpdate finds and leaves. -/
theorem mapPut_now {φ : Phi} : ∀ {es es' : List (Value × Value)} {ms : List MapEntry} {s : ByteArray} {x y : Value} (j : Nat), VRels φ (es.map (·.1)) (ms.map (·.key)) → VRels φ (es.map (·.2)) (ms.map (·.val)) → VRel φ x y → mapPut es s x = some es' →
    (Instr.findNow .string (.string s) ms j = some none ∧ es' = es ++ [(.string s, x)]) ∨
    ∃ i v m, Instr.findNow .string (.string s) ms j = some (some (j + i, v)) ∧ ms[i]? = some m ∧ m.key = .string s ∧ i < es.length ∧ VRels φ (es'.map (·.1)) (ms.map (·.key)) ∧ VRels φ (es'.map (·.2)) ((ms.map (·.val)).set i y)
  | [], es', [], s, x, y, j, _, _, _, h => by
    simp only [mapPut, Option.some.injEq] at h
    subst h
    exact .inl ⟨rfl, rfl⟩
  | [], _, m :: ms, s, x, y, j, h1, _, _, _ => by have := h1.1; simp at this
  | e :: es, _, [], s, x, y, j, h1, _, _, _ => by have := h1.1; simp at this
  | (k, v) :: es, es', m :: ms, s, x, y, j, h1, h2, hxy, h => by
    have hk := h1.2 0 k m.key (by simp) (by simp)
    have hv := h2.2 0 v m.val (by simp) (by simp)
    have h1' : VRels φ (es.map (·.1)) (ms.map (·.key)) := ⟨by have := h1.1; simpa using this, fun i u w hu hw => h1.2 (i + 1) u w (by simpa using hu) (by simpa using hw)⟩
    have h2' : VRels φ (es.map (·.2)) (ms.map (·.val)) := ⟨by have := h2.1; simpa using this, fun i u w hu hw => h2.2 (i + 1) u w (by simpa using hu) (by simpa using hw)⟩
    unfold mapPut at h
    split at h
    · rename_i heq; cases heq
    · rename_i k' v' es0 heq
      injection heq with e1 e2
      injection e1 with e1 e3
      subst e1; subst e2; subst e3
      have hm : m.key = .string k' := hk.string
      split at h
      · rename_i hs
        obtain rfl := Option.some.inj h
        refine .inr ⟨0, m.val, m, by unfold Instr.findNow; rw [hm]; simp [Instr.sameNow, hs], rfl, by rw [hm, beq_ba hs], by simp, ?_, ?_⟩
        · exact VRels.cons hk h1'
        · exact VRels.cons hxy h2'
      · rename_i hs
        rw [Option.map_eq_some_iff] at h
        obtain ⟨es1, h, rfl⟩ := h
        rcases mapPut_now (j + 1) h1' h2' hxy h with ⟨h3, h4⟩ | ⟨i, v1, m1, h3, h4, h5, h6, h7, h8⟩
        · exact .inl ⟨by unfold Instr.findNow; rw [hm]; simp [Instr.sameNow, hs, h3], by rw [h4]; rfl⟩
        · refine .inr ⟨i + 1, v1, m1, by unfold Instr.findNow; rw [hm]; simp [Instr.sameNow, hs, h3]; omega, by simpa using h4, h5, by simp; omega, VRels.cons hk h7, ?_⟩
          simp only [List.map_cons, List.set_cons_succ]
          exact VRels.cons hv h8
    · cases h
theorem op_sound {o : Oper} {K : Value → AHeap → Prop} (h : aopK P o.op a H K) (hr : Rel P.globals.size B φ H w) (ha : ATRel φ n a act) {next : Act → World → Prop} {Q : Exit → Act → World → Prop}
    (hk : ∀ v H' φ' w' u, K v H' → Step P.globals.size B φ H w φ' H' w' → VRel φ' v u → next (act.put o.dst u) w') : o.wp P act w next Q := by
  have hev := fun x => eval_rel hr ha x
  obtain ⟨dst, op, ty, pos, after, guard⟩ := o
  dsimp only at h hk
  have here : ∀ v u, K v H → VRel φ v u → next (act.put dst u) w := fun v u h1 h2 => hk v H φ w u h1 (Step.refl hr) h2
  unfold aopK at h
  dsimp only at h
  split at h
  case h_1 x => exact wp_val (u := act.eval x) (by simp [execOp]) (here _ _ h (hev x))
  case h_2 x => exact wp_val (u := act.eval x) (by simp [execOp]) (here _ _ h (hev x))
  case h_3 c x y =>
    obtain ⟨v, hv, h⟩ := bnd_iff.1 h
    obtain ⟨b, hb, hr'⟩ := pick_sound (hev c) (hev x) (hev y) hv
    exact wp_val (u := if b then act.eval x else act.eval y) (by simp [execOp, hb, asBool]) (here _ _ h hr')
  case h_4 t =>
    split at h
    · rename_i cs hz
      split at h
      · rename_i hp
        obtain ⟨φ', w', h1, h2, h3⟩ := alloc_sound hr hz hp
        exact wp_val (by simp [execOp, h1]) (hk _ _ _ _ _ h h2 h3)
      · exact h.elim
    · exact h.elim
  case h_5 t x =>
    obtain ⟨hok, h⟩ := h
    obtain ⟨φ', h1, h2, h3⟩ := box_sound (P := P) hr (t := t) (hev x) hok
    exact wp_val (by simp [execOp, h1]) (hk _ _ _ _ _ h h2 h3)
  case h_6 t parts =>
    split at h
    · rename_i places zs hpl hz
      split at h
      · rename_i hzp
        split at h
        · rename_i rs hrs
          obtain ⟨cs, hcs, h⟩ := bnd_iff.1 h
          obtain ⟨p1, p2⟩ := parts_rel hr ha parts
          obtain ⟨v, h1, h2⟩ := build_sound (P := P) (w := w) hpl hz hzp p1 p2 hrs hcs
          have h1' : (Instr.build t (parts.map fun (i, x) => (i, act.eval x))).run P w = .ok v w := by simpa only [Array.toArray_toList] using h1
          exact wp_val (by simp only [execOp, Sem.run_bind, h1', Result.andThen_ok, Sem.run_pure]) (here _ _ h h2)
        · exact h.elim
      · exact h.elim
    · exact h.elim
  case h_7 t len parts =>
    split at h
    · rename_i e k bytes zs hei
      split at h
      · rename_i rs hrs hsm
        obtain ⟨cs, hcs, ⟨hok, hcl⟩, h⟩ := bnd_iff.1 h
        obtain ⟨hu, i, z, hi, hz, hsz, hby, hzc, hzp, hzl, hpos, hts, htz⟩ := elemInfo_inv hei
        obtain ⟨p1, p2⟩ := parts_rel hr ha parts
        obtain ⟨φ', w', v, h1, h2, h3⟩ := buildSlice_sound hr hu hts (of_decide_eq_true hsm) htz hzp hzl p1 p2 hrs hcs hok hcl
        have h1' : (Instr.buildSlice t len (parts.map fun (i, x) => (i, act.eval x))).run P w = .ok v w' := by simpa only [Array.toArray_toList] using h1
        exact wp_val (by simp only [execOp, Sem.run_bind, h1', Result.andThen_ok, Sem.run_pure]) (hk _ _ _ _ _ h h2 h3)
      · exact h.elim
    · exact h.elim
  case h_8 t x =>
    obtain ⟨v, hv, h⟩ := bnd_iff.1 h
    obtain ⟨v', h1, h2⟩ := load_sound hr (hev x) hv
    exact wp_val (by simp only [execOp, Sem.run_bind, h1, Result.andThen_ok, Sem.run_pure]) (here _ _ h h2)
  case h_9 t x y =>
    split at h
    · rename_i k hk'
      obtain ⟨H', hv, h⟩ := bnd_iff.1 h
      obtain ⟨w', h1, h2⟩ := store_sound hr hk' (hev x) (hev y) hv
      exact wp_unit (w' := w') (by simp only [execOp, Sem.run_bind, h1, Result.andThen_ok, Sem.run_pure]) (hk _ _ _ _ _ h h2 (VRel.undef _))
    · exact h.elim
  case h_10 x =>
    obtain ⟨v, hv, h⟩ := bnd_iff.1 h
    have hx := hev x
    unfold aNilCheck at hv
    split at hv
    · rename_i ad heq
      obtain rfl := Option.some.inj hv
      rw [heq] at hx
      obtain ⟨c, hc⟩ := hx.ptrSome
      exact wp_val (u := act.eval x) (by simp [execOp, hc]) (here _ _ h (by rw [heq]; exact hx))
    · rename_i t y heq
      obtain rfl := Option.some.inj hv
      rw [heq] at hx
      obtain ⟨c, hc, _⟩ := hx.ifaceInv
      exact wp_val (u := act.eval x) (by simp [execOp, hc]) (here _ _ h (by rw [heq]; exact hx))
    · rename_i f p q heq
      obtain rfl := Option.some.inj hv
      rw [heq] at hx
      obtain ⟨c, d, hc, _⟩ := hx.funcInv
      exact wp_val (u := act.eval x) (by simp [execOp, hc]) (here _ _ h (by rw [heq]; exact hx))
    · rename_i A l c heq
      obtain rfl := Option.some.inj hv
      rw [heq] at hx
      have hc : ∃ A l c, act.eval x = .slice A l c := by
        cases A with
        | none => exact ⟨_, _, _, hx.sliceNone.1⟩
        | some ad =>
          obtain ⟨b, o, s⟩ := ad
          obtain ⟨_, _, h3⟩ := hx.sliceInv
          rcases h3 with ⟨p, c, _, _, _, _, h4⟩ | ⟨_, _, A, _, h4⟩
          · exact ⟨_, _, _, h4⟩
          · exact ⟨_, _, _, h4⟩
      obtain ⟨A', l', c', hc⟩ := hc
      exact wp_val (u := act.eval x) (by simp [execOp, hc]) (here _ _ h (by rw [heq]; exact hx))
    · cases hv
  case h_11 op t x y t' =>
    unfold aBinN at h
    split at h
    · rename_i hnr
      obtain ⟨v, hv, h⟩ := bnd_iff.1 h
      obtain ⟨rfl, h1, h2⟩ := ifaceNil_sound (P := P) (w := w) (ox := x) hnr (hev x) hv
      exact wp_val (u := v) (by simp only [execOp, Act.eval] at h1 ⊢; rw [Sem.run_bind, h1]; rfl) (here _ _ h (.plain h2))
    rcases aBinK_inv h with ⟨hsl, hem, ht, hf⟩ | ⟨v, hv, h⟩
    · obtain ⟨b, o, c, rfl, ex, ey⟩ : ∃ b o c, op = .eql ∧ aeval P.globals.size a x = .slice (some ⟨b, o, none⟩) 0 c ∧ aeval P.globals.size a y = .slice none 0 0 := by
        unfold emptyCmp at hem
        split at hem
        · split at hem
          · rename_i h1 h2
            exact ⟨_, _, _, rfl, h1, h2⟩
          · cases hem
        · cases hem
      have hx := hev x
      have hy := hev y
      rw [ex] at hx
      rw [ey] at hy
      obtain ⟨r, hr⟩ := slEq_sound (P := P) (w := w) (ox := x) (oy := y) hsl hx hy
      exact wp_val (u := .bool r) (by simp only [execOp]; rw [Sem.run_bind, hr]; rfl) (here _ _ (by cases r; exact hf; exact ht) (.plain rfl))
    obtain ⟨h1, h2⟩ := bin_sound (P := P) (w := w) (ox := x) (oy := y) (hev x) (hev y) hv
    exact wp_val (u := v) (by simp only [execOp]; rw [Sem.run_bind, h1]; rfl) (here _ _ h (.plain h2))
  case h_12 op t x =>
    obtain ⟨v, hv, h⟩ := bnd_iff.1 h
    obtain ⟨h1, h2⟩ := un_sound (P := P) (w := w) (hev x) hv
    exact wp_val (u := v) (by simp only [execOp, Sem.run_bind, h1, Result.andThen_ok, Sem.run_pure]) (here _ _ h (.plain h2))
  case h_13 s d x =>
    unfold aConvX at h
    split at h
    · rename_i k1 k2 hs hd
      obtain ⟨v, hv, h⟩ := bnd_iff.1 h
      obtain ⟨h1, h2⟩ := convInt_sound (P := P) (w := w) hs hd (hev x) hv
      exact wp_val (u := v) (by simp only [execOp, Sem.run_bind, h1, Result.andThen_ok, Sem.run_pure]) (here _ _ h (.plain h2))
    · rename_i k1 hs hd
      obtain ⟨v, hv, h⟩ := bnd_iff.1 h
      have hx := hev x
      unfold aRuneStr at hv
      split at hv
      · rename_i k2 n heq
        obtain rfl := Option.some.inj hv
        rw [heq] at hx
        have hu := hx.int
        have h1 : (convert s d (.int k2 n)).run P w = .ok (.string (Utf8.encode n)) w := by simp [convert, run_underlying hs, run_underlying hd, Conv.intToString]
        exact wp_val (u := .string (Utf8.encode n)) (by simp only [execOp, Sem.run_bind, hu, h1, Result.andThen_ok, Sem.run_pure]) (here _ _ h (.plain rfl))
      · cases hv
    · rename_i e hs hd
      split at h
      · rename_i he
        obtain ⟨v, hv, h⟩ := bnd_iff.1 h
        obtain ⟨h1, h2⟩ := bytesStr_sound hr hs hd he (hev x) hv
        exact wp_val (u := v) (by simp only [execOp, Sem.run_bind, h1, Result.andThen_ok, Sem.run_pure]) (here _ _ h (.plain h2))
      · exact h.elim
    · rename_i e hs hd
      split at h
      · rename_i he
        unfold aStrBytes at h
        split at h
        · rename_i b heq
          obtain ⟨hb, h⟩ := h
          have hx := hev x
          rw [heq] at hx
          obtain ⟨u, φ', w', h1, h2, h3⟩ := strBytes_sound hr hs hd he hb
          have hu := hx.string
          exact wp_val (u := u) (w' := w') (by simp only [execOp, Sem.run_bind, hu, h1, Result.andThen_ok, Sem.run_pure]) (hk _ _ _ _ _ h h2 h3)
        · exact h.elim
      · exact h.elim
    · rename_i e' e hs hd
      split at h
      · rename_i hsd he
        obtain rfl := of_decide_eq_true hsd
        unfold aMark at h
        split at h
        · rename_i b o q n c heq
          split at h
          · rename_i cs k t hat
            obtain ⟨⟨hko, hn⟩, h⟩ := h
            have hx := hev x
            rw [heq] at hx
            obtain ⟨w', h1, h2⟩ := mark_sound hr hd he hx hn hko hat
            exact wp_val (u := act.eval x) (w' := w') (by simp only [execOp, Sem.run_bind, h1, Result.andThen_ok, Sem.run_pure]) (hk _ _ _ _ _ h h2 hx)
          · exact h.elim
        · exact h.elim
      · exact h.elim
    · exact h.elim
  case h_14 f first capt =>
    refine wp_val (u := .func (.func f) (first.map act.eval) (capt.map act.eval)) (by simp [execOp, Instr.makeFunc]) (here _ _ h ?_)
    have h1 := evals_rel hr ha first.toList
    have h2 := evals_rel hr ha capt.toList
    refine .func (by simp [opArgs]) (by simp [opArgs]) (fun i u v hu hv => h1.2 i u v (by simpa [opArgs] using hu) (by simpa using hv)) (fun i u v hu hv => h2.2 i u v (by simpa [opArgs] using hu) (by simpa using hv))
  case h_15 t l c =>
    split at h
    · rename_i e m bytes zs hei
      obtain ⟨hu, i, z, hi, hz, hsz, hby, hzc, hzp, hzl, hpos, hts, htz⟩ := elemInfo_inv hei
      unfold aMakeSlice at h
      have hl := hev l
      have hc := hev c
      split at h
      · rename_i kl nl kc nc e1 e2
        rw [e1] at hl
        rw [e2] at hc
        obtain ⟨⟨rfl, h0, hb, h63, hz1⟩, h⟩ := h
        have hl' := hl.int
        have hc' := hc.int
        have hm1 : m = 1 := by omega
        subst hm1
        obtain ⟨z0, rfl⟩ : ∃ z0, zs = [z0] := by
          cases zs with
          | nil => simp at hz1
          | cons z0 r => cases r with
            | nil => exact ⟨z0, rfl⟩
            | cons _ _ => simp at hz1
        have hrun := run_make (P := P) w t e i z hu hi hz kl kc nl nl h0 (Int.le_refl _) (by rw [hby]; omega) h63
        rw [hsz, Nat.mul_one] at hrun
        have hzcells : z.cells = #[z0] := by
          apply Array.ext'
          simpa using hzc
        have hcells : (madeCells z.cells nl.toNat).toList = List.replicate nl.toNat z0 := by
          rw [hzcells]
          apply List.ext_getElem
          · simp [madeCells]
          · intro j h1 h2
            simp [madeCells, Nat.mod_one]
        have hp0 : plainCell z0 = true := by simpa using hzp
        have hst := Step.allocCells hr (List.replicate nl.toNat z0) (madeCells z.cells nl.toNat) e (.row 1) 1 (by rw [hcells]; exact VRels.replicate (.plain hp0) _) (fun v hv => by rw [List.eq_of_mem_replicate hv]; exact okCell_of_plain hp0) (fun s hs => by cases hs; exact ⟨rfl, nl.toNat, by simp⟩)
        refine wp_val (u := .slice (some ⟨w.heap.size, 0, none⟩) nl.toNat nl.toNat) (w' := w.alloc (.cells (madeCells z.cells nl.toNat) e)) (by simp only [execOp, Sem.run_bind, hl', hc', hrun, Result.andThen_ok, Sem.run_pure]) (hk _ _ _ _ _ h hst ?_)
        have := VRel.slice (φ := φ.upd H.next (some (some ⟨w.heap.size, 0, (madeCells z.cells nl.toNat).size, 1⟩))) (b := H.next) (o := 0) (n := nl.toNat) (c := nl.toNat) (p := ⟨w.heap.size, 0, (madeCells z.cells nl.toNat).size, 1⟩) (by simp) (Nat.le_refl _) (by simp only [maxLen]; omega) (.inr (.inr (by simp [size_madeCells])))
        simpa using this
      · exact h.elim
    · exact h.elim
  case h_16 t x lo hi =>
    split at h
    · rename_i e hu
      split at h
      · rename_i k hts
        obtain ⟨v, hv, h⟩ := bnd_iff.1 h
        obtain ⟨A, l, c, heq, hv⟩ := aSliceSl_inv hv
        have hx := hev x
        rw [heq] at hx
        obtain ⟨v', h1, h2⟩ := slice_sound (P := P) (w := w) hu hts hx (opt_rel hr ha lo) (opt_rel hr ha hi) hv
        exact wp_val (by simp only [execOp, Sem.run_bind, Option.map_none, h1, Result.andThen_ok, Sem.run_pure]) (here _ _ h h2)
      · exact h.elim
    · rename_i hu
      obtain ⟨v, hv, h⟩ := bnd_iff.1 h
      obtain ⟨s, heq, hv⟩ := aSliceStr_inv hv
      have hx := hev x
      rw [heq] at hx
      obtain ⟨v', h1, h2⟩ := sliceStr_sound (P := P) (w := w) hu hx (opt_rel hr ha lo) (opt_rel hr ha hi) hv
      exact wp_val (by simp only [execOp, Sem.run_bind, Option.map_none, h1, Result.andThen_ok, Sem.run_pure]) (here _ _ h h2)
    · rename_i len e hu
      split at h
      · rename_i k hts
        obtain ⟨v, hv, h⟩ := bnd_iff.1 h
        obtain ⟨v', h1, h2⟩ := sliceArr_sound (P := P) (w := w) hu hts (hev x) (opt_rel hr ha lo) (opt_rel hr ha hi) hv
        exact wp_val (by simp only [execOp, Sem.run_bind, Option.map_none, h1, Result.andThen_ok, Sem.run_pure]) (here _ _ h h2)
      · exact h.elim
    · exact h.elim
  case h_17 s x f =>
    split at h
    · rename_i off hf
      obtain ⟨v, hv, h⟩ := bnd_iff.1 h
      obtain ⟨v', h1, h2⟩ := fieldAddr_sound (P := P) (w := w) hf (hev x) hv
      exact wp_val (by simp only [execOp, Sem.run_bind, h1, Result.andThen_ok, Sem.run_pure]) (here _ _ h h2)
    · exact h.elim
  case h_18 s x f =>
    split at h
    · rename_i g off k hf
      obtain ⟨v, hv, h⟩ := bnd_iff.1 h
      obtain ⟨v', h1, h2⟩ := field_sound (P := P) (w := w) hf (hev x) hv
      exact wp_val (by simp only [execOp, Sem.run_bind, h1, Result.andThen_ok, Sem.run_pure]) (here _ _ h h2)
    · exact h.elim
  case h_19 t x i =>
    split at h
    · rename_i e hu
      split at h
      · rename_i k hts
        obtain ⟨v, hv, h⟩ := bnd_iff.1 h
        obtain ⟨v', h1, h2⟩ := indexAddr_sound (P := P) (w := w) hu hts (hev x) (hev i) hv
        exact wp_val (by simp only [execOp, Sem.run_bind, h1, Result.andThen_ok, Sem.run_pure]) (here _ _ h h2)
      · exact h.elim
    · rename_i len e hu
      split at h
      · rename_i k hts
        obtain ⟨v, hv, h⟩ := bnd_iff.1 h
        obtain ⟨v', h1, h2⟩ := indexAddrArr_sound (P := P) (w := w) hu hts (hev x) (hev i) hv
        exact wp_val (by simp only [execOp, Sem.run_bind, h1, Result.andThen_ok, Sem.run_pure]) (here _ _ h h2)
      · exact h.elim
    · exact h.elim
  case h_20 t x i =>
    obtain ⟨v, hv, h⟩ := bnd_iff.1 h
    obtain ⟨v', h1, h2⟩ := indexV_sound (P := P) (w := w) (hev x) (hev i) hv
    exact wp_val (by simp only [execOp, Sem.run_bind, h1, Result.andThen_ok, Sem.run_pure]) (here _ _ h h2)
  case h_21 x i =>
    obtain ⟨v, hv, h⟩ := bnd_iff.1 h
    obtain ⟨v', h1, h2⟩ := extract_sound (P := P) (w := w) (hev x) hv
    exact wp_val (by simp only [execOp, Sem.run_bind, h1, Result.andThen_ok, Sem.run_pure]) (here _ _ h h2)
  case h_22 f args ats =>
    unfold aCallF at h
    split at h
    · rename_i hg
      have hc := h B φ w (args.toList.map act.eval) hr (evals_rel hr ha args.toList)
      refine wp_enter (f := f) (args := (args.toList.map act.eval).toArray) ?_ hc fun e w' hR => ?_
      · have h1 := goodCall_run (w := w) hg ((args.map act.eval) ++ #[])
        have h2 : (args.toList.map act.eval).toArray = (args.map act.eval) ++ #[] := by apply Array.ext'; simp
        rw [h2]
        simp only [execOp, Go.resolve, Act.eval, Deferred.ofValue, Sem.run_bind, Sem.run_pure, Result.andThen_ok, invoke]
        have h3 : (#[] : Array Value) ++ args.map act.eval = args.map act.eval := by simp
        first | (rw [h3]; exact h1) | exact h1
      · obtain ⟨v, H', φ', u, rfl, h1, h2, h3⟩ := hR
        exact ⟨u, rfl, hk v H' φ' w' u h1 h2 h3⟩
    · exact h.elim
  case h_23 x args ats hne =>
    unfold aCallV at h
    split at h
    · rename_i f p q heq
      obtain ⟨hg, h⟩ := h
      have hx := hev x
      rw [heq] at hx
      obtain ⟨p', q', hc, hp, hq⟩ := hx.funcInv
      have hc' := h B φ w (p'.toList ++ args.toList.map act.eval ++ q'.toList) hr ((hp.append (evals_rel hr ha args.toList)).append hq)
      refine wp_enter (f := f) (args := (p'.toList ++ args.toList.map act.eval ++ q'.toList).toArray) ?_ hc' fun e w' hR => ?_
      · have h1 := goodCall_run (w := w) hg (p' ++ args.map act.eval ++ q')
        have h2 : (p'.toList ++ args.toList.map act.eval ++ q'.toList).toArray = p' ++ args.map act.eval ++ q' := by
          apply Array.ext'
          simp
        rw [h2]
        simp only [execOp, Go.resolve, hc, Deferred.ofValue, Sem.run_bind, Sem.run_pure, Result.andThen_ok, invoke]
        exact h1
      · obtain ⟨v, H', φ', u, rfl, h1, h2, h3⟩ := hR
        exact ⟨u, rfl, hk v H' φ' w' u h1 h2 h3⟩
    · exact h.elim
  case h_24 args ats =>
    obtain ⟨t, v0, hats, hargs, h0⟩ := args1_inv h
    clear h
    have h := h0
    clear h0
    obtain ⟨x, rfl, rfl⟩ := opArgs_one hargs
    have ha1 : ats = #[t] := by apply Array.ext'; simpa using hats
    subst ha1
    have hx := hev x
    unfold aLenX at h
    split at h
    · rename_i hu
      obtain ⟨v, hv, h⟩ := bnd_iff.1 h
      obtain ⟨s, heq, rfl⟩ := aLenStr_inv hv
      rw [heq] at hx
      have := len_sound (P := P) (w := w) (ty := ty) (d := .string) hu rfl hx (v := .int .i64 s.size) rfl trivial
      exact wp_val (u := .int .i64 s.size) (by simp [execOp, Go.resolve, invoke, builtin, this.1]) (here _ _ h (.plain rfl))
    · rename_i e hu
      obtain ⟨v, hv, h⟩ := bnd_iff.1 h
      obtain ⟨A, k, c, heq, rfl⟩ := aLenSl_inv hv
      rw [heq] at hx
      have := len_sound (P := P) (w := w) (ty := ty) (d := .slice e) hu rfl hx (v := .int .i64 k) rfl trivial
      exact wp_val (u := .int .i64 k) (by simp [execOp, Go.resolve, invoke, builtin, this.1]) (here _ _ h (.plain rfl))
    · exact h.elim
  case h_25 args ats =>
    obtain ⟨t, t', v0, v1, hats, hargs, h0⟩ := args2_inv h
    clear h
    have h := h0
    clear h0
    obtain ⟨x, y, rfl, rfl, rfl⟩ := opArgs_two hargs
    have ha1 : ats = #[t, t'] := by apply Array.ext'; simpa using hats
    subst ha1
    unfold aAppX at h
    split at h
    · rename_i e m bytes zs htt hei
      obtain rfl := of_decide_eq_true htt
      exact append_sound h hei hr ha hk
    · rename_i e m bytes zs htt hei
      split at h
      · rename_i kd hut
        exact zeros_sound h hei hut hr ha hk
      · rename_i hut
        exact appstr_sound h hei hut hr ha hk
      · exact h.elim
    · exact h.elim
  case h_26 args ats =>
    obtain ⟨t, v0, hats, hargs, h0⟩ := args1_inv h
    clear h
    have h := h0
    clear h0
    obtain ⟨x, rfl, rfl⟩ := opArgs_one hargs
    have ha1 : ats = #[t] := by apply Array.ext'; simpa using hats
    subst ha1
    unfold aCapX at h
    split at h
    · rename_i e hu
      obtain ⟨v, hv, h⟩ := bnd_iff.1 h
      have hx := hev x
      unfold aCap at hv
      split at hv
      · rename_i m c heq
        obtain rfl := Option.some.inj hv
        rw [heq] at hx
        have hc := hx.sliceNone.1
        exact wp_val (u := .int .i64 0) (by simp [execOp, Go.resolve, invoke, builtin, Builtin.cap_, hc, run_underlying hu, goInt]) (here _ _ h (.plain rfl))
      · cases hv
    · exact h.elim
  case h_27 t =>
    have hrun : (Instr.makeMap t none).run P w = .ok (.map (some w.heap.size)) (w.alloc (.map #[] 0)) := by simp [Instr.makeMap, Result.andThen]
    have hst := Step.alloc hr (.map []) (.map #[] 0) ⟨w.heap.size, 0, 0, 0⟩ rfl ⟨#[], 0, by rw [heap_alloc, if_pos rfl], hr.base, VRels.nil _, VRels.nil _⟩
    exact wp_val (u := .map (some w.heap.size)) (w' := w.alloc (.map #[] 0)) (by simp [execOp, hrun, Result.andThen]) (hk _ _ _ _ _ h hst (.map (p := ⟨w.heap.size, 0, 0, 0⟩) (Phi.upd_same _ _ _)))
  case h_28 t x i =>
    split at h
    · rename_i z hi
      obtain ⟨v, hv, h⟩ := bnd_iff.1 h
      obtain ⟨v', h1, h2⟩ := lookup_sound hr hi (hev x) (hev i) hv
      exact wp_val (by simp only [execOp, Sem.run_bind, h1, Result.andThen_ok, Sem.run_pure]) (here _ _ h h2)
    · exact h.elim
  case h_29 t m i x =>
    split at h
    · rename_i z hi
      obtain ⟨H', hH', h⟩ := bnd_iff.1 h
      unfold mapInfo at hi
      split at hi
      · rename_i kt et hu
        split at hi
        · rename_i hkt hz
          have hm := hev m
          have hii := hev i
          have hxx := hev x
          unfold aMapUpd at hH'
          split at hH'
          · rename_i b s heq1 heq2
            split at hH'
            · rename_i es hat
              rw [Option.map_eq_some_iff] at hH'
              obtain ⟨es', hput, rfl⟩ := hH'
              rw [heq1] at hm
              rw [heq2] at hii
              obtain ⟨p, hpb, hmu⟩ := hm.mapInv
              have hiu := hii.string
              have hB := hr.blk b p hpb
              rw [hat] at hB
              obtain ⟨ms, clock, hh, _, hks, hvs⟩ := hB
              rcases mapPut_now 0 hks hvs hxx hput with ⟨h3, rfl⟩ | ⟨q, v1, m1, h3, h4, h5, h6, h7, h8⟩
              · have hrun : (Instr.mapUpdate t (.map (some p.blk)) (.string s) (act.eval x)).run P w = .ok () { w with heap := w.heap.setIfInBounds p.blk (.map (ms.push { key := .string s, val := act.eval x, born := clock }) (clock + 1)) } := by
                  simp [Instr.mapUpdate, run_underlying hu, MapKept.run_getObj_map hh, MapKept.run_checkKey hkt (k := .string s) trivial, MapKept.run_findKey hkt h3, MapKept.run_setObj_map _ hh, Result.andThen]
                have hst := Step.setMap hr b p hpb hat hh (ms.push { key := .string s, val := act.eval x, born := clock }) (clock + 1) (es' := es ++ [(.string s, aeval P.globals.size a x)])
                  (by simp only [List.map_append, List.map_cons, List.map_nil, Array.toList_push]; exact hks.append (VRels.one' (.plain rfl)))
                  (by simp only [List.map_append, List.map_cons, List.map_nil, Array.toList_push]; exact hvs.append (VRels.one' hxx))
                exact wp_unit (by simp only [execOp, Sem.run_bind, hmu, hiu, hrun, Result.andThen_ok, Sem.run_pure]) (hk _ _ _ _ _ h hst (VRel.undef _))
              · rw [Nat.zero_add] at h3
                have hj : ms[q]? = some m1 := by simpa using h4
                have hrun : (Instr.mapUpdate t (.map (some p.blk)) (.string s) (act.eval x)).run P w = .ok () { w with heap := w.heap.setIfInBounds p.blk (.map (ms.modify q fun e => { e with key := .string s, val := act.eval x }) clock) } := by
                  simp [Instr.mapUpdate, run_underlying hu, MapKept.run_getObj_map hh, MapKept.run_checkKey hkt (k := .string s) trivial, MapKept.run_findKey hkt h3, hj, h5, MapKept.run_keyThatStays (d := .string) (k := .string s) trivial, MapKept.run_setObj_map _ hh, Result.andThen]
                have e1 : (ms.modify q fun e => { e with key := .string s, val := act.eval x }).toList.map (·.key) = ms.toList.map (·.key) := by
                  apply List.ext_getElem?
                  intro i
                  simp only [List.getElem?_map, Array.getElem?_toList, Array.getElem?_modify]
                  by_cases e : q = i
                  · subst e; rw [if_pos rfl, hj]; simp [h5]
                  · rw [if_neg e]
                have e2 : (ms.modify q fun e => { e with key := .string s, val := act.eval x }).toList.map (·.val) = (ms.toList.map (·.val)).set q (act.eval x) := by
                  apply List.ext_getElem?
                  intro i
                  simp only [List.getElem?_map, Array.getElem?_toList, Array.getElem?_modify, List.getElem?_set]
                  by_cases e : q = i
                  · subst e
                    have hlt : q < ms.size := (Array.getElem?_eq_some_iff.1 hj).1
                    rw [if_pos rfl, hj]; simp [hlt]
                  · rw [if_neg e, if_neg e]
                have hst := Step.setMap hr b p hpb hat hh (ms.modify q fun e => { e with key := .string s, val := act.eval x }) clock (es' := es') (by rw [e1]; exact h7) (by rw [e2]; exact h8)
                exact wp_unit (by simp only [execOp, Sem.run_bind, hmu, hiu, hrun, Result.andThen_ok, Sem.run_pure]) (hk _ _ _ _ _ h hst (VRel.undef _))
            · cases hH'
          · cases hH'
        · cases hi
      · cases hi
    · exact h.elim
  case h_30 args ats =>
    obtain ⟨t, t', v0, v1, hats, hargs, h0⟩ := args2_inv h
    clear h
    obtain ⟨v, hv, h⟩ := bnd_iff.1 h0
    obtain ⟨x, y, rfl, rfl, rfl⟩ := opArgs_two hargs
    have hx := hev x
    have hy := hev y
    unfold aMax at hv
    split at hv
    · rename_i k q1 k' q2 heq1 heq2
      split at hv
      · rename_i hkk
        subst hkk
        obtain rfl := Option.some.inj hv
        rw [heq1] at hx
        rw [heq2] at hy
        have ex := hx.int
        have ey := hy.int
        exact wp_val (u := .int k (if q2 > q1 then q2 else q1)) (by simp [execOp, Go.resolve, invoke, builtin, Builtin.max_, Builtin.max2, ex, ey]) (here _ _ h (.plain rfl))
      · cases hv
    · cases hv
  case h_31 args ats =>
    obtain ⟨t, v0, hats, hargs, h0⟩ := args1_inv h
    clear h
    obtain ⟨v, hv, h⟩ := bnd_iff.1 h0
    obtain ⟨x, rfl, rfl⟩ := opArgs_one hargs
    have hx := hev x
    unfold aSliceData at hv
    split at hv
    · rename_i b o n c heq
      split at hv
      · rename_i hn
        obtain rfl := Option.some.inj hv
        rw [heq] at hx
        obtain ⟨_, _, h1⟩ := hx.sliceInv
        rcases h1 with ⟨p, cap, hp, hnc, hm, hl, hxe⟩ | ⟨rfl, _⟩
        · have hrun := Lib.run_unsafeSliceData_row (P := P) w ats ty ⟨p.blk, p.off + o, none⟩ n cap (by omega)
          exact wp_val (u := .pointer (some ⟨p.blk, p.off + o, none⟩)) (by simp [execOp, Go.resolve, invoke, builtin, hxe, hrun]) (here _ _ h (.ptr hp))
        · omega
      · cases hv
    · cases hv
  case h_32 args ats =>
    obtain ⟨t, t', v0, v1, hats, hargs, h0⟩ := args2_inv h
    clear h
    have h := h0
    clear h0
    obtain ⟨x, y, rfl, rfl, rfl⟩ := opArgs_two hargs
    have ha1 : ats = #[t, t'] := by apply Array.ext'; simpa using hats
    subst ha1
    unfold aUStr at h
    split at h
    · rename_i e hu
      split at h
      · rename_i hts
        obtain ⟨s, H', w', h1, h2, h3⟩ := uString_sound (ty := ty) (it := t') hr hu hts (hev x) (hev y) h
        exact wp_val (u := .string s) (w' := w') (by simp [execOp, Go.resolve, invoke, builtin, h1]) (hk _ _ _ _ _ h3 h2 (.plain rfl))
      · exact h.elim
    · exact h.elim
  case h_33 => exact h.elim
end
end Go.Abs
