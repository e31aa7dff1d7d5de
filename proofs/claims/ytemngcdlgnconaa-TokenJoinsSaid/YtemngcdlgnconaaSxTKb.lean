/- Token: what is deferred, and what it does, by hand. -/
import Derived.Test.YtemngcdlgnconaaSxTKa
import Derived.Recover
set_option linter.unusedVariables false
set_option linter.unusedSimpArgs false
namespace Go.Sx
open Go.Proofs
set_option maxRecDepth 100000
set_option maxHeartbeats 0
abbrev Z.tT : Ty := .st (.pair (.int .i64) (.pair (.int .i64) (.pair (.int .i64) (.pair (.int .i64) (.int .i64)))))
abbrev Z.wT : Ty := .st (.pair (.int .i64) (.int .i64))
noncomputable def Z.tokOfF : List Int → Option (List (Int × Int × Int × Int × Int) × Int × Int) :=
  fun (l : List Int) => if (l.length : Int) > 200 then some ([], 0, 10)
  else (Z.f44F (l, 0, [])).bind (Sum.elim (fun y => some (y.2.2, 0, 0)) (fun d => some ([], d.1, d.2)))
noncomputable def Z.tokOf : Con := ⟨16, ⟨⟨[.hole (.sl (.int .i64))], []⟩, ⟨[.hole (.sl Z.tT), .hole (.int .i64), .hole (.int .i64)], []⟩⟩, Z.tokOfF⟩
section ofs
open Go.RowKit
theorem Z.res_fin {B : Base} {E : Env} {fr : List SV} {hp : List HO} {a : Act} {w : World} {y : List (Int × Int × Int × Int × Int) × Int × Int} (hh : Hp B E hp w) (hf : SV.satL E fr a.tmps.toList)
    (h : (resTmps Z.C hp fr Go.Proofs.Try.f16.results.toList fun rs => pack 0 ⟨[.hole (.sl Z.tT), .hole (.int .i64), .hole (.int .i64)], []⟩ rs hp fun ds _ _ => toTup [.sl Z.tT, .int .i64, .int .i64] ds some) = some y) :
    ∃ v, (results Go.Proofs.Try.f16 a.tmps).run Go.Proofs.Try.prog w = .ok v w ∧ ∃ (E' : Env) (vs : List Value), v = retVal vs ∧ SV.satL E' (Z.tokOf.outL y).1 vs ∧ Hp B E' [] w := by
  obtain ⟨ss, vs, q1, h, q2⟩ := resTmps_some (P := Go.Proofs.Try.prog) (w := w) (fn := Go.Proofs.Try.f16) Z.Cok hh hf h
  replace h := pack_some hh q1 (Nat.zero_le _) h; obtain ⟨E1, hp2, ds, mp, hpk, h⟩ := h
  replace h := toTup_some h; obtain ⟨y', hy, h⟩ := h
  have := Option.some.inj h
  subst this
  subst hy
  obtain ⟨hH, hS⟩ := hpk.heap
  exact ⟨retVal vs, run_results q2, _, vs, rfl, hS, hH⟩
def Z.kN : Ks (Bool × List SV × List HO) := { n := fun fr hp => some (false, fr, hp), e := fun _ _ _ => none, r := fun fr hp => some (true, fr, hp) }
theorem Z.kN_at {lv : Lv} {fr fr' : List SV} {hp hp' : List HO} {b : Bool} (h : Z.kN.at lv fr hp = some (b, fr', hp')) : fr = fr' ∧ hp = hp' ∧ ((b = false ∧ lv = .normal) ∨ (b = true ∧ lv = .ret)) := by
  cases lv <;> simp [Z.kN, Ks.at] at h <;> obtain ⟨h1, h2, h3⟩ := h <;> simp [h1.symm, h2, h3]
theorem Z.ti59 : ∃ i, (59, i) ∈ Z.C.TT ∧ i.kind.isAgg = true ∧ i.size = 2 ∧ i.zero = [.val (.int .i64) (0 : Int), .val (.int .i64) (0 : Int)] := by
  have h : tinfo Z.C.TT 59 (fun i => some (i.kind.isAgg, i.size, i.zero)) = some (true, 2, [.val (.int .i64) (0 : Int), .val (.int .i64) (0 : Int)]) := by kernel_rfl
  obtain ⟨i, h1, h2⟩ := tinfo_some h
  simp only [Option.some.injEq, Prod.mk.injEq] at h2
  exact ⟨i, h1, h2.1, h2.2.1, h2.2.2⟩
theorem Z.und59 : ∃ d, Go.Proofs.Try.prog.underlying 59 = some d ∧ ∀ ms, d ≠ .interface ms := by
  obtain ⟨i, h1, h2, _⟩ := Z.ti59
  obtain ⟨d, h3, h4⟩ := (Z.Cok.types _ _ h1).under
  exact ⟨d, h3, fun ms e => by subst e; rw [h2] at h4; cases h4⟩
theorem Z.assert_yes {a : Act} {o : Oper} {w : World} {v : Value} (ho : o.op = .typeAssert (.tmp 8) 20 59 true) (hv : a.eval (.tmp 8) = .iface 59 v) : (execOp a.eval o).run Go.Proofs.Try.prog w = .ok (.value (.tuple #[v, .bool true])) w := by
  obtain ⟨d, h1, h2⟩ := Z.und59
  cases d <;> first | exact absurd rfl (h2 _) | simp [execOp, ho, hv, Instr.typeAssert, run_underlying h1]
theorem Z.assert_no {a : Act} {o : Oper} {w : World} (ho : o.op = .typeAssert (.tmp 8) 20 59 true) (hv : a.eval (.tmp 8) = .nilIface) :
    ∃ cs : List Value, (∀ E, SV.satL E [.val (.int .i64) (0 : Int), .val (.int .i64) (0 : Int)] cs) ∧ (execOp a.eval o).run Go.Proofs.Try.prog w = .ok (.value (.tuple #[.agg cs.toArray, .bool false])) w := by
  obtain ⟨d, h1, h2⟩ := Z.und59
  obtain ⟨i, g1, g2, g3, g4⟩ := Z.ti59
  obtain ⟨f, z, k1, k2, k3, k4, k5, k6, _⟩ := (Z.Cok.types _ _ g1).info
  rw [g4] at k5
  have hz : z = .agg z.cells := by
    rw [g3] at k6
    cases z <;> first | rfl | (simp [Value.cells] at k6)
  refine ⟨z.cells.toList, k5, ?_⟩
  have hzv : ∀ w', (zeroValue 59).run Go.Proofs.Try.prog w' = .ok z w' := fun w' => by simp [zeroValue, run_typeInfo k1, k4]
  rw [Array.toArray_toList, ← hz]
  cases d <;> first | exact absurd rfl (h2 _) | simp [execOp, ho, hv, Instr.typeAssert, run_underlying h1, hzv]
section
variable {P : Program} {ops : Array Oper} {Q : Exit → Act → List Frame → World → Prop} {a : Act} {w : World} {cs cs' : List Frame} {rest : List Nat} {i : Nat} {o : Oper} {v : Value}
theorem Z.opS_rec (ho : ops[i]? = some o) (hg : o.guard = none) (he : (execOp a.eval o).run P w = .ok .recover w) (hr : recoverD cs = some (v, cs')) (h : wpOpsS P ops Q rest (a.put o.dst v) cs' w) : wpOpsS P ops Q (i :: rest) a cs w := by
  unfold wpOpsS
  rw [ho]
  simp only
  rw [if_pos (by simp [Region.wanted, hg]), he]
  simp only
  rw [hr]
  exact h
theorem Z.opS_none (ho : ops[i]? = some o) (hg : o.guard = none) (he : (execOp a.eval o).run P w = .ok .recover w) (hr : recoverD cs = none) (h : wpOpsS P ops Q rest (a.put o.dst .nilIface) cs w) : wpOpsS P ops Q (i :: rest) a cs w := by
  unfold wpOpsS
  rw [ho]
  simp only
  rw [if_pos (by simp [Region.wanted, hg]), he]
  simp only
  rw [hr]
  exact h
theorem Z.opS_val (ho : ops[i]? = some o) (hg : o.guard = none) (he : (execOp a.eval o).run P w = .ok (.value v) w) (h : wpOpsS P ops Q rest (a.put o.dst v) cs w) : wpOpsS P ops Q (i :: rest) a cs w := by
  unfold wpOpsS
  rw [ho]
  simp only
  rw [if_pos (by simp [Region.wanted, hg]), he]
  exact h
end
theorem Z.skips {E : Env} : ∀ n, SV.satL E (List.replicate n SV.skip) (List.replicate n undef)
  | 0 => by simp [SV.satL]
  | n + 1 => by rw [List.replicate_succ, List.replicate_succ]; simp only [SV.satL]; exact ⟨_, _, rfl, by simp [SV.sat], Z.skips n⟩
theorem Z.closP {B : Base} {E : Env} {w : World} {p q s : Value} {d : Int × Int} {cs : List Value} (hg : Z.C.globsOk E.M) (hh : Hp B E [.cells [.nils], .cells [.val (.int .i64) (0 : Int)], .cells [.val (.int .i64) (0 : Int)], .gone] w)
    (hf : SV.satL E [.ptr 0 0, .ptr 1 0, .ptr 2 0] [p, q, s]) (hr : Rep E.M Z.wT d cs) :
    CallsD Go.Proofs.Try.prog 43 #[p, q, s] (.panicking [{ v := .iface 59 (valOf Z.wT cs), recovered := false }]) w fun e u' w' => (∃ v, e = .returned v) ∧ settle u' = .returning ∧
      ∃ (E' : Env) (rest : List HO), E.le E' ∧ Hp B E' ([.cells [.nils], .cells [.val (.int .i64) d.1], .cells [.val (.int .i64) d.2], .gone] ++ rest) w' := by
  refine callsD_of_wpS Go.Proofs.Try.func43 (c := _) rfl ?_
  intro c₀ cs0 hm
  have hvs : (SV.val Z.wT d).sat E (valOf Z.wT cs) := by simp only [SV.sat]; exact ⟨cs, hr, rfl⟩
  generalize valOf Z.wT cs = v at hm hvs
  have hsz : (#[p, q, s] ++ Array.replicate (Go.Proofs.Try.f43.ntmps - #[p, q, s].size) undef) = #[p, q, s, undef, undef, undef, undef, undef, undef, undef, undef, undef, undef, undef, undef, undef, undef, undef, undef, undef] := by
    rw [show Go.Proofs.Try.f43.ntmps - #[p, q, s].size = 17 by kernel_rfl]
    rfl
  rw [hsz]
  refine wpS_seq ?_
  refine wpS_region ?_
  rw [show List.range (Array.size _) = [0, 1] from rfl]
  refine Z.opS_rec (v := .iface 59 v) (cs' := { c₀ with mode := .panicking [{ v := .iface 59 v, recovered := true }] } :: cs0) rfl rfl (by simp [execOp, resolve, invoke, builtin]) (by simp [recoverD, hm]) ?_
  refine Z.opS_val (v := .iface 59 v) rfl rfl (by simp [execOp, Act.eval, Act.put]) ?_
  show Code.wpS _ _ _ _ _ _
  refine wpS_of_wp ?_
  refine wp_seq ?_
  refine wp_region_list ?_
  refine Z.op1 (v := .iface 59 v) rfl (by simp [execOp, Act.eval, Act.put]) ?_
  refine Z.op1 (v := .tuple #[v, .bool true]) rfl (Z.assert_yes rfl (by simp [Act.eval, Act.put])) ?_
  refine Z.op1 (v := .tuple #[v, .bool true]) rfl (by simp [execOp, Act.eval, Act.put]) ?_
  refine Z.op1 (v := v) rfl (by simp [execOp, Act.eval, Act.put, Instr.extract]) ?_
  refine Z.op1 (v := .bool true) rfl (by simp [execOp, Act.eval, Act.put, Instr.extract]) ?_
  have hG : Given Go.Proofs.Try.prog Z.C [] := ⟨Z.Cok, (fun _ h => nomatch h), Z.mixed⟩
  refine evOps_wp (l := [4, 5]) (E := E) (fr := [.ptr 0 0, .ptr 1 0, .ptr 2 0, .und, .skip, .skip, .und, .und, .und, .und, .val Z.wT d, .bit true, .skip, .skip, .skip, .skip, .skip, .skip, .skip, .skip]) (k := fun fr hp => some (fr, hp))
    (r := ([.ptr 0 0, .ptr 1 0, .ptr 2 0, .und, .ptr 4 0, .bit true, .und, .und, .und, .und, .val Z.wT d, .bit true, .skip, .skip, .skip, .skip, .skip, .skip, .skip, .skip],
      [.cells [.nils], .cells [.val (.int .i64) (0 : Int)], .cells [.val (.int .i64) (0 : Int)], .gone, .cells [.val (.int .i64) d.1, .val (.int .i64) d.2]])) hG hh ?_ hg ?_ ?_ (by kernel_rfl)
  · show SV.satL E ([.ptr 0 0, .ptr 1 0, .ptr 2 0] ++ ([.und, .skip, .skip, .und, .und, .und, .und, .val Z.wT d, .bit true] ++ List.replicate 8 .skip)) ([p, q, s] ++ ([_, undef, undef, _, _, _, _, v, .bool true] ++ List.replicate 8 undef))
    refine SV.satL_append hf (SV.satL_append ?_ (Z.skips 8))
    simp only [SV.satL]
    refine ⟨_, _, rfl, by simp [SV.sat], _, _, rfl, by simp [SV.sat], _, _, rfl, by simp [SV.sat], _, _, rfl, by simp [SV.sat], _, _, rfl, by simp [SV.sat], _, _, rfl, by simp [SV.sat], _, _, rfl, by simp [SV.sat], _, _, rfl, hvs, _, _, rfl, sat_bit true, rfl⟩
  · intro o ho t ht
    simp only [List.mem_cons, List.not_mem_nil, or_false] at ho
    rcases ho with rfl | rfl | rfl <;> simp at ht <;> simp [← ht]
  intro E1 fr1 hp1 a1 w1 h1 h2 h3 h4 h5
  simp only [Option.some.injEq, Prod.mk.injEq] at h5
  obtain ⟨rfl, rfl⟩ := h5
  show Code.wp _ _ _ _ _
  refine run_sound (an := .seq .leaf (.cond (.eff 64 [] [0, 1, 0, 4, 0, 19, 63]) .leaf)) (K := { n := fun _ hp => some hp, e := fun _ _ _ => none, r := fun _ _ => none })
    (r := [.cells [.nils], .cells [.val (.int .i64) d.1], .cells [.val (.int .i64) d.2], .gone, .cells [.val (.int .i64) d.1, .val (.int .i64) d.2]]) hG h2 h3 (Z.C.globsOk_mono h1.1 hg) (by kernel_rfl) ?_
  intro lv E2 fr2 hp2 a2 w2 k1 k2 k3 k4 k5
  cases lv <;> simp [Ks.at] at k5
  subst k5
  refine ⟨by rw [k4.defers, h4.defers]; rfl, _, rfl, .tuple #[], results_none rfl _ _ _, ⟨_, rfl⟩, rfl, E2, [.cells [.val (.int .i64) d.1, .val (.int .i64) d.2]], Env.le_trans h1 k1, k2⟩
theorem Z.und20 : ∃ ms, Go.Proofs.Try.prog.underlying 20 = some (.interface ms) := by
  have h : (match Go.Proofs.Try.prog.underlying 20 with
    | some (.interface _) => true
    | _ => false) = true := by kernel_rfl
  split at h
  · exact ⟨_, by assumption⟩
  · cases h
theorem Z.run_nil_eq (d : Nat) (w : World) : (Op.equalIn (d + 1) 20 .nilIface .nilIface).run Go.Proofs.Try.prog w = .ok true w := by
  obtain ⟨ms, h⟩ := Z.und20
  simp [Op.equalIn, run_underlying h]
theorem Z.run_nil_eq' (w : World) : (Op.equal 20 .nilIface .nilIface).run Go.Proofs.Try.prog w = .ok true w := Z.run_nil_eq 9999 w
def Z.hpN (l : List Int) (i : Int) (t : List (Int × Int × Int × Int × Int)) : List HO :=
  [.cells [.own 5 none], .cells [.val (.int .i64) (0 : Int)], .cells [.val (.int .i64) (0 : Int)], .cells [.val (.sl (.int .i64)) l, .val (.int .i64) i, .own 5 none], .gone, .arr 30 Z.tT t]
theorem Z.closN {B : Base} {E : Env} {w : World} {p q s : Value} {l : List Int} {i : Int} {t : List (Int × Int × Int × Int × Int)} (hg : Z.C.globsOk E.M) (hh : Hp B E (Z.hpN l i t) w)
    (hf : SV.satL E [.ptr 0 0, .ptr 1 0, .ptr 2 0] [p, q, s]) :
    CallsD Go.Proofs.Try.prog 43 #[p, q, s] .returning w fun e u' w' => (∃ v, e = .returned v) ∧ settle u' = .returning ∧
      ∃ (E' : Env) (rest : List HO), E.le E' ∧ Hp B E' (Z.hpN l i t ++ rest) w' := by
  refine callsD_of_wpS Go.Proofs.Try.func43 (c := _) rfl ?_
  intro c₀ cs0 hm
  have hsz : (#[p, q, s] ++ Array.replicate (Go.Proofs.Try.f43.ntmps - #[p, q, s].size) undef) = #[p, q, s, undef, undef, undef, undef, undef, undef, undef, undef, undef, undef, undef, undef, undef, undef, undef, undef, undef] := by
    rw [show Go.Proofs.Try.f43.ntmps - #[p, q, s].size = 17 by kernel_rfl]
    rfl
  rw [hsz]
  refine wpS_seq ?_
  refine wpS_region ?_
  rw [show List.range (Array.size _) = [0, 1] from rfl]
  refine Z.opS_none rfl rfl (by simp [execOp, resolve, invoke, builtin]) (by simp [recoverD, hm]) ?_
  refine Z.opS_val (v := .nilIface) rfl rfl (by simp [execOp, Act.eval, Act.put]) ?_
  show Code.wpS _ _ _ _ _ _
  refine wpS_of_wp ?_
  refine wp_seq ?_
  refine wp_region_list ?_
  refine Z.op1 (v := .nilIface) rfl (by simp [execOp, Act.eval, Act.put]) ?_
  obtain ⟨cs, hcs, hrun⟩ := Z.assert_no (a := (((({ tmps := #[p, q, s, undef, undef, undef, undef, undef, undef, undef, undef, undef, undef, undef, undef, undef, undef, undef, undef, undef], defers := [] } : Act).put (some 6) .nilIface).put (some 3) .nilIface).put (some 8) .nilIface))
    (o := { dst := some 9, op := Op.typeAssert (Operand.tmp 8) 20 59 true, type := 60, pos := "token.go:230", after := #[{ on := 0, ground := Ground.data }], guard := none }) (w := w) rfl (by simp [Act.eval, Act.put])
  generalize hv : Value.agg cs.toArray = v at hrun
  refine Z.op1 (v := .tuple #[v, .bool false]) rfl hrun ?_
  refine Z.op1 (v := .tuple #[v, .bool false]) rfl (by simp [execOp, Act.eval, Act.put]) ?_
  refine Z.op1 (v := v) rfl (by simp [execOp, Act.eval, Act.put, Instr.extract]) ?_
  refine Z.op1 (v := .bool false) rfl (by simp [execOp, Act.eval, Act.put, Instr.extract]) ?_
  have hG : Given Go.Proofs.Try.prog Z.C [] := ⟨Z.Cok, (fun _ h => nomatch h), Z.mixed⟩
  refine evOps_wp (l := [4, 5]) (E := E) (fr := [.ptr 0 0, .ptr 1 0, .ptr 2 0, .und, .skip, .skip, .und, .und, .und, .und, .agg [.val (.int .i64) (0 : Int), .val (.int .i64) (0 : Int)], .bit false, .skip, .skip, .skip, .skip, .skip, .skip, .skip, .skip]) (k := fun fr hp => some (fr, hp))
    (r := ([.ptr 0 0, .ptr 1 0, .ptr 2 0, .und, .ptr 6 0, .bit false, .und, .und, .und, .und, .agg [.val (.int .i64) (0 : Int), .val (.int .i64) (0 : Int)], .bit false, .skip, .skip, .skip, .skip, .skip, .skip, .skip, .skip],
      Z.hpN l i t ++ [.cells [.val (.int .i64) (0 : Int), .val (.int .i64) (0 : Int)]])) hG hh ?_ hg ?_ ?_ (by kernel_rfl)
  · show SV.satL E ([.ptr 0 0, .ptr 1 0, .ptr 2 0] ++ ([.und, .skip, .skip, .und, .und, .und, .und, .agg [.val (.int .i64) (0 : Int), .val (.int .i64) (0 : Int)], .bit false] ++ List.replicate 8 .skip)) ([p, q, s] ++ ([_, undef, undef, _, _, _, _, v, .bool false] ++ List.replicate 8 undef))
    refine SV.satL_append hf (SV.satL_append ?_ (Z.skips 8))
    have hvs : (SV.agg [.val (.int .i64) (0 : Int), .val (.int .i64) (0 : Int)]).sat E v := by
      rw [← hv]
      exact ⟨cs, rfl, hcs E⟩
    simp only [SV.satL]
    refine ⟨_, _, rfl, by simp [SV.sat], _, _, rfl, by simp [SV.sat], _, _, rfl, by simp [SV.sat], _, _, rfl, by simp [SV.sat], _, _, rfl, by simp [SV.sat], _, _, rfl, by simp [SV.sat], _, _, rfl, by simp [SV.sat], _, _, rfl, hvs, _, _, rfl, sat_bit false, rfl⟩
  · intro o ho t ht
    simp only [List.mem_cons, List.not_mem_nil, or_false] at ho
    rcases ho with rfl | rfl | rfl <;> simp at ht <;> simp [← ht]
  intro E1 fr1 hp1 a1 w1 h1 h2 h3 h4 h5
  simp only [Option.some.injEq, Prod.mk.injEq] at h5
  obtain ⟨rfl, rfl⟩ := h5
  have hs1 : a1.tmps.size = 20 := by rw [h4.size]; rfl
  have e5 : a1.eval (.tmp 5) = .bool false := by
    obtain ⟨v5, g1, g2⟩ := tmp_get h3 (t := 5) rfl
    have : v5 = .bool false := by simpa [SV.sat] using g2
    simp [Act.eval, Array.getD_eq_getD_getElem?, g1, this]
  have e3 : a1.eval (.tmp 3) = .nilIface := by
    have := h4.tmps 3 (by decide)
    simp only [Act.eval, Array.getD_eq_getD_getElem?]
    rw [this]
    rfl
  show Code.wp _ _ _ _ _
  refine wp_seq ?_
  refine wp_region_list ?_
  refine Z.op1 (v := .bool false) rfl (by simp [execOp, e5]) ?_
  show Code.wp _ _ _ _ _
  refine wp_cond (t := false) (by simp [Act.eval, Act.put, Array.getD, hs1]) ?_
  rw [if_neg (by decide)]
  have e3' : (a1.put (some 12) (.bool false)).eval (.tmp 3) = .nilIface := by
    simp only [Act.eval, Act.put, Array.getD_eq_getD_getElem?] at e3 ⊢
    rw [Array.getElem?_setIfInBounds_ne (by decide)]
    exact e3
  refine wp_seq ?_
  refine wp_region_list ?_
  refine Z.op1 (v := .nilIface) rfl (by simp [execOp, e3']) ?_
  have e17 : ((a1.put (some 12) (.bool false)).put (some 17) .nilIface).eval (.tmp 17) = .nilIface := by simp [Act.eval, Act.put, Array.getD, hs1]
  have ec : ∀ a : Act, a.eval (.const .nilIface) = .nilIface := fun _ => rfl
  refine Z.op1 (v := .bool false) rfl (by simp [execOp, e17, ec, eqGuard, binOp, Z.run_nil_eq']) ?_
  show Code.wp _ _ _ _ _
  refine wp_cond (t := false) (by simp [Act.eval, Act.put, Array.getD, hs1]) ?_
  rw [if_neg (by decide)]
  refine wp_skip ?_
  have hc : c₀ :: cs0 = { c₀ with mode := .returning } :: cs0 := by
    have : c₀ = { c₀ with mode := .returning } := by rw [← hm]
    rw [← this]
  have hd : a1.defers = [] := by rw [h4.defers]; rfl
  exact ⟨hd, .returning, hc, .tuple #[], results_none rfl _ _ _, ⟨_, rfl⟩, rfl, E1, [.cells [.val (.int .i64) (0 : Int), .val (.int .i64) (0 : Int)]], h1, h2⟩
end ofs
end Go.Sx
