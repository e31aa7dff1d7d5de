/- Token: token.Of's contract, by hand. -/
import Derived.Test.YtemngcdlgnconaaSxTKb
set_option linter.unusedVariables false
set_option linter.unusedSimpArgs false
namespace Go.Sx
open Go.Proofs
set_option maxRecDepth 100000
set_option maxHeartbeats 0
open Go.RowKit
theorem Z.op_defer {P : Program} {ops : Array Oper} {Q : Exit → Act → World → Prop} {a : Act} {w : World} {rest : List Oper} {o : Oper} {d : Deferred} (hg : o.guard = none)
    (he : (execOp a.eval o).run P w = .ok (.defer d) w) (h : wpList P ops Q rest (({ a with defers := d :: a.defers } : Act).put o.dst undef) w) : wpList P ops Q (o :: rest) a w := by
  unfold wpList
  rw [if_pos (by simp [Region.wanted, hg])]
  left
  unfold Oper.wp
  rw [he]
  exact h
def Z.frA (l : List Int) : List SV := [.val (.sl (.int .i64)) l, .skip, .ptr 0 0, .ptr 1 0, .ptr 2 0] ++ List.replicate 14 .skip
def Z.hpA : List HO := [.cells [.nils], .cells [.val (.int .i64) (0 : Int)], .cells [.val (.int .i64) (0 : Int)]]
def Z.frB (l : List Int) (b : Bool) : List SV := [.val (.sl (.int .i64)) l, .skip, .ptr 0 0, .ptr 1 0, .ptr 2 0, .skip, .val (.sl (.int .i64)) l, .val (.int .i64) (l.length : Int), .bit b] ++ List.replicate 10 .skip
def Z.frD (l : List Int) : List SV := [.val (.sl (.int .i64)) l, .skip, .ptr 0 0, .ptr 1 0, .ptr 2 0, .ptr 3 0, .val (.sl (.int .i64)) l, .val (.int .i64) (l.length : Int), .bit false, .und, .val (.sl (.int .i64)) l, .agg [.val (.sl (.int .i64)) l, .val (.int .i64) (0 : Int), .nils], .ptr 3 0] ++ List.replicate 6 .skip
def Z.hpD (l : List Int) : List HO := [.cells [.nils], .cells [.val (.int .i64) (0 : Int)], .cells [.val (.int .i64) (0 : Int)], .cells [.val (.sl (.int .i64)) l, .val (.int .i64) (0 : Int), .nils]]
def Z.hpE (z : List Int × Int × List (Int × Int × Int × Int × Int)) : List HO :=
  [.cells [.nils], .cells [.val (.int .i64) (0 : Int)], .cells [.val (.int .i64) (0 : Int)], .cells [.val (.sl (.int .i64)) z.1, .val (.int .i64) z.2.1, .own 5 none], .gone, .arr 30 Z.tT z.2.2]
def Z.hpP : List HO := [.cells [.nils], .cells [.val (.int .i64) (0 : Int)], .cells [.val (.int .i64) (0 : Int)], .gone]
theorem Z.evRead (l : List Int) : evPCon (R := List HO ⊕ (DV × List HO)) Z.f44p [.ptr 3 0] (Z.hpD l) (fun _ hp => some (.inl hp)) (fun t d hp => some (.inr (⟨t, d⟩, hp))) =
    (Z.f44F (l, 0, [])).bind (Sum.elim (fun z => some (.inl (Z.hpE z))) (fun d => some (.inr (⟨Z.wT, d⟩, Z.hpP)))) := by kernel_rfl
theorem Z.ptrs {E : Env} {a : Act} {fr : List SV} (hf : SV.satL E fr a.tmps.toList) (h2 : fr[2]? = some (.ptr 0 0)) (h3 : fr[3]? = some (.ptr 1 0)) (h4 : fr[4]? = some (.ptr 2 0)) :
    SV.satL E [.ptr 0 0, .ptr 1 0, .ptr 2 0] [a.eval (.tmp 2), a.eval (.tmp 3), a.eval (.tmp 4)] := by
  have key : ∀ {t : Nat} {s : SV}, fr[t]? = some s → s.sat E (a.eval (.tmp t)) := by
    intro t s h
    obtain ⟨v, g1, g2⟩ := tmp_get hf h
    simpa [Act.eval, Array.getD_eq_getD_getElem?, g1] using g2
  simp only [SV.satL]
  exact ⟨_, _, rfl, key h2, _, _, rfl, key h3, _, _, rfl, key h4, rfl⟩
theorem Z.tokOfok : Z.tokOf.Ok Go.Proofs.Try.prog Z.C where
  there := ⟨_, Go.Proofs.Try.func16, rfl, rfl⟩
  calls := by
    intro E w args (l : List Int) (y : List (Int × Int × Int × Int × Int) × Int × Int) W hg hs hh hxy
    have hargs : ∃ v, args = [v] ∧ (SV.val (.sl (.int .i64)) l).sat E v := by
      obtain ⟨v, ws, e, h1, h2⟩ := (show SV.satL E [.val (.sl (.int .i64)) l] args from hs)
      simp only [SV.satL] at h2
      subst h2
      exact ⟨v, e, h1⟩
    obtain ⟨v0, rfl, hv0⟩ := hargs
    have hG : Given Go.Proofs.Try.prog Z.C [] := ⟨Z.Cok, (fun _ h => nomatch h), Z.mixed⟩
    have hh0 : Hp ⟨w, W, E.M⟩ E [] w := hh
    refine calls_of_wp_defers Go.Proofs.Try.func16 (c := _) rfl ?_
    have hfr : SV.satL E (.val (.sl (.int .i64)) l :: List.replicate 18 .skip) (#[v0] ++ Array.replicate (Go.Proofs.Try.f16.ntmps - #[v0].size) undef).toList := by
      rw [show Go.Proofs.Try.f16.ntmps - #[v0].size = 18 by kernel_rfl, Array.toList_append, Array.toList_replicate]
      show SV.satL E _ (v0 :: List.replicate 18 undef)
      simp only [SV.satL]
      exact ⟨_, _, rfl, hv0, Z.skips 18⟩
    generalize hQ : bodyPostD Go.Proofs.Try.prog Go.Proofs.Try.f16 _ = Q
    -- what is handed back, behind all
    have fin : ∀ {E' : Env} {fr : List SV} {hp : List HO} {a : Act} {w' : World}, Hp ⟨w, W, E.M⟩ E' hp w' → SV.satL E' fr a.tmps.toList →
        (resTmps Z.C hp fr Go.Proofs.Try.f16.results.toList fun rs => pack 0 ⟨[.hole (.sl Z.tT), .hole (.int .i64), .hole (.int .i64)], []⟩ rs hp fun ds _ _ => toTup [.sl Z.tT, .int .i64, .int .i64] ds some) = some y →
        Leaves Go.Proofs.Try.prog Go.Proofs.Try.f16 a.tmps (fun e w' => ∃ (E' : Env) (vs : List Value), e = .returned (retVal vs) ∧ SV.satL E' (Z.tokOf.outL y).1 vs ∧ Hp ⟨w, W, E.M⟩ E' (Z.tokOf.outO y) w' ∧
          ∀ (j : Nat) (e : LE), j < Z.tokOf.sig.ins.objs.length → E.L[j]? = some e → E'.L[j]? = some e) [] .returning w' := by
      intro E' fr hp a w' h1 h2 h3
      obtain ⟨v, r1, E2, vs, rfl, r2, r3⟩ := Z.res_fin h1 h2 h3
      exact ⟨_, r1, E2, vs, rfl, r2, r3, fun j e hj => absurd hj (Nat.not_lt_zero j)⟩
    -- the cells
    refine wp_seq ?_
    refine run_sound (an := .leaf) (r := (false, Z.frA l, Z.hpA)) (K := Z.kN) hG hh0 hfr hg (by kernel_rfl) ?_
    intro lv E1 fr1 hp1 a1 w1 le1 hh1 hf1 kp1 hk1
    obtain ⟨rfl, rfl, ⟨_, rfl⟩ | ⟨h, _⟩⟩ := Z.kN_at hk1
    case inr => cases h
    show Code.wp _ _ _ _ _
    refine wp_seq ?_
    have hg1 := Z.C.globsOk_mono le1.1 hg
    by_cases hlen : (l.length : Int) > 200
    · -- too long
      have hy : y = ([], 0, 10) := by
        have : Z.tokOfF l = some y := hxy
        unfold Z.tokOfF at this
        rw [if_pos hlen] at this
        exact (Option.some.inj this).symm
      subst hy
      refine run_sound (an := .seq .leaf (.cond (.seq .leaf .leaf) .leaf)) (r := (true, Z.frB l true, [.cells [.nils], .cells [.val (.int .i64) (0 : Int)], .cells [.val (.int .i64) (10 : Int)]])) (K := Z.kN) hG hh1 hf1 hg1
        (Eq.trans (b := if decide ((l.length : Int) > 200) = true then some (true, Z.frB l true, [.cells [.nils], .cells [.val (.int .i64) (0 : Int)], .cells [.val (.int .i64) (10 : Int)]]) else some (false, Z.frB l false, Z.hpA)) (by kernel_rfl) (if_pos (decide_eq_true hlen))) ?_
      intro lv E2 fr2 hp2 a2 w2 le2 hh2 hf2 kp2 hk2
      obtain ⟨rfl, rfl, ⟨h, _⟩ | ⟨_, rfl⟩⟩ := Z.kN_at hk2
      case inl => cases h
      have hdef : a2.defers = [] := by rw [kp2.defers, kp1.defers]
      show Q .ret a2 w2
      subst hQ
      show Leaves _ _ _ _ a2.defers .returning w2
      rw [hdef]
      exact fin hh2 hf2 (by kernel_rfl)
    refine run_sound (an := .seq .leaf (.cond (.seq .leaf .leaf) .leaf)) (r := (false, Z.frB l false, Z.hpA)) (K := Z.kN) hG hh1 hf1 hg1
      (Eq.trans (b := if decide ((l.length : Int) > 200) = true then some (true, Z.frB l true, [.cells [.nils], .cells [.val (.int .i64) (0 : Int)], .cells [.val (.int .i64) (10 : Int)]]) else some (false, Z.frB l false, Z.hpA)) (by kernel_rfl) (if_neg (by rw [decide_eq_true_eq]; exact hlen))) ?_
    intro lv E2 fr2 hp2 a2 w2 le2 hh2 hf2 kp2 hk2
    obtain ⟨rfl, rfl, ⟨_, rfl⟩ | ⟨h, _⟩⟩ := Z.kN_at hk2
    case inr => cases h
    have hdef : a2.defers = [] := by rw [kp2.defers, kp1.defers]
    have hg2 := Z.C.globsOk_mono le2.1 hg1
    have hpt := Z.ptrs hf2 rfl rfl rfl
    have hsz : a2.tmps.size = 19 := by have := SV.satL_length hf2; simpa [Z.frB] using this
    show Code.wp _ _ _ _ _
    refine wp_seq ?_
    refine wp_region_list ?_
    generalize hp_ : a2.eval (.tmp 2) = p at hpt
    generalize hq_ : a2.eval (.tmp 3) = q at hpt
    generalize hs_ : a2.eval (.tmp 4) = s at hpt
    refine Z.op1 (v := .func (.func 43) #[] #[p, q, s]) rfl (by simp [execOp, hp_, hq_, hs_, Instr.makeFunc]) ?_
    have e9 : (a2.put (some 9) (.func (.func 43) #[] #[p, q, s])).eval (.tmp 9) = .func (.func 43) #[] #[p, q, s] := by simp [Act.put, Act.eval, Array.getD, hsz]
    refine Z.op_defer (d := { target := .fn (.func 43) #[p, q, s], args := #[] }) rfl (by simp [execOp, resolve, e9, Deferred.ofValue]) ?_
    generalize hd : ({ target := .fn (.func 43) #[p, q, s], args := #[] } : Deferred) = df
    have hfC : SV.satL E2 (List.set (Z.frB l false) 9 .und) (a2.put (some 9) (.func (.func 43) #[] #[p, q, s])).tmps.toList := by
      have := satL_set (i := 9) (s := .und) (v := .func (.func 43) #[] #[p, q, s]) hf2 (by simp [SV.sat])
      simpa [Act.put] using this
    generalize ha3 : (({ a2.put (some 9) (.func (.func 43) #[] #[p, q, s]) with defers := df :: (a2.put (some 9) (.func (.func 43) #[] #[p, q, s])).defers } : Act).put none undef) = a3
    have hf3 : SV.satL E2 (List.set (Z.frB l false) 9 .und) a3.tmps.toList := by rw [← ha3]; exact hfC
    have hdef3 : a3.defers = [df] := by
      rw [← ha3]
      show df :: a2.defers = [df]
      rw [hdef]
    have ev3 : ∀ t, t ≠ 9 → a3.eval (.tmp t) = a2.eval (.tmp t) := fun t ht => by
      rw [← ha3]
      simp only [Act.eval, Act.put, Array.getD_eq_getD_getElem?]
      rw [Array.getElem?_setIfInBounds_ne (fun e => ht e.symm)]
    clear ha3 hfC e9
    show Code.wp _ _ _ _ _
    -- the reader
    refine wp_seq ?_
    refine run_sound (an := .leaf) (r := (false, Z.frD l, Z.hpD l)) (K := Z.kN) hG hh2 hf3 hg2 (by kernel_rfl) ?_
    intro lv E4 fr4 hp4 a4 w4 le4 hh4 hf4 kp4 hk4
    obtain ⟨rfl, rfl, ⟨_, rfl⟩ | ⟨h, _⟩⟩ := Z.kN_at hk4
    case inr => cases h
    have hg4 := Z.C.globsOk_mono le4.1 hg2
    have hdef4 : a4.defers = [df] := by rw [kp4.defers, hdef3]
    show Code.wp _ _ _ _ _
    refine wp_seq ?_
    refine wp_region_list ?_
    obtain ⟨rv, g1, g2⟩ := tmp_get hf4 (t := 5) rfl
    have e5 : a4.eval (.tmp 5) = rv := by simp [Act.eval, Array.getD_eq_getD_getElem?, g1]
    refine Z.op1 (v := rv) rfl (by simp [execOp, e5]) ?_
    have hsz4 : a4.tmps.size = 19 := by have := SV.satL_length hf4; simpa [Z.frD] using this
    have e13 : (a4.put (some 13) rv).eval (.tmp 13) = rv := by simp [Act.put, Act.eval, Array.getD, hsz4]
    have hf4' : SV.satL E4 (List.set (Z.frD l) 13 (.ptr 3 0)) (a4.put (some 13) rv).tmps.toList := by
      have := satL_set (i := 13) hf4 g2
      simpa [Act.put] using this
    have hdef4' : (a4.put (some 13) rv).defers = [df] := hdef4
    show wpList _ _ _ [_] (a4.put (some 13) rv) w4
    generalize a4.put (some 13) rv = a5 at e13 hf4' hdef4'
    have hptE : SV.satL E4 [.ptr 0 0, .ptr 1 0, .ptr 2 0] [p, q, s] := SV.satL_mono (Env.le_trans le4 (Env.le_refl _)) _ _ hpt
    have hF : (∃ z, Z.f44F (l, 0, []) = some (.inl z) ∧ y = (z.2.2, 0, 0)) ∨ ∃ d : Int × Int, Z.f44F (l, 0, []) = some (.inr d) ∧ y = ([], d.1, d.2) := by
      have : Z.tokOfF l = some y := hxy
      unfold Z.tokOfF at this
      rw [if_neg hlen] at this
      cases hz : Z.f44F (l, 0, []) with
      | none => rw [hz] at this; cases this
      | some z =>
        rw [hz] at this
        cases z with
        | inl z => exact .inl ⟨z, rfl, (Option.some.inj this).symm⟩
        | inr d => exact .inr ⟨d, rfl, (Option.some.inj this).symm⟩
    have hcall := fun (r : List HO ⊕ (DV × List HO)) (h : evPCon (R := List HO ⊕ (DV × List HO)) Z.f44p [.ptr 3 0] (Z.hpD l) (fun _ hp => some (.inl hp)) (fun t d hp => some (.inr (⟨t, d⟩, hp))) = some r) =>
      evPCon_some (P := Go.Proofs.Try.prog) (C := Z.C) (c := Z.f44p) (vals := [rv]) Z.f44ok hg4 hh4 (by simp only [SV.satL]; exact ⟨rv, [], rfl, g2, rfl⟩) h
    have hinv : ∀ w', (invoke (.fn (.func 43) #[p, q, s]) #[]).run Go.Proofs.Try.prog w' = .ok (.enter 43 #[p, q, s]) w' := by
      intro w'
      have h43 := Go.Proofs.Try.func43
      simp [invoke, callFunc, h43, show Go.Proofs.Try.f43.body ≠ none from by rw [show Go.Proofs.Try.f43.body = some _ from rfl]; simp, show Go.Proofs.Try.f43.name ≠ "runtime.NumGoroutine" from by decide]
    unfold wpList
    rw [if_pos (by rfl)]
    left
    unfold Oper.wp
    rw [run_call (c := Z.f44p.nrm) Z.f44ok.nrm rfl w4, Oper.upon_enter]
    rw [show (List.map a5.eval [Operand.tmp 13]).toArray = [rv].toArray by rw [List.map_cons, List.map_nil, e13]]
    rcases hF with ⟨z, hz, rfl⟩ | ⟨d, hz, rfl⟩
    · -- it has read
      refine (hcall (.inl (Z.hpE z)) (by rw [Z.evRead, hz]; rfl)).mono ?_
      rintro e w5 (⟨v, E5, hp5, sv, rfl, q1, q2, q3, q4⟩ | ⟨t, d, cs, E5, hp5, rfl, q1, q2, q3, q4⟩)
      case inr => cases q4
      obtain rfl : hp5 = Z.hpE z := by cases q4; rfl
      show wpList _ _ _ [] (a5.put (some 14) v) w5
      show Code.wp _ _ _ _ _
      have hf5 : SV.satL E5 (List.set (List.set (Z.frD l) 13 (.ptr 3 0)) 14 .und) (a5.put (some 14) v).tmps.toList := by
        have := satL_set (i := 14) (s := .und) (v := v) (SV.satL_mono q1 _ _ hf4') (by simp [SV.sat])
        simpa [Act.put] using this
      have hdef5 : (a5.put (some 14) v).defers = [df] := hdef4'
      generalize a5.put (some 14) v = a6 at hf5 hdef5
      refine run_sound (an := .seq .leaf .leaf) (r := (true, List.set (List.set (List.set (List.set (List.set (List.set (Z.frD l) 13 (.ptr 3 0)) 14 .und) 15 (.ptr 3 0)) 16 (.ptr 3 0)) 17 (.ptr 3 2)) 18 (.own 5 none), Z.hpN z.1 z.2.1 z.2.2)) (K := Z.kN) hG q2 hf5 (Z.C.globsOk_mono q1.1 hg4) (by kernel_rfl) ?_
      intro lv E6 fr6 hp6 a7 w6 le6 hh6 hf6 kp6 hk6
      obtain ⟨rfl, rfl, ⟨h, _⟩ | ⟨_, rfl⟩⟩ := Z.kN_at hk6
      case inl => cases h
      show Q .ret a7 w6
      subst hQ
      show Leaves _ _ _ _ a7.defers .returning w6
      rw [kp6.defers, hdef5, ← hd]
      refine leaves_cons (by simp) (hinv w6) ?_
      refine (Z.closN (Z.C.globsOk_mono le6.1 (Z.C.globsOk_mono q1.1 hg4)) hh6 (SV.satL_mono (Env.le_trans q1 le6) _ _ hptE)).mono ?_
      rintro e u' w7 ⟨⟨v, rfl⟩, hu, E7, rest, k1, k2⟩
      show Leaves _ _ _ _ [] (settle u') w7
      rw [hu]
      exact fin k2 (SV.satL_mono k1 _ _ hf6) (by kernel_rfl)
    · -- it panicked
      refine (hcall (.inr (⟨Z.wT, d⟩, Z.hpP)) (by rw [Z.evRead, hz]; rfl)).mono ?_
      rintro e w5 (⟨v, E5, hp5, sv, rfl, q1, q2, q3, q4⟩ | ⟨t, d', cs, E5, hp5, rfl, q1, q2, q3, q4⟩)
      case inl => cases q4
      simp only [Option.some.injEq, Sum.inr.injEq, Prod.mk.injEq, DV.mk.injEq] at q4
      obtain ⟨⟨rfl, q5⟩, rfl⟩ := q4
      obtain rfl := eq_of_heq q5
      show Q (.panic _) a5 w5
      subst hQ
      show Leaves _ _ _ _ a5.defers _ w5
      rw [hdef4', ← hd]
      refine leaves_cons (by simp) (hinv w5) ?_
      refine (Z.closP (Z.C.globsOk_mono q1.1 hg4) q2 (SV.satL_mono q1 _ _ hptE) q3).mono ?_
      rintro e u' w7 ⟨⟨v, rfl⟩, hu, E7, rest, k1, k2⟩
      show Leaves _ _ _ _ [] (settle u') w7
      rw [hu]
      exact fin (fr := List.set (Z.frD l) 13 (.ptr 3 0)) k2 (SV.satL_mono (Env.le_trans q1 k1) _ _ hf4') (by kernel_rfl)
end Go.Sx
