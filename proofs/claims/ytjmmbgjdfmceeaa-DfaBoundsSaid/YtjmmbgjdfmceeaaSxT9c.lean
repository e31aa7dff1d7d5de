import Derived.Test.YtjmmbgjdfmceeaaSxT9b
set_option maxHeartbeats 0
set_option linter.unusedVariables false
set_option linter.unusedSimpArgs false
namespace Go.Sx
open Go.Proofs
def D.f8sig : Sig := ⟨⟨[.hole (.sl (.st (.pair (.int .i64) (.pair (.sl (.st (.pair (.int .i64) (.int .i64)))) (.pair (.int .i64) (.int .i64)))))), .hole (.sl (.int .i64)), .hole (.arr 2 (.int .u8))], []⟩, ⟨[.hole .bool], []⟩⟩
noncomputable def D.f8Γ : List Con := [D.f27con, D.f15con, D.f28con, D.f31con, D.f32con, D.f30con, D.f33con]
def D.f8ann : Ann := (.seq .leaf (.seq (.seq .leaf (.cond (.seq .leaf .leaf) .leaf)) (.seq (.seq (.join [⟨.normal, [(28, .hole .bool)], [.cells [.hole (.int .u8), .hole (.int .u8)]]⟩] .leaf) (.cond (.seq .leaf .leaf) .leaf)) (.seq .leaf
 (.seq (.seq .leaf (.cond (.seq .leaf .leaf) .leaf)) (.seq .leaf (.seq (.seq .leaf (.block (.loop ⟨.normal, [(9, .hole (.int .i64)), (10, .hole (.int .i64))], [.gone, .cells [.hole (.sl (.st (.pair (.int .i64) (.pair (.sl (.st (.pair (.int
 .i64) (.int .i64)))) (.pair (.int .i64) (.int .i64)))))), .hole (.int .i64), .hole (.sl (.st (.pair (.sl (.int .i64)) (.pair .bool (.sl (.st (.pair (.int .i64) (.int .i64)))))))), .hole (.int .i64)], .gone]⟩ [⟨(.exit 0), [], [.gone, .gone,
 .gone]⟩, ⟨.ret, [(6, .hole .bool)], [.gone, .gone, .gone]⟩] (.seq (.seq (.join [⟨.normal, [(60, .hole .bool)], [.gone, .cells [.hole (.sl (.st (.pair (.int .i64) (.pair (.sl (.st (.pair (.int .i64) (.int .i64)))) (.pair (.int .i64) (.int
 .i64)))))), .hole (.int .i64), .hole (.sl (.st (.pair (.sl (.int .i64)) (.pair .bool (.sl (.st (.pair (.int .i64) (.int .i64)))))))), .hole (.int .i64)], .gone]⟩] .leaf) (.cond .leaf .leaf)) (.seq (.block (.seq (.eff 4 [6] [0, 0, 0, 0, 12,
 28, 63, 127, 255, 255, 0, 1535, 4095]) (.seq (.seq (.join [⟨.normal, [(113, .hole .bool)], [.gone, .cells [.hole (.sl (.st (.pair (.int .i64) (.pair (.sl (.st (.pair (.int .i64) (.int .i64)))) (.pair (.int .i64) (.int .i64)))))), .hole
 (.int .i64), .hole (.sl (.st (.pair (.sl (.int .i64)) (.pair .bool (.sl (.st (.pair (.int .i64) (.int .i64)))))))), .hole (.int .i64)], .gone, .cells [.hole (.sl (.st (.pair (.int .i64) (.pair (.sl (.st (.pair (.int .i64) (.int .i64))))
 (.pair (.int .i64) (.int .i64)))))), .hole (.int .i64), .hole (.sl (.st (.pair (.sl (.int .i64)) (.pair .bool (.sl (.st (.pair (.int .i64) (.int .i64)))))))), .hole (.int .i64)]]⟩] .leaf) (.cond (.seq .leaf .leaf) .leaf)) (.seq (.eff 5 [11]
 [0, 0, 0, 4, 12, 28, 62, 0, 0, 384, 896, 2047, 4095, 8191, 8191, 0, 49151, 131071]) (.seq (.seq (.join [⟨.normal, [(144, .hole .bool)], [.gone, .cells [.hole (.sl (.st (.pair (.int .i64) (.pair (.sl (.st (.pair (.int .i64) (.int .i64))))
 (.pair (.int .i64) (.int .i64)))))), .hole (.int .i64), .hole (.sl (.st (.pair (.sl (.int .i64)) (.pair .bool (.sl (.st (.pair (.int .i64) (.int .i64)))))))), .hole (.int .i64)], .gone, .cells [.hole (.sl (.st (.pair (.int .i64) (.pair (.sl
 (.st (.pair (.int .i64) (.int .i64)))) (.pair (.int .i64) (.int .i64)))))), .hole (.int .i64), .hole (.sl (.st (.pair (.sl (.int .i64)) (.pair .bool (.sl (.st (.pair (.int .i64) (.int .i64)))))))), .hole (.int .i64)], .gone]⟩] .leaf) (.cond
 (.seq .leaf .leaf) .leaf)) .leaf))))) .leaf))))) (.seq .leaf .leaf))))))))
/- ductus/ductuslaw21.DfaBounds -/
noncomputable def D.f8F : List (Int × List (Int × Int) × Int × Int) × List Int × List Int → Option (Bool) := fun (x : List (Int × List (Int × Int) × Int × Int) × List Int × List Int) => Option.bind (D.f27F ()) fun v1 => if (!v1) = true then
 some false else Option.bind (Option.bind (D.f15F x.1) fun v2 => if v2 = true then some (true, List.getD x.2.2 (nat_lit 0) (0 : Int), List.getD x.2.2 (nat_lit 1) (0 : Int)) else if decide ((x.1.length : Int) > (60 : Int)) = true then some
 (true, List.getD x.2.2 (nat_lit 0) (0 : Int), List.getD x.2.2 (nat_lit 1) (0 : Int)) else some (decide ((x.2.1.length : Int) > (12 : Int)), List.getD x.2.2 (nat_lit 0) (0 : Int), List.getD x.2.2 (nat_lit 1) (0 : Int))) fun v2 => if v2.1 =
 true then some true else if (0 : Int) ≤ (0 : Int) ∧ (0 : Int) < (↑(2 : Nat) : Int) then Option.bind (D.f28F (x.1, IntKind.i64.wrap ((2 : Int) + Int.tmod (IntKind.i64.wrap v2.2.1) (6 : Int)))) fun v3 => if (v3.2 != (0 : Int)) = true then
 some (v3.2 == (1 : Int)) else if (0 : Int) ≤ (1 : Int) ∧ (1 : Int) < (↑(2 : Nat) : Int) then Option.bind (D.f31F ((v3.1.1, v3.1.2.1, v3.1.2.2.1, v3.1.2.2.2), [(0 : Int)], Int.tmod v2.2.2 (2 : Int) == (0 : Int))) fun v4 => Option.bind (iter
 (fun (s5 : Int × Int × List (Int × List (Int × Int) × Int × Int) × Int × List (List Int × Bool × List (Int × Int)) × Int) => Option.bind (if decide (s5.2.1 < (x.2.1.length : Int)) = true then some (decide (s5.1 ≥ (0 : Int)), s5.2.2.1,
 s5.2.2.2.1, s5.2.2.2.2.1, s5.2.2.2.2.2) else some (false, s5.2.2.1, s5.2.2.2.1, s5.2.2.2.2.1, s5.2.2.2.2.2)) fun (v6 : Bool × List (Int × List (Int × Int) × Int × Int) × Int × List (List Int × Bool × List (Int × Int)) × Int) => if v6.1 =
 true then if (0 : Int) ≤ s5.2.1 ∧ s5.2.1 < (x.2.1.length : Int) then Option.bind (D.f32F ((v6.2.1, v6.2.2.1, v6.2.2.2.1, v6.2.2.2.2), s5.1, List.getD x.2.1 (Int.toNat s5.2.1) (0 : Int))) fun v7 => Option.bind (Option.bind (D.f30F (v7.1.1,
 v7.1.2.1, v7.1.2.2.1, v7.1.2.2.2)) fun v8 => if (!v8) = true then some (true, v6.2.1, v6.2.2.1, v6.2.2.2.1, v6.2.2.2.2, v7.1.1, v7.1.2.1, v7.1.2.2.1, v7.1.2.2.2) else if decide ((v7.1.2.2.1.length : Int) > v7.1.2.1) = true then some (true,
 v6.2.1, v6.2.2.1, v6.2.2.2.1, v6.2.2.2.2, v7.1.1, v7.1.2.1, v7.1.2.2.1, v7.1.2.2.2) else if decide (v7.1.2.2.2 < v6.2.2.2.2) = true then some (true, v6.2.1, v6.2.2.1, v6.2.2.2.1, v6.2.2.2.2, v7.1.1, v7.1.2.1, v7.1.2.2.1, v7.1.2.2.2) else if
 decide (v7.2 ≥ (v7.1.2.2.1.length : Int)) = true then some (true, v6.2.1, v6.2.2.1, v6.2.2.2.1, v6.2.2.2.2, v7.1.1, v7.1.2.1, v7.1.2.2.1, v7.1.2.2.2) else if (v7.1.2.2.2 == v6.2.2.2.2) = true then some (decide ((v7.1.2.2.1.length : Int) <
 (v6.2.2.2.1.length : Int)), v6.2.1, v6.2.2.1, v6.2.2.2.1, v6.2.2.2.2, v7.1.1, v7.1.2.1, v7.1.2.2.1, v7.1.2.2.2) else some (false, v6.2.1, v6.2.2.1, v6.2.2.2.1, v6.2.2.2.2, v7.1.1, v7.1.2.1, v7.1.2.2.1, v7.1.2.2.2)) fun (v8 : Bool × List
 (Int × List (Int × Int) × Int × Int) × Int × List (List Int × Bool × List (Int × Int)) × Int × List (Int × List (Int × Int) × Int × Int) × Int × List (List Int × Bool × List (Int × Int)) × Int) => if v8.1 = true then some (Sum.inr (Sum.inr
 false)) else if (0 : Int) ≤ s5.2.1 ∧ s5.2.1 < (x.2.1.length : Int) then Option.bind (D.f32F ((v8.2.2.2.2.2.1, v8.2.2.2.2.2.2.1, v8.2.2.2.2.2.2.2.1, v8.2.2.2.2.2.2.2.2), minI s5.1 (IntKind.i64.wrap ((v8.2.2.2.2.2.2.2.1.length : Int) - (1 :
 Int))), List.getD x.2.1 (Int.toNat s5.2.1) (0 : Int))) fun v9 => Option.bind (if (v8.2.2.2.2.2.2.2.2 == v8.2.2.2.2.1) = true then if (v9.2 != v7.2) = true then some (true, v8.2.1, v8.2.2.1, v8.2.2.2.1, v8.2.2.2.2.1, v8.2.2.2.2.2.1,
 v8.2.2.2.2.2.2.1, v8.2.2.2.2.2.2.2.1, v8.2.2.2.2.2.2.2.2) else Option.bind (D.f33F ((v8.2.2.2.2.2.1, v8.2.2.2.2.2.2.1, v8.2.2.2.2.2.2.2.1, v8.2.2.2.2.2.2.2.2), v9.1.1, v9.1.2.1, v9.1.2.2.1, v9.1.2.2.2)) fun v10 => some (!v10, v8.2.1,
 v8.2.2.1, v8.2.2.2.1, v8.2.2.2.2.1, v8.2.2.2.2.2.1, v8.2.2.2.2.2.2.1, v8.2.2.2.2.2.2.2.1, v8.2.2.2.2.2.2.2.2) else some (false, v8.2.1, v8.2.2.1, v8.2.2.2.1, v8.2.2.2.2.1, v8.2.2.2.2.2.1, v8.2.2.2.2.2.2.1, v8.2.2.2.2.2.2.2.1,
 v8.2.2.2.2.2.2.2.2)) fun (v10 : Bool × List (Int × List (Int × Int) × Int × Int) × Int × List (List Int × Bool × List (Int × Int)) × Int × List (Int × List (Int × Int) × Int × Int) × Int × List (List Int × Bool × List (Int × Int)) × Int) =>
 if v10.1 = true then some (Sum.inr (Sum.inr false)) else some (Sum.inl (v7.2, IntKind.i64.wrap (s5.2.1 + (1 : Int)), v10.2.2.2.2.2.1, v10.2.2.2.2.2.2.1, v10.2.2.2.2.2.2.2.1, v10.2.2.2.2.2.2.2.2)) else none else none else some (Sum.inr
 (Sum.inl ()))) (v4.2, (0 : Int), v4.1.1, v4.1.2.1, v4.1.2.2.1, v4.1.2.2.2)) fun v5 => Sum.elim (fun (p6 : PUnit) => some true) (fun (q6 : Bool) => some q6) v5 else none else none
theorem D.f8eq : ∀ x, runFn D.C D.f8Γ D.f8sig D.f8ann Go.Proofs.Try.f8 x = D.f8F x := by
  intro x
  kernel_rfl
noncomputable def D.f8con : Con := ⟨8, D.f8sig, D.f8F⟩
theorem D.f8ok : Con.Ok Go.Proofs.Try.prog D.C D.f8con :=
  runFn_ok (Γ := D.f8Γ) (an := D.f8ann) ⟨D.Cok, (List.forall_mem_cons.2 ⟨D.f27ok, (List.forall_mem_cons.2 ⟨D.f15ok, (List.forall_mem_cons.2 ⟨D.f28ok, (List.forall_mem_cons.2 ⟨D.f31ok, (List.forall_mem_cons.2 ⟨D.f32ok, (List.forall_mem_cons.2 ⟨D.f30ok, (List.forall_mem_cons.2 ⟨D.f33ok, (fun _ h => nomatch h)⟩)⟩)⟩)⟩)⟩)⟩)⟩), D.mixed⟩ Go.Proofs.Try.func8 rfl rfl (fun x y h => (D.f8eq x).trans h) (by decide)
end Go.Sx
