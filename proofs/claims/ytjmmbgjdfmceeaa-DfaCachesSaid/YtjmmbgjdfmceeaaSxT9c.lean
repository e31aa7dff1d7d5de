import Derived.Test.YtjmmbgjdfmceeaaSxT9b
set_option maxHeartbeats 0
set_option linter.unusedVariables false
set_option linter.unusedSimpArgs false
namespace Go.Sx
open Go.Proofs
/- ductus/ductuslaw21.DfaBounds -/
def D.f7sig : Sig := ⟨⟨[.hole (.sl (.st (.pair (.int .i64) (.pair (.sl (.st (.pair (.int .i64) (.int .i64)))) (.pair (.int .i64) (.int .i64)))))), .hole (.sl (.sl (.int .i64))), .hole (.int .u16)], []⟩, ⟨[.hole .bool], []⟩⟩
noncomputable def D.f7Γ : List Con := [D.f27con, D.f15con, D.f28con, D.f26con, D.f29con, D.f22con, D.f30con]
def D.f7ann : Ann := (.seq .leaf (.seq (.seq .leaf (.cond (.seq .leaf .leaf) .leaf)) (.seq (.seq (.join [⟨.normal, [(29, .hole .bool)], []⟩] .leaf) (.cond (.seq .leaf .leaf) .leaf)) (.seq .leaf (.seq (.seq .leaf (.cond (.seq .leaf .leaf)
 .leaf)) (.seq (.seq .leaf (.block (.loop ⟨.normal, [(9, .hole (.int .i64))], [.cells [.hole (.sl (.st (.pair (.int .i64) (.pair (.sl (.st (.pair (.int .i64) (.int .i64)))) (.pair (.int .i64) (.int .i64)))))), .hole (.int .i64), .hole (.sl
 (.st (.pair (.sl (.int .i64)) (.pair .bool (.sl (.st (.pair (.int .i64) (.int .i64)))))))), .hole (.int .i64)]]⟩ [⟨(.exit 0), [], [.cells [.hole (.sl (.st (.pair (.int .i64) (.pair (.sl (.st (.pair (.int .i64) (.int .i64)))) (.pair (.int
 .i64) (.int .i64)))))), .hole (.int .i64), .hole (.sl (.st (.pair (.sl (.int .i64)) (.pair .bool (.sl (.st (.pair (.int .i64) (.int .i64)))))))), .hole (.int .i64)]]⟩, ⟨.ret, [(6, .hole .bool)], [.gone]⟩] (.seq (.seq .leaf (.cond .leaf
 .leaf)) (.seq (.block (.seq (.seq .leaf (.cond (.seq .leaf .leaf) .leaf)) (.seq .leaf (.block (.loop ⟨.normal, [(10, .hole (.int .i64))], [.cells [.hole (.sl (.st (.pair (.int .i64) (.pair (.sl (.st (.pair (.int .i64) (.int .i64)))) (.pair
 (.int .i64) (.int .i64)))))), .hole (.int .i64), .hole (.sl (.st (.pair (.sl (.int .i64)) (.pair .bool (.sl (.st (.pair (.int .i64) (.int .i64)))))))), .hole (.int .i64)]]⟩ [⟨(.exit 2), [], [.cells [.hole (.sl (.st (.pair (.int .i64) (.pair
 (.sl (.st (.pair (.int .i64) (.int .i64)))) (.pair (.int .i64) (.int .i64)))))), .hole (.int .i64), .hole (.sl (.st (.pair (.sl (.int .i64)) (.pair .bool (.sl (.st (.pair (.int .i64) (.int .i64)))))))), .hole (.int .i64)]]⟩, ⟨.ret, [(6,
 .hole .bool)], [.gone]⟩] (.seq (.seq .leaf (.cond .leaf .leaf)) (.seq (.block (.seq (.eff 2 [6] [0, 0, 0, 6, 14, 0, 63, 127, 255, 255, 255, 0, 2559, 7167, 16383]) (.seq .leaf (.seq (.seq (.join [⟨.normal, [(130, .hole .bool)], [.cells
 [.hole (.sl (.st (.pair (.int .i64) (.pair (.sl (.st (.pair (.int .i64) (.int .i64)))) (.pair (.int .i64) (.int .i64)))))), .hole (.int .i64), .hole (.sl (.st (.pair (.sl (.int .i64)) (.pair .bool (.sl (.st (.pair (.int .i64) (.int
 .i64)))))))), .hole (.int .i64)], .cells [.hole (.sl (.st (.pair (.int .i64) (.pair (.sl (.st (.pair (.int .i64) (.int .i64)))) (.pair (.int .i64) (.int .i64)))))), .hole (.int .i64), .hole (.sl (.st (.pair (.sl (.int .i64)) (.pair .bool
 (.sl (.st (.pair (.int .i64) (.int .i64)))))))), .hole (.int .i64)]]⟩] .leaf) (.cond (.seq .leaf .leaf) .leaf)) .leaf)))) .leaf))))))) .leaf))))) (.seq .leaf .leaf)))))))
noncomputable def D.f7F : List (Int × List (Int × Int) × Int × Int) × List (List Int) × Int → Option (Bool) := fun (x : List (Int × List (Int × Int) × Int × Int) × List (List Int) × Int) => Option.bind (D.f27F ()) fun v1 => if (!v1) = true
 then some false else Option.bind (Option.bind (D.f15F x.1) fun v2 => if v2 = true then some true else if decide ((x.1.length : Int) > (60 : Int)) = true then some true else some (decide ((x.2.1.length : Int) > (8 : Int)))) fun v2 => if v2 =
 true then some true else Option.bind (D.f28F (x.1, IntKind.i64.wrap ((2 : Int) + Int.tmod (IntKind.i64.wrap x.2.2) (999 : Int)))) fun v3 => if (v3.2 != (0 : Int)) = true then if (v3.2 == (1 : Int)) = true then Option.bind (D.f26F x.1) fun
 v4 => some !v4 else some false else Option.bind (iter (fun (s4 : Int × List (Int × List (Int × Int) × Int × Int) × Int × List (List Int × Bool × List (Int × Int)) × Int) => if decide (s4.1 < (x.2.1.length : Int)) = true then if (0 : Int) ≤
 s4.1 ∧ s4.1 < (x.2.1.length : Int) then if decide ((↑(List.length (List.getD x.2.1 (Int.toNat s4.1) [])) : Int) > (12 : Int)) = true then some (Sum.inr (Sum.inr true)) else Option.bind (iter (fun (s5 : Int × List (Int × List (Int × Int) ×
 Int × Int) × Int × List (List Int × Bool × List (Int × Int)) × Int) => if (0 : Int) ≤ s4.1 ∧ s4.1 < (x.2.1.length : Int) then if decide (s5.1 ≤ (↑(List.length (List.getD x.2.1 (Int.toNat s4.1) [])) : Int)) = true then if (0 : Int) ≤ s4.1 ∧
 s4.1 < (x.2.1.length : Int) then Option.bind (D.f29F ((s5.2.1, s5.2.2.1, s5.2.2.2.1, s5.2.2.2.2), List.getD x.2.1 (Int.toNat s4.1) [], s5.1)) fun v6 => if (0 : Int) ≤ s4.1 ∧ s4.1 < (x.2.1.length : Int) then Option.bind (D.f22F (x.1,
 List.getD x.2.1 (Int.toNat s4.1) [], s5.1)) fun v7 => Option.bind (if (v6.2.1 != v7.1) = true then some (true, s5.2.1, s5.2.2.1, s5.2.2.2.1, s5.2.2.2.2, v6.1.1, v6.1.2.1, v6.1.2.2.1, v6.1.2.2.2) else if decide ((v6.1.2.2.1.length : Int) >
 s5.2.2.1) = true then some (true, s5.2.1, s5.2.2.1, s5.2.2.2.1, s5.2.2.2.2, v6.1.1, v6.1.2.1, v6.1.2.2.1, v6.1.2.2.2) else if (v6.1.2.1 != s5.2.2.1) = true then some (true, s5.2.1, s5.2.2.1, s5.2.2.2.1, s5.2.2.2.2, v6.1.1, v6.1.2.1,
 v6.1.2.2.1, v6.1.2.2.2) else if decide (v6.1.2.2.2 < s5.2.2.2.2) = true then some (true, s5.2.1, s5.2.2.1, s5.2.2.2.1, s5.2.2.2.2, v6.1.1, v6.1.2.1, v6.1.2.2.1, v6.1.2.2.2) else if decide (v6.2.2 < (1 : Int)) = true then some (true, s5.2.1,
 s5.2.2.1, s5.2.2.2.1, s5.2.2.2.2, v6.1.1, v6.1.2.1, v6.1.2.2.1, v6.1.2.2.2) else if (0 : Int) ≤ s4.1 ∧ s4.1 < (x.2.1.length : Int) then some (decide (v6.2.2 > IntKind.i64.wrap (IntKind.i64.wrap ((↑(List.length (List.getD x.2.1 (Int.toNat
 s4.1) [])) : Int) - s5.1) + (1 : Int))), s5.2.1, s5.2.2.1, s5.2.2.2.1, s5.2.2.2.2, v6.1.1, v6.1.2.1, v6.1.2.2.1, v6.1.2.2.2) else none) fun (v8 : Bool × List (Int × List (Int × Int) × Int × Int) × Int × List (List Int × Bool × List (Int ×
 Int)) × Int × List (Int × List (Int × Int) × Int × Int) × Int × List (List Int × Bool × List (Int × Int)) × Int) => if v8.1 = true then some (Sum.inr (Sum.inr false)) else some (Sum.inl (IntKind.i64.wrap (s5.1 + (1 : Int)), v8.2.2.2.2.2.1,
 v8.2.2.2.2.2.2.1, v8.2.2.2.2.2.2.2.1, v8.2.2.2.2.2.2.2.2)) else none else none else some (Sum.inr (Sum.inl (s5.2.1, s5.2.2.1, s5.2.2.2.1, s5.2.2.2.2))) else none) ((0 : Int), s4.2.1, s4.2.2.1, s4.2.2.2.1, s4.2.2.2.2)) fun (v5 : List (Int ×
 List (Int × Int) × Int × Int) × Int × List (List Int × Bool × List (Int × Int)) × Int ⊕ Bool) => Sum.elim (fun (p6 : List (Int × List (Int × Int) × Int × Int) × Int × List (List Int × Bool × List (Int × Int)) × Int) => some (Sum.inl
 (IntKind.i64.wrap (s4.1 + (1 : Int)), p6.1, p6.2.1, p6.2.2.1, p6.2.2.2))) (fun (q6 : Bool) => some (Sum.inr (Sum.inr q6))) v5 else none else some (Sum.inr (Sum.inl (s4.2.1, s4.2.2.1, s4.2.2.2.1, s4.2.2.2.2)))) ((0 : Int), v3.1.1, v3.1.2.1,
 v3.1.2.2.1, v3.1.2.2.2)) fun (v4 : List (Int × List (Int × Int) × Int × Int) × Int × List (List Int × Bool × List (Int × Int)) × Int ⊕ Bool) => Sum.elim (fun (p5 : List (Int × List (Int × Int) × Int × Int) × Int × List (List Int × Bool ×
 List (Int × Int)) × Int) => Option.bind (D.f30F (p5.1, p5.2.1, p5.2.2.1, p5.2.2.2)) fun v6 => some v6) (fun (q5 : Bool) => some q5) v4
theorem D.f7eq : ∀ x, runFn D.C D.f7Γ D.f7sig D.f7ann Go.Proofs.Try.f7 x = D.f7F x := by
  intro x
  kernel_rfl
noncomputable def D.f7con : Con := ⟨7, D.f7sig, D.f7F⟩
theorem D.f7ok : Con.Ok Go.Proofs.Try.prog D.C D.f7con :=
  runFn_ok (Γ := D.f7Γ) (an := D.f7ann) ⟨D.Cok, (List.forall_mem_cons.2 ⟨D.f27ok, (List.forall_mem_cons.2 ⟨D.f15ok, (List.forall_mem_cons.2 ⟨D.f28ok, (List.forall_mem_cons.2 ⟨D.f26ok, (List.forall_mem_cons.2 ⟨D.f29ok, (List.forall_mem_cons.2 ⟨D.f22ok, (List.forall_mem_cons.2 ⟨D.f30ok, (fun _ h => nomatch h)⟩)⟩)⟩)⟩)⟩)⟩)⟩), D.mixed⟩ Go.Proofs.Try.func7 rfl rfl (fun x y h => (D.f7eq x).trans h) (by decide)
end Go.Sx
