import Derived.Test.YtjmmbgjdfmceeaaSxT9a
import Derived.KernelRfl
set_option maxRecDepth 100000
set_option maxHeartbeats 0
set_option linter.unusedVariables false
set_option linter.unusedSimpArgs false
namespace Go.Sx
open Go.Proofs
/- (*ductus/dfa.cache).next -/
noncomputable def D.f55F : Int × Int × List (Int × List (Int × Int) × Int × Int) × Int × Int × List (List Int × Bool × Bool × List (Int × Int)) → Option (Int × List (Int × List (Int × Int) × Int × Int) × Int × Int × List (List Int × Bool ×
 Bool × List (Int × Int))) := fun (x : Int × Int × List (Int × List (Int × Int) × Int × Int) × Int × Int × List (List Int × Bool × Bool × List (Int × Int))) => if (0 : Int) ≤ x.1 ∧ x.1 < (x.2.2.2.2.2.length : Int) then Option.bind (D.s11F
 ((List.getD x.2.2.2.2.2 (Int.toNat x.1) ([], false, false, [])).2.2.2, x.2.1)) fun v1 => if decide (v1.1 ≥ (0 : Int)) = true then if (0 : Int) ≤ v1.1 ∧ v1.1 < (↑(List.length (Ty.erD (Ty.st (Ty.pair (Ty.sl (Ty.int IntKind.i64)) (Ty.pair
 Ty.bool (Ty.osl (Ty.st (Ty.pair (Ty.int IntKind.i64) (Ty.int IntKind.i64))))))) (List.getD x.2.2.2.2.2 (Int.toNat x.1) ([], false, false, []))).2.2) : Int) then some ((List.getD (Ty.erD (Ty.st (Ty.pair (Ty.sl (Ty.int IntKind.i64)) (Ty.pair
 Ty.bool (Ty.osl (Ty.st (Ty.pair (Ty.int IntKind.i64) (Ty.int IntKind.i64))))))) (List.getD x.2.2.2.2.2 (Int.toNat x.1) ([], false, false, []))).2.2 (Int.toNat v1.1) ((0 : Int), (0 : Int))).2, x.2.2.1, x.2.2.2.1, x.2.2.2.2.1, x.2.2.2.2.2)
 else none else Option.bind (Option.bind (D.f87F ((x.2.2.1, x.2.2.2.1, List.map (Ty.erD (Ty.st (Ty.pair (Ty.sl (Ty.int IntKind.i64)) (Ty.pair Ty.bool (Ty.osl (Ty.st (Ty.pair (Ty.int IntKind.i64) (Ty.int IntKind.i64)))))))) x.2.2.2.2.2,
 x.2.2.2.2.1), ((List.getD x.2.2.2.2.2 (Int.toNat x.1) ([], false, false, [])).1, (List.getD x.2.2.2.2.2 (Int.toNat x.1) ([], false, false, [])).2.1, (List.getD x.2.2.2.2.2 (Int.toNat x.1) ([], false, false, [])).2.2.2), v1.2)) fun v2 => if
 decide ((v2.length : Int) > (0 : Int)) = true then Option.bind (D.f53F (v2, false, x.2.2.1, x.2.2.2.1, x.2.2.2.2.1, x.2.2.2.2.2)) fun v3 => some (v3.1, v3.2.1, v3.2.2.1, v3.2.2.2.1, v3.2.2.2.2.1, v1.2, v3.2.2.2.2.2) else some ((-1 : Int),
 false, x.2.2.1, x.2.2.2.1, x.2.2.2.2.1, v1.2, x.2.2.2.2.2)) fun (v2 : Int × Bool × List (Int × List (Int × Int) × Int × Int) × Int × Int × Int × List (List Int × Bool × Bool × List (Int × Int))) => if (!v2.2.1) = true then if (0 : Int) ≤
 x.1 ∧ x.1 < (v2.2.2.2.2.2.2.length : Int) then if ownedP (List.getD v2.2.2.2.2.2.2 (Int.toNat x.1) ([], false, false, [])).2.2.1 then if roomOk (List.length (List.getD v2.2.2.2.2.2.2 (Int.toNat x.1) ([], false, false, [])).2.2.2 + (1 :
 Nat)) (16 : Nat) then some (v2.1, v2.2.2.1, v2.2.2.2.1, v2.2.2.2.2.1, List.set (List.set v2.2.2.2.2.2.2 (Int.toNat x.1) ((List.getD v2.2.2.2.2.2.2 (Int.toNat x.1) ([], false, false, [])).1, (List.getD v2.2.2.2.2.2.2 (Int.toNat x.1) ([],
 false, false, [])).2.1, false, (List.getD v2.2.2.2.2.2.2 (Int.toNat x.1) ([], false, false, [])).2.2.2)) (Int.toNat x.1) ((List.getD (List.set v2.2.2.2.2.2.2 (Int.toNat x.1) ((List.getD v2.2.2.2.2.2.2 (Int.toNat x.1) ([], false, false,
 [])).1, (List.getD v2.2.2.2.2.2.2 (Int.toNat x.1) ([], false, false, [])).2.1, false, (List.getD v2.2.2.2.2.2.2 (Int.toNat x.1) ([], false, false, [])).2.2.2)) (Int.toNat x.1) ([], false, false, [])).1, (List.getD (List.set v2.2.2.2.2.2.2
 (Int.toNat x.1) ((List.getD v2.2.2.2.2.2.2 (Int.toNat x.1) ([], false, false, [])).1, (List.getD v2.2.2.2.2.2.2 (Int.toNat x.1) ([], false, false, [])).2.1, false, (List.getD v2.2.2.2.2.2.2 (Int.toNat x.1) ([], false, false, [])).2.2.2))
 (Int.toNat x.1) ([], false, false, [])).2.1, true, (List.getD v2.2.2.2.2.2.2 (Int.toNat x.1) ([], false, false, [])).2.2.2 ++ [(v2.2.2.2.2.2.1, v2.1)])) else none else none else none else some (v2.1, v2.2.2.1, v2.2.2.2.1, v2.2.2.2.2.1,
 v2.2.2.2.2.2.2) else none
theorem D.f55eq : ∀ x, runFn D.C D.f55Γ D.f55sig D.f55ann Go.Proofs.Try.f55 x = D.f55F x := by
  intro x
  kernel_rfl
noncomputable def D.f55con : Con := ⟨55, D.f55sig, D.f55F⟩
theorem D.f55ok : Con.Ok Go.Proofs.Try.prog D.C D.f55con :=
  runFn_ok (Γ := D.f55Γ) (an := D.f55ann) ⟨D.Cok, (List.forall_mem_cons.2 ⟨D.s11ok, (List.forall_mem_cons.2 ⟨D.f87ok, (List.forall_mem_cons.2 ⟨D.f53ok, (fun _ h => nomatch h)⟩)⟩)⟩), D.mixed⟩ Go.Proofs.Try.func55 rfl rfl (fun x y h => (D.f55eq x).trans h) (by decide)
def D.f29sig : Sig := ⟨⟨[.hole (.st (.pair (.sl (.st (.pair (.int .i64) (.pair (.sl (.st (.pair (.int .i64) (.int .i64)))) (.pair (.int .i64) (.int .i64)))))) (.pair (.int .i64) (.pair (.sl (.st (.pair (.sl (.int .i64)) (.pair .bool (.sl
 (.st (.pair (.int .i64) (.int .i64)))))))) (.int .i64))))), .hole (.sl (.int .i64)), .hole (.int .i64)], []⟩, ⟨[.hole (.st (.pair (.sl (.st (.pair (.int .i64) (.pair (.sl (.st (.pair (.int .i64) (.int .i64)))) (.pair (.int .i64) (.int
 .i64)))))) (.pair (.int .i64) (.pair (.sl (.st (.pair (.sl (.int .i64)) (.pair .bool (.sl (.st (.pair (.int .i64) (.int .i64)))))))) (.int .i64))))), .hole (.int .i64), .hole (.int .i64)], []⟩⟩
noncomputable def D.f29Γ : List Con := [D.f30con, D.f52con, D.f53con, D.f54con, D.f55con]
def D.f29ann : Ann := (.seq .leaf (.seq (.seq (.join [⟨.normal, [(25, .hole .bool)], [.cells [.hole (.sl (.st (.pair (.int .i64) (.pair (.sl (.st (.pair (.int .i64) (.int .i64)))) (.pair (.int .i64) (.int .i64)))))), .hole (.int .i64),
 .hole (.sl (.st (.pair (.sl (.int .i64)) (.pair .bool (.sl (.st (.pair (.int .i64) (.int .i64)))))))), .hole (.int .i64)], .cells [.own 2, .hole (.int .i64), .own 3, .hole (.int .i64)], .arr 72 (.st (.pair (.int .i64) (.pair (.sl (.st
 (.pair (.int .i64) (.int .i64)))) (.pair (.int .i64) (.int .i64))))), .arr 85 (.st (.pair (.sl (.int .i64)) (.pair .bool (.osl (.st (.pair (.int .i64) (.int .i64)))))))]⟩] .leaf) (.cond (.seq .leaf .leaf) .leaf)) (.seq .leaf (.seq .leaf
 (.seq .leaf (.seq (.seq .leaf (.block (.loop ⟨.normal, [(8, .hole (.int .i64)), (7, .hole (.int .i64)), (10, .hole (.int .i64)), (12, .hole (.int .i64))], [.gone, .cells [.own 2, .hole (.int .i64), .own 3, .hole (.int .i64)], .arr 72 (.st
 (.pair (.int .i64) (.pair (.sl (.st (.pair (.int .i64) (.int .i64)))) (.pair (.int .i64) (.int .i64))))), .arr 85 (.st (.pair (.sl (.int .i64)) (.pair .bool (.osl (.st (.pair (.int .i64) (.int .i64))))))), .cells [.hole (.sl (.st (.pair
 (.int .i64) (.pair (.sl (.st (.pair (.int .i64) (.int .i64)))) (.pair (.int .i64) (.int .i64)))))), .hole (.int .i64), .own 8, .hole (.int .i64)], .gone, .gone, .gone, .arr 85 (.st (.pair (.sl (.int .i64)) (.pair .bool (.osl (.st (.pair
 (.int .i64) (.int .i64)))))))]⟩ [⟨(.exit 0), [(8, .hole (.int .i64)), (7, .hole (.int .i64))], [.gone, .cells [.own 2, .hole (.int .i64), .own 3, .hole (.int .i64)], .arr 72 (.st (.pair (.int .i64) (.pair (.sl (.st (.pair (.int .i64) (.int
 .i64)))) (.pair (.int .i64) (.int .i64))))), .arr 85 (.st (.pair (.sl (.int .i64)) (.pair .bool (.osl (.st (.pair (.int .i64) (.int .i64))))))), .cells [.hole (.sl (.st (.pair (.int .i64) (.pair (.sl (.st (.pair (.int .i64) (.int .i64))))
 (.pair (.int .i64) (.int .i64)))))), .hole (.int .i64), .own 8, .hole (.int .i64)], .gone, .gone, .gone, .arr 85 (.st (.pair (.sl (.int .i64)) (.pair .bool (.osl (.st (.pair (.int .i64) (.int .i64)))))))]⟩] (.seq (.seq .leaf (.cond .leaf
 .leaf)) (.seq (.block (.seq .leaf (.seq (.join [⟨.normal, [(7, .hole (.int .i64))], [.gone, .cells [.own 2, .hole (.int .i64), .own 3, .hole (.int .i64)], .arr 72 (.st (.pair (.int .i64) (.pair (.sl (.st (.pair (.int .i64) (.int .i64))))
 (.pair (.int .i64) (.int .i64))))), .arr 85 (.st (.pair (.sl (.int .i64)) (.pair .bool (.osl (.st (.pair (.int .i64) (.int .i64))))))), .cells [.hole (.sl (.st (.pair (.int .i64) (.pair (.sl (.st (.pair (.int .i64) (.int .i64)))) (.pair
 (.int .i64) (.int .i64)))))), .hole (.int .i64), .own 9, .hole (.int .i64)], .gone, .gone, .gone, .gone, .arr 85 (.st (.pair (.sl (.int .i64)) (.pair .bool (.osl (.st (.pair (.int .i64) (.int .i64)))))))]⟩] (.seq .leaf (.cond .leaf .leaf)))
 (.seq (.seq .leaf (.cond .leaf .leaf)) .leaf)))) .leaf))))) (.seq .leaf .leaf)))))))
noncomputable def D.f29F : (List (Int × List (Int × Int) × Int × Int) × Int × List (List Int × Bool × List (Int × Int)) × Int) × List Int × Int → Option ((List (Int × List (Int × Int) × Int × Int) × Int × List (List Int × Bool × List (Int ×
 Int)) × Int) × Int × Int) := fun (x : (List (Int × List (Int × Int) × Int × Int) × Int × List (List Int × Bool × List (Int × Int)) × Int) × List Int × Int) => Option.bind (if decide (x.2.2 < (0 : Int)) = true then some (true, x.1.1,
 x.1.2.1, x.1.2.2.1, x.1.2.2.2, (0 : Int), (0 : Int), [], []) else if decide (x.2.2 > (x.2.1.length : Int)) = true then some (true, x.1.1, x.1.2.1, x.1.2.2.1, x.1.2.2.2, (0 : Int), (0 : Int), [], []) else Option.bind (D.f30F (x.1.1, x.1.2.1,
 x.1.2.2.1, x.1.2.2.2)) fun v1 => some (!v1, x.1.1, x.1.2.1, x.1.2.2.1, x.1.2.2.2, (0 : Int), (0 : Int), [], [])) fun (v1 : Bool × List (Int × List (Int × Int) × Int × Int) × Int × List (List Int × Bool × List (Int × Int)) × Int × Int × Int
 × List (Int × List (Int × Int) × Int × Int) × List (List Int × Bool × Bool × List (Int × Int))) => if v1.1 = true then some ((v1.2.1, v1.2.2.1, v1.2.2.2.1, v1.2.2.2.2.1), (-1 : Int), (0 : Int)) else Option.bind (D.f52F (v1.2.1, v1.2.2.1,
 v1.2.2.2.1, v1.2.2.2.2.1)) fun v2 => Option.bind (D.f53F ([(0 : Int)], x.2.2 == (0 : Int), v2.1, v2.2.1, v2.2.2.1, v2.2.2.2)) fun v3 => Option.bind (iter (fun (s4 : Int × Int × Int × Int × Int × Int × List (Int × List (Int × Int) × Int ×
 Int) × List (List Int × Bool × Bool × List (Int × Int)) × List (Int × List (Int × Int) × Int × Int) × Int × Int × List (List Int × Bool × Bool × List (Int × Int))) => if (s4.2.2.1 != (-1 : Int)) = true then Option.bind (if (0 : Int) ≤
 s4.2.2.1 ∧ s4.2.2.1 < (s4.2.2.2.2.2.2.2.2.2.2.2.length : Int) then Option.bind (D.f54F ((Ty.erD (Ty.sl (Ty.int IntKind.i64)) (List.getD s4.2.2.2.2.2.2.2.2.2.2.2 (Int.toNat s4.2.2.1) ([], false, false, [])).1, Ty.erD (Ty.pair Ty.bool (Ty.osl
 (Ty.st (Ty.pair (Ty.int IntKind.i64) (Ty.int IntKind.i64))))) (List.getD s4.2.2.2.2.2.2.2.2.2.2.2 (Int.toNat s4.2.2.1) ([], false, false, [])).2), s4.2.2.2.1 == (x.2.1.length : Int), s4.2.2.2.2.2.2.2.2.1, s4.2.2.2.2.2.2.2.2.2.1,
 s4.2.2.2.2.2.2.2.2.2.2.1, s4.2.2.2.2.2.2.2.2.2.2.2)) fun v5 => if v5.1 = true then some (s4.2.2.2.1, s4.2.2.2.2.1, s4.2.2.2.2.2.1, s4.2.2.2.2.2.2.1, s4.2.2.2.2.2.2.2.1, v5.2.1, v5.2.2.1, v5.2.2.2.1, v5.2.2.2.2) else some (s4.2.1,
 s4.2.2.2.2.1, s4.2.2.2.2.2.1, s4.2.2.2.2.2.2.1, s4.2.2.2.2.2.2.2.1, v5.2.1, v5.2.2.1, v5.2.2.2.1, v5.2.2.2.2) else none) fun (v5 : Int × Int × Int × List (Int × List (Int × Int) × Int × Int) × List (List Int × Bool × Bool × List (Int ×
 Int)) × List (Int × List (Int × Int) × Int × Int) × Int × Int × List (List Int × Bool × Bool × List (Int × Int))) => if (s4.2.2.2.1 == (x.2.1.length : Int)) = true then some (Sum.inr (IntKind.i64.wrap (s4.1 + (1 : Int)), v5.1, v5.2.1,
 v5.2.2.1, v5.2.2.2.1, v5.2.2.2.2.1, v5.2.2.2.2.2.1, v5.2.2.2.2.2.2.1, v5.2.2.2.2.2.2.2.1, v5.2.2.2.2.2.2.2.2)) else if (0 : Int) ≤ s4.2.2.2.1 ∧ s4.2.2.2.1 < (x.2.1.length : Int) then Option.bind (D.f55F (s4.2.2.1, List.getD x.2.1 (Int.toNat
 s4.2.2.2.1) (0 : Int), v5.2.2.2.2.2.1, v5.2.2.2.2.2.2.1, v5.2.2.2.2.2.2.2.1, v5.2.2.2.2.2.2.2.2)) fun v6 => some (Sum.inl (IntKind.i64.wrap (s4.1 + (1 : Int)), v5.1, v6.1, IntKind.i64.wrap (s4.2.2.2.1 + (1 : Int)), v5.2.1, v5.2.2.1,
 v5.2.2.2.1, v5.2.2.2.2.1, v6.2.1, v6.2.2.1, v6.2.2.2.1, v6.2.2.2.2)) else none else some (Sum.inr (s4.1, s4.2.1, s4.2.2.2.2.1, s4.2.2.2.2.2.1, s4.2.2.2.2.2.2.1, s4.2.2.2.2.2.2.2.1, s4.2.2.2.2.2.2.2.2.1, s4.2.2.2.2.2.2.2.2.2.1,
 s4.2.2.2.2.2.2.2.2.2.2.1, s4.2.2.2.2.2.2.2.2.2.2.2))) ((0 : Int), (-1 : Int), v3.1, x.2.2, v1.2.2.2.2.2.1, v1.2.2.2.2.2.2.1, v1.2.2.2.2.2.2.2.1, v1.2.2.2.2.2.2.2.2, v3.2.2.1, v3.2.2.2.1, v3.2.2.2.2.1, v3.2.2.2.2.2)) fun (v4 : Int × Int ×
 Int × Int × List (Int × List (Int × Int) × Int × Int) × List (List Int × Bool × Bool × List (Int × Int)) × List (Int × List (Int × Int) × Int × Int) × Int × Int × List (List Int × Bool × Bool × List (Int × Int))) => some ((v4.2.2.2.2.2.2.1,
 v4.2.2.2.2.2.2.2.1, List.map (Ty.erD (Ty.st (Ty.pair (Ty.sl (Ty.int IntKind.i64)) (Ty.pair Ty.bool (Ty.osl (Ty.st (Ty.pair (Ty.int IntKind.i64) (Ty.int IntKind.i64)))))))) v4.2.2.2.2.2.2.2.2.2, v4.2.2.2.2.2.2.2.2.1), v4.2.1, v4.1)
theorem D.f29eq : ∀ x, runFn D.C D.f29Γ D.f29sig D.f29ann Go.Proofs.Try.f29 x = D.f29F x := by
  intro x
  kernel_rfl
noncomputable def D.f29con : Con := ⟨29, D.f29sig, D.f29F⟩
theorem D.f29ok : Con.Ok Go.Proofs.Try.prog D.C D.f29con :=
  runFn_ok (Γ := D.f29Γ) (an := D.f29ann) ⟨D.Cok, (List.forall_mem_cons.2 ⟨D.f30ok, (List.forall_mem_cons.2 ⟨D.f52ok, (List.forall_mem_cons.2 ⟨D.f53ok, (List.forall_mem_cons.2 ⟨D.f54ok, (List.forall_mem_cons.2 ⟨D.f55ok, (fun _ h => nomatch h)⟩)⟩)⟩)⟩)⟩), D.mixed⟩ Go.Proofs.Try.func29 rfl rfl (fun x y h => (D.f29eq x).trans h) (by decide)
def D.f31sig : Sig := ⟨⟨[.hole (.st (.pair (.sl (.st (.pair (.int .i64) (.pair (.sl (.st (.pair (.int .i64) (.int .i64)))) (.pair (.int .i64) (.int .i64)))))) (.pair (.int .i64) (.pair (.sl (.st (.pair (.sl (.int .i64)) (.pair .bool (.sl
 (.st (.pair (.int .i64) (.int .i64)))))))) (.int .i64))))), .hole (.sl (.int .i64)), .hole .bool], []⟩, ⟨[.hole (.st (.pair (.sl (.st (.pair (.int .i64) (.pair (.sl (.st (.pair (.int .i64) (.int .i64)))) (.pair (.int .i64) (.int .i64))))))
 (.pair (.int .i64) (.pair (.sl (.st (.pair (.sl (.int .i64)) (.pair .bool (.sl (.st (.pair (.int .i64) (.int .i64)))))))) (.int .i64))))), .hole (.int .i64)], []⟩⟩
noncomputable def D.f31Γ : List Con := [D.f30con, D.f57con, D.f52con, D.f53con]
def D.f31ann : Ann := (.seq .leaf (.seq (.seq (.join [⟨.normal, [(21, .hole .bool)], [.cells [.hole (.sl (.st (.pair (.int .i64) (.pair (.sl (.st (.pair (.int .i64) (.int .i64)))) (.pair (.int .i64) (.int .i64)))))), .hole (.int .i64),
 .hole (.sl (.st (.pair (.sl (.int .i64)) (.pair .bool (.sl (.st (.pair (.int .i64) (.int .i64)))))))), .hole (.int .i64)], .cells [.own 2, .hole (.int .i64), .own 3, .hole (.int .i64)], .arr 72 (.st (.pair (.int .i64) (.pair (.sl (.st
 (.pair (.int .i64) (.int .i64)))) (.pair (.int .i64) (.int .i64))))), .arr 85 (.st (.pair (.sl (.int .i64)) (.pair .bool (.osl (.st (.pair (.int .i64) (.int .i64)))))))]⟩] .leaf) (.cond (.seq .leaf .leaf) .leaf)) (.seq .leaf (.seq .leaf
 (.seq .leaf .leaf)))))
noncomputable def D.f31F : (List (Int × List (Int × Int) × Int × Int) × Int × List (List Int × Bool × List (Int × Int)) × Int) × List Int × Bool → Option ((List (Int × List (Int × Int) × Int × Int) × Int × List (List Int × Bool × List (Int
 × Int)) × Int) × Int) := fun (x : (List (Int × List (Int × Int) × Int × Int) × Int × List (List Int × Bool × List (Int × Int)) × Int) × List Int × Bool) => Option.bind (Option.bind (D.f30F (x.1.1, x.1.2.1, x.1.2.2.1, x.1.2.2.2)) fun v1 =>
 if (!v1) = true then some (true, x.1.1, x.1.2.1, x.1.2.2.1, x.1.2.2.2, (0 : Int), (0 : Int), [], []) else Option.bind (D.f57F (x.2.1, (x.1.1.length : Int))) fun v2 => some (!v2, x.1.1, x.1.2.1, x.1.2.2.1, x.1.2.2.2, (0 : Int), (0 : Int),
 [], [])) fun (v1 : Bool × List (Int × List (Int × Int) × Int × Int) × Int × List (List Int × Bool × List (Int × Int)) × Int × Int × Int × List (Int × List (Int × Int) × Int × Int) × List (List Int × Bool × Bool × List (Int × Int))) => if
 v1.1 = true then some ((v1.2.1, v1.2.2.1, v1.2.2.2.1, v1.2.2.2.2.1), (-1 : Int)) else Option.bind (D.f52F (v1.2.1, v1.2.2.1, v1.2.2.2.1, v1.2.2.2.2.1)) fun v2 => Option.bind (D.f53F (x.2.1, x.2.2, v2.1, v2.2.1, v2.2.2.1, v2.2.2.2)) fun v3
 => some ((v3.2.2.1, v3.2.2.2.1, List.map (Ty.erD (Ty.st (Ty.pair (Ty.sl (Ty.int IntKind.i64)) (Ty.pair Ty.bool (Ty.osl (Ty.st (Ty.pair (Ty.int IntKind.i64) (Ty.int IntKind.i64)))))))) v3.2.2.2.2.2, v3.2.2.2.2.1), v3.1)
theorem D.f31eq : ∀ x, runFn D.C D.f31Γ D.f31sig D.f31ann Go.Proofs.Try.f31 x = D.f31F x := by
  intro x
  kernel_rfl
noncomputable def D.f31con : Con := ⟨31, D.f31sig, D.f31F⟩
theorem D.f31ok : Con.Ok Go.Proofs.Try.prog D.C D.f31con :=
  runFn_ok (Γ := D.f31Γ) (an := D.f31ann) ⟨D.Cok, (List.forall_mem_cons.2 ⟨D.f30ok, (List.forall_mem_cons.2 ⟨D.f57ok, (List.forall_mem_cons.2 ⟨D.f52ok, (List.forall_mem_cons.2 ⟨D.f53ok, (fun _ h => nomatch h)⟩)⟩)⟩)⟩), D.mixed⟩ Go.Proofs.Try.func31 rfl rfl (fun x y h => (D.f31eq x).trans h) (by decide)
def D.f32sig : Sig := ⟨⟨[.hole (.st (.pair (.sl (.st (.pair (.int .i64) (.pair (.sl (.st (.pair (.int .i64) (.int .i64)))) (.pair (.int .i64) (.int .i64)))))) (.pair (.int .i64) (.pair (.sl (.st (.pair (.sl (.int .i64)) (.pair .bool (.sl
 (.st (.pair (.int .i64) (.int .i64)))))))) (.int .i64))))), .hole (.int .i64), .hole (.int .i64)], []⟩, ⟨[.hole (.st (.pair (.sl (.st (.pair (.int .i64) (.pair (.sl (.st (.pair (.int .i64) (.int .i64)))) (.pair (.int .i64) (.int .i64))))))
 (.pair (.int .i64) (.pair (.sl (.st (.pair (.sl (.int .i64)) (.pair .bool (.sl (.st (.pair (.int .i64) (.int .i64)))))))) (.int .i64))))), .hole (.int .i64)], []⟩⟩
noncomputable def D.f32Γ : List Con := [D.f30con, D.f52con, D.f55con]
def D.f32ann : Ann := (.seq .leaf (.seq (.seq (.join [⟨.normal, [(23, .hole .bool)], [.cells [.hole (.sl (.st (.pair (.int .i64) (.pair (.sl (.st (.pair (.int .i64) (.int .i64)))) (.pair (.int .i64) (.int .i64)))))), .hole (.int .i64),
 .hole (.sl (.st (.pair (.sl (.int .i64)) (.pair .bool (.sl (.st (.pair (.int .i64) (.int .i64)))))))), .hole (.int .i64)], .cells [.own 2, .hole (.int .i64), .own 3, .hole (.int .i64)], .arr 72 (.st (.pair (.int .i64) (.pair (.sl (.st
 (.pair (.int .i64) (.int .i64)))) (.pair (.int .i64) (.int .i64))))), .arr 85 (.st (.pair (.sl (.int .i64)) (.pair .bool (.osl (.st (.pair (.int .i64) (.int .i64)))))))]⟩] .leaf) (.cond (.seq .leaf .leaf) .leaf)) (.seq .leaf (.seq .leaf
 (.seq .leaf .leaf)))))
noncomputable def D.f32F : (List (Int × List (Int × Int) × Int × Int) × Int × List (List Int × Bool × List (Int × Int)) × Int) × Int × Int → Option ((List (Int × List (Int × Int) × Int × Int) × Int × List (List Int × Bool × List (Int ×
 Int)) × Int) × Int) := fun (x : (List (Int × List (Int × Int) × Int × Int) × Int × List (List Int × Bool × List (Int × Int)) × Int) × Int × Int) => Option.bind (if decide (x.2.1 < (0 : Int)) = true then some (true, x.1.1, x.1.2.1,
 x.1.2.2.1, x.1.2.2.2, (0 : Int), (0 : Int), [], []) else if decide (x.2.1 ≥ (x.1.2.2.1.length : Int)) = true then some (true, x.1.1, x.1.2.1, x.1.2.2.1, x.1.2.2.2, (0 : Int), (0 : Int), [], []) else Option.bind (D.f30F (x.1.1, x.1.2.1,
 x.1.2.2.1, x.1.2.2.2)) fun v1 => some (!v1, x.1.1, x.1.2.1, x.1.2.2.1, x.1.2.2.2, (0 : Int), (0 : Int), [], [])) fun (v1 : Bool × List (Int × List (Int × Int) × Int × Int) × Int × List (List Int × Bool × List (Int × Int)) × Int × Int × Int
 × List (Int × List (Int × Int) × Int × Int) × List (List Int × Bool × Bool × List (Int × Int))) => if v1.1 = true then some ((v1.2.1, v1.2.2.1, v1.2.2.2.1, v1.2.2.2.2.1), (-1 : Int)) else Option.bind (D.f52F (v1.2.1, v1.2.2.1, v1.2.2.2.1,
 v1.2.2.2.2.1)) fun v2 => Option.bind (D.f55F (x.2.1, x.2.2, v2.1, v2.2.1, v2.2.2.1, v2.2.2.2)) fun v3 => some ((v3.2.1, v3.2.2.1, List.map (Ty.erD (Ty.st (Ty.pair (Ty.sl (Ty.int IntKind.i64)) (Ty.pair Ty.bool (Ty.osl (Ty.st (Ty.pair (Ty.int
 IntKind.i64) (Ty.int IntKind.i64)))))))) v3.2.2.2.2, v3.2.2.2.1), v3.1)
theorem D.f32eq : ∀ x, runFn D.C D.f32Γ D.f32sig D.f32ann Go.Proofs.Try.f32 x = D.f32F x := by
  intro x
  kernel_rfl
noncomputable def D.f32con : Con := ⟨32, D.f32sig, D.f32F⟩
theorem D.f32ok : Con.Ok Go.Proofs.Try.prog D.C D.f32con :=
  runFn_ok (Γ := D.f32Γ) (an := D.f32ann) ⟨D.Cok, (List.forall_mem_cons.2 ⟨D.f30ok, (List.forall_mem_cons.2 ⟨D.f52ok, (List.forall_mem_cons.2 ⟨D.f55ok, (fun _ h => nomatch h)⟩)⟩)⟩), D.mixed⟩ Go.Proofs.Try.func32 rfl rfl (fun x y h => (D.f32eq x).trans h) (by decide)
def D.f92sig : Sig := ⟨⟨[.hole (.sl (.st (.pair (.int .i64) (.int .i64)))), .hole (.sl (.st (.pair (.int .i64) (.int .i64))))], []⟩, ⟨[.hole .bool], []⟩⟩
noncomputable def D.f92Γ : List Con := []
def D.f92ann : Ann := (.seq .leaf (.seq (.seq .leaf (.cond (.seq .leaf .leaf) .leaf)) (.seq (.seq .leaf (.block (.loop ⟨.normal, [(13, .hole (.int .i64))], []⟩ [⟨(.exit 0), [], []⟩, ⟨.ret, [(4, .hole .bool)], []⟩] (.seq .leaf (.seq (.cond
 .leaf .leaf) (.seq (.block (.seq .leaf (.seq .leaf (.cond (.seq .leaf .leaf) .leaf)))) .leaf)))))) (.seq .leaf .leaf))))
noncomputable def D.f92F : List (Int × Int) × List (Int × Int) → Option (Bool) := fun (x : List (Int × Int) × List (Int × Int)) => if ((x.1.length : Int) != (x.2.length : Int)) = true then some false else Option.bind (iter (fun (s1 : Int)
 => if decide (s1 < (x.1.length : Int)) = true then if (0 : Int) ≤ s1 ∧ s1 < (x.1.length : Int) then if (0 : Int) ≤ s1 ∧ s1 < (x.2.length : Int) then if (!Ty.eqb (Ty.st (Ty.pair (Ty.int IntKind.i64) (Ty.int IntKind.i64))) (List.getD x.1
 (Int.toNat s1) ((0 : Int), (0 : Int))) (List.getD x.2 (Int.toNat s1) ((0 : Int), (0 : Int)))) = true then some (Sum.inr (Sum.inr false)) else some (Sum.inl (IntKind.i64.wrap (s1 + (1 : Int)))) else none else none else some (Sum.inr (Sum.inl
 ()))) (0 : Int)) fun v1 => Sum.elim (fun (p2 : PUnit) => some true) (fun (q2 : Bool) => some q2) v1
theorem D.f92eq : ∀ x, runFn D.C D.f92Γ D.f92sig D.f92ann Go.Proofs.Try.f92 x = D.f92F x := by
  intro x
  kernel_rfl
noncomputable def D.f92con : Con := ⟨92, D.f92sig, D.f92F⟩
theorem D.f92ok : Con.Ok Go.Proofs.Try.prog D.C D.f92con :=
  runFn_ok (Γ := D.f92Γ) (an := D.f92ann) ⟨D.Cok, (fun _ h => nomatch h), D.mixed⟩ Go.Proofs.Try.func92 rfl rfl (fun x y h => (D.f92eq x).trans h) (by decide)
def D.f91sig : Sig := ⟨⟨[.hole (.st (.pair (.int .i64) (.pair (.sl (.st (.pair (.int .i64) (.int .i64)))) (.pair (.int .i64) (.int .i64))))), .hole (.st (.pair (.int .i64) (.pair (.sl (.st (.pair (.int .i64) (.int .i64)))) (.pair (.int
 .i64) (.int .i64)))))], []⟩, ⟨[.hole .bool], []⟩⟩
noncomputable def D.f91Γ : List Con := [D.f92con]
def D.f91ann : Ann := (.seq .leaf (.seq .leaf .leaf))
noncomputable def D.f91F : (Int × List (Int × Int) × Int × Int) × Int × List (Int × Int) × Int × Int → Option (Bool) := fun (x : (Int × List (Int × Int) × Int × Int) × Int × List (Int × Int) × Int × Int) => if (x.1.1 == x.2.1) = true then
 if (x.1.2.2.1 == x.2.2.2.1) = true then if (x.1.2.2.2 == x.2.2.2.2) = true then Option.bind (D.f92F (x.1.2.1, x.2.2.1)) fun v1 => some v1 else some false else some false else some false
theorem D.f91eq : ∀ x, runFn D.C D.f91Γ D.f91sig D.f91ann Go.Proofs.Try.f91 x = D.f91F x := by
  intro x
  kernel_rfl
noncomputable def D.f91con : Con := ⟨91, D.f91sig, D.f91F⟩
theorem D.f91ok : Con.Ok Go.Proofs.Try.prog D.C D.f91con :=
  runFn_ok (Γ := D.f91Γ) (an := D.f91ann) ⟨D.Cok, (List.forall_mem_cons.2 ⟨D.f92ok, (fun _ h => nomatch h)⟩), D.mixed⟩ Go.Proofs.Try.func91 rfl rfl (fun x y h => (D.f91eq x).trans h) (by decide)
def D.s9sig : Sig := ⟨⟨[.hole (.sl (.st (.pair (.int .i64) (.pair (.sl (.st (.pair (.int .i64) (.int .i64)))) (.pair (.int .i64) (.int .i64)))))), .hole (.sl (.st (.pair (.int .i64) (.pair (.sl (.st (.pair (.int .i64) (.int .i64)))) (.pair
 (.int .i64) (.int .i64)))))), .fnc 91 0], []⟩, ⟨[.hole .bool], []⟩⟩
noncomputable def D.s9Γ : List Con := [D.f91con]
def D.s9ann : Ann := (.seq .leaf (.seq (.seq .leaf (.cond (.seq .leaf .leaf) .leaf)) (.seq (.seq .leaf (.block (.loop ⟨.normal, [(17, .hole (.int .i64))], []⟩ [⟨(.exit 0), [], []⟩, ⟨.ret, [(6, .hole .bool)], []⟩] (.seq .leaf (.seq (.cond
 .leaf .leaf) (.seq (.block (.seq .leaf (.seq .leaf (.seq .leaf (.cond (.seq .leaf .leaf) .leaf))))) .leaf)))))) (.seq .leaf .leaf))))
noncomputable def D.s9F : List (Int × List (Int × Int) × Int × Int) × List (Int × List (Int × Int) × Int × Int) → Option (Bool) := fun (x : List (Int × List (Int × Int) × Int × Int) × List (Int × List (Int × Int) × Int × Int)) => if
 ((x.1.length : Int) != (x.2.length : Int)) = true then some false else Option.bind (iter (fun (s1 : Int) => if decide (s1 < (x.1.length : Int)) = true then if (0 : Int) ≤ s1 ∧ s1 < (x.1.length : Int) then if (0 : Int) ≤ s1 ∧ s1 <
 (x.2.length : Int) then Option.bind (D.f91F (((List.getD x.1 (Int.toNat s1) ((0 : Int), [], (0 : Int), (0 : Int))).1, (List.getD x.1 (Int.toNat s1) ((0 : Int), [], (0 : Int), (0 : Int))).2.1, (List.getD x.1 (Int.toNat s1) ((0 : Int), [], (0
 : Int), (0 : Int))).2.2.1, (List.getD x.1 (Int.toNat s1) ((0 : Int), [], (0 : Int), (0 : Int))).2.2.2), (List.getD x.2 (Int.toNat s1) ((0 : Int), [], (0 : Int), (0 : Int))).1, (List.getD x.2 (Int.toNat s1) ((0 : Int), [], (0 : Int), (0 :
 Int))).2.1, (List.getD x.2 (Int.toNat s1) ((0 : Int), [], (0 : Int), (0 : Int))).2.2.1, (List.getD x.2 (Int.toNat s1) ((0 : Int), [], (0 : Int), (0 : Int))).2.2.2)) fun v2 => if (!v2) = true then some (Sum.inr (Sum.inr false)) else some
 (Sum.inl (IntKind.i64.wrap (s1 + (1 : Int)))) else none else none else some (Sum.inr (Sum.inl ()))) (0 : Int)) fun v1 => Sum.elim (fun (p2 : PUnit) => some true) (fun (q2 : Bool) => some q2) v1
theorem D.s9eq : ∀ x, runFn D.C D.s9Γ D.s9sig D.s9ann Go.Proofs.Try.f90 x = D.s9F x := by
  intro x
  kernel_rfl
noncomputable def D.s9con : Con := ⟨90, D.s9sig, D.s9F⟩
theorem D.s9ok : Con.Ok Go.Proofs.Try.prog D.C D.s9con :=
  runFn_ok (Γ := D.s9Γ) (an := D.s9ann) ⟨D.Cok, (List.forall_mem_cons.2 ⟨D.f91ok, (fun _ h => nomatch h)⟩), D.mixed⟩ Go.Proofs.Try.func90 rfl rfl (fun x y h => (D.s9eq x).trans h) (by decide)
def D.f58sig : Sig := ⟨⟨[.hole (.sl (.st (.pair (.int .i64) (.pair (.sl (.st (.pair (.int .i64) (.int .i64)))) (.pair (.int .i64) (.int .i64)))))), .hole (.sl (.st (.pair (.int .i64) (.pair (.sl (.st (.pair (.int .i64) (.int .i64)))) (.pair
 (.int .i64) (.int .i64))))))], []⟩, ⟨[.hole .bool], []⟩⟩
noncomputable def D.f58Γ : List Con := [D.s9con, D.f91con]
def D.f58ann : Ann := (.seq .leaf (.seq .leaf .leaf))
noncomputable def D.f58F : List (Int × List (Int × Int) × Int × Int) × List (Int × List (Int × Int) × Int × Int) → Option (Bool) := fun (x : List (Int × List (Int × Int) × Int × Int) × List (Int × List (Int × Int) × Int × Int)) =>
 Option.bind (D.s9F (x.1, x.2)) fun v1 => some v1
theorem D.f58eq : ∀ x, runFn D.C D.f58Γ D.f58sig D.f58ann Go.Proofs.Try.f58 x = D.f58F x := by
  intro x
  kernel_rfl
noncomputable def D.f58con : Con := ⟨58, D.f58sig, D.f58F⟩
theorem D.f58ok : Con.Ok Go.Proofs.Try.prog D.C D.f58con :=
  runFn_ok (Γ := D.f58Γ) (an := D.f58ann) ⟨D.Cok, (List.forall_mem_cons.2 ⟨D.s9ok, (List.forall_mem_cons.2 ⟨D.f91ok, (fun _ h => nomatch h)⟩)⟩), D.mixed⟩ Go.Proofs.Try.func58 rfl rfl (fun x y h => (D.f58eq x).trans h) (by decide)
def D.f62sig : Sig := ⟨⟨[.hole (.sl (.st (.pair (.int .i64) (.int .i64)))), .hole (.sl (.st (.pair (.int .i64) (.int .i64))))], []⟩, ⟨[.hole .bool], []⟩⟩
noncomputable def D.f62Γ : List Con := []
def D.f62ann : Ann := (.seq .leaf (.seq (.seq .leaf (.cond (.seq .leaf .leaf) .leaf)) (.seq (.seq .leaf (.block (.loop ⟨.normal, [(13, .hole (.int .i64))], []⟩ [⟨(.exit 0), [], []⟩, ⟨.ret, [(4, .hole .bool)], []⟩] (.seq .leaf (.seq (.cond
 .leaf .leaf) (.seq (.block (.seq .leaf (.seq .leaf (.cond (.seq .leaf .leaf) .leaf)))) .leaf)))))) (.seq .leaf .leaf))))
noncomputable def D.f62F : List (Int × Int) × List (Int × Int) → Option (Bool) := fun (x : List (Int × Int) × List (Int × Int)) => if ((x.1.length : Int) != (x.2.length : Int)) = true then some false else Option.bind (iter (fun (s1 : Int)
 => if decide (s1 < (x.1.length : Int)) = true then if (0 : Int) ≤ s1 ∧ s1 < (x.1.length : Int) then if (0 : Int) ≤ s1 ∧ s1 < (x.2.length : Int) then if (!Ty.eqb (Ty.st (Ty.pair (Ty.int IntKind.i64) (Ty.int IntKind.i64))) (List.getD x.1
 (Int.toNat s1) ((0 : Int), (0 : Int))) (List.getD x.2 (Int.toNat s1) ((0 : Int), (0 : Int)))) = true then some (Sum.inr (Sum.inr false)) else some (Sum.inl (IntKind.i64.wrap (s1 + (1 : Int)))) else none else none else some (Sum.inr (Sum.inl
 ()))) (0 : Int)) fun v1 => Sum.elim (fun (p2 : PUnit) => some true) (fun (q2 : Bool) => some q2) v1
theorem D.f62eq : ∀ x, runFn D.C D.f62Γ D.f62sig D.f62ann Go.Proofs.Try.f62 x = D.f62F x := by
  intro x
  kernel_rfl
noncomputable def D.f62con : Con := ⟨62, D.f62sig, D.f62F⟩
theorem D.f62ok : Con.Ok Go.Proofs.Try.prog D.C D.f62con :=
  runFn_ok (Γ := D.f62Γ) (an := D.f62ann) ⟨D.Cok, (fun _ h => nomatch h), D.mixed⟩ Go.Proofs.Try.func62 rfl rfl (fun x y h => (D.f62eq x).trans h) (by decide)
def D.f60sig : Sig := ⟨⟨[.hole (.st (.pair (.sl (.int .i64)) (.pair .bool (.sl (.st (.pair (.int .i64) (.int .i64))))))), .hole (.st (.pair (.sl (.int .i64)) (.pair .bool (.sl (.st (.pair (.int .i64) (.int .i64)))))))], []⟩, ⟨[.hole .bool],
 []⟩⟩
noncomputable def D.f60Γ : List Con := [D.f61con, D.f62con]
def D.f60ann : Ann := (.seq .leaf (.seq .leaf .leaf))
noncomputable def D.f60F : (List Int × Bool × List (Int × Int)) × List Int × Bool × List (Int × Int) → Option (Bool) := fun (x : (List Int × Bool × List (Int × Int)) × List Int × Bool × List (Int × Int)) => if (x.1.2.1 == x.2.2.1) = true
 then Option.bind (D.f61F (x.1.1, x.2.1)) fun v1 => if v1 = true then Option.bind (D.f62F (x.1.2.2, x.2.2.2)) fun v2 => some v2 else some false else some false
theorem D.f60eq : ∀ x, runFn D.C D.f60Γ D.f60sig D.f60ann Go.Proofs.Try.f60 x = D.f60F x := by
  intro x
  kernel_rfl
noncomputable def D.f60con : Con := ⟨60, D.f60sig, D.f60F⟩
theorem D.f60ok : Con.Ok Go.Proofs.Try.prog D.C D.f60con :=
  runFn_ok (Γ := D.f60Γ) (an := D.f60ann) ⟨D.Cok, (List.forall_mem_cons.2 ⟨D.f61ok, (List.forall_mem_cons.2 ⟨D.f62ok, (fun _ h => nomatch h)⟩)⟩), D.mixed⟩ Go.Proofs.Try.func60 rfl rfl (fun x y h => (D.f60eq x).trans h) (by decide)
def D.s8sig : Sig := ⟨⟨[.hole (.sl (.st (.pair (.sl (.int .i64)) (.pair .bool (.sl (.st (.pair (.int .i64) (.int .i64)))))))), .hole (.sl (.st (.pair (.sl (.int .i64)) (.pair .bool (.sl (.st (.pair (.int .i64) (.int .i64)))))))), .fnc 60
 0], []⟩, ⟨[.hole .bool], []⟩⟩
noncomputable def D.s8Γ : List Con := [D.f60con]
def D.s8ann : Ann := (.seq .leaf (.seq (.seq .leaf (.cond (.seq .leaf .leaf) .leaf)) (.seq (.seq .leaf (.block (.loop ⟨.normal, [(17, .hole (.int .i64))], []⟩ [⟨(.exit 0), [], []⟩, ⟨.ret, [(6, .hole .bool)], []⟩] (.seq .leaf (.seq (.cond
 .leaf .leaf) (.seq (.block (.seq .leaf (.seq .leaf (.seq .leaf (.cond (.seq .leaf .leaf) .leaf))))) .leaf)))))) (.seq .leaf .leaf))))
noncomputable def D.s8F : List (List Int × Bool × List (Int × Int)) × List (List Int × Bool × List (Int × Int)) → Option (Bool) := fun (x : List (List Int × Bool × List (Int × Int)) × List (List Int × Bool × List (Int × Int))) => if
 ((x.1.length : Int) != (x.2.length : Int)) = true then some false else Option.bind (iter (fun (s1 : Int) => if decide (s1 < (x.1.length : Int)) = true then if (0 : Int) ≤ s1 ∧ s1 < (x.1.length : Int) then if (0 : Int) ≤ s1 ∧ s1 <
 (x.2.length : Int) then Option.bind (D.f60F (((List.getD x.1 (Int.toNat s1) ([], false, [])).1, (List.getD x.1 (Int.toNat s1) ([], false, [])).2.1, (List.getD x.1 (Int.toNat s1) ([], false, [])).2.2), (List.getD x.2 (Int.toNat s1) ([],
 false, [])).1, (List.getD x.2 (Int.toNat s1) ([], false, [])).2.1, (List.getD x.2 (Int.toNat s1) ([], false, [])).2.2)) fun v2 => if (!v2) = true then some (Sum.inr (Sum.inr false)) else some (Sum.inl (IntKind.i64.wrap (s1 + (1 : Int))))
 else none else none else some (Sum.inr (Sum.inl ()))) (0 : Int)) fun v1 => Sum.elim (fun (p2 : PUnit) => some true) (fun (q2 : Bool) => some q2) v1
theorem D.s8eq : ∀ x, runFn D.C D.s8Γ D.s8sig D.s8ann Go.Proofs.Try.f59 x = D.s8F x := by
  intro x
  kernel_rfl
noncomputable def D.s8con : Con := ⟨59, D.s8sig, D.s8F⟩
theorem D.s8ok : Con.Ok Go.Proofs.Try.prog D.C D.s8con :=
  runFn_ok (Γ := D.s8Γ) (an := D.s8ann) ⟨D.Cok, (List.forall_mem_cons.2 ⟨D.f60ok, (fun _ h => nomatch h)⟩), D.mixed⟩ Go.Proofs.Try.func59 rfl rfl (fun x y h => (D.s8eq x).trans h) (by decide)
def D.f33sig : Sig := ⟨⟨[.hole (.st (.pair (.sl (.st (.pair (.int .i64) (.pair (.sl (.st (.pair (.int .i64) (.int .i64)))) (.pair (.int .i64) (.int .i64)))))) (.pair (.int .i64) (.pair (.sl (.st (.pair (.sl (.int .i64)) (.pair .bool (.sl
 (.st (.pair (.int .i64) (.int .i64)))))))) (.int .i64))))), .hole (.st (.pair (.sl (.st (.pair (.int .i64) (.pair (.sl (.st (.pair (.int .i64) (.int .i64)))) (.pair (.int .i64) (.int .i64)))))) (.pair (.int .i64) (.pair (.sl (.st (.pair
 (.sl (.int .i64)) (.pair .bool (.sl (.st (.pair (.int .i64) (.int .i64)))))))) (.int .i64)))))], []⟩, ⟨[.hole .bool], []⟩⟩
noncomputable def D.f33Γ : List Con := [D.f58con, D.s8con, D.f60con]
def D.f33ann : Ann := (.seq .leaf (.seq .leaf .leaf))
noncomputable def D.f33F : (List (Int × List (Int × Int) × Int × Int) × Int × List (List Int × Bool × List (Int × Int)) × Int) × List (Int × List (Int × Int) × Int × Int) × Int × List (List Int × Bool × List (Int × Int)) × Int → Option
 (Bool) := fun (x : (List (Int × List (Int × Int) × Int × Int) × Int × List (List Int × Bool × List (Int × Int)) × Int) × List (Int × List (Int × Int) × Int × Int) × Int × List (List Int × Bool × List (Int × Int)) × Int) => if (x.1.2.1 ==
 x.2.2.1) = true then if (x.1.2.2.2 == x.2.2.2.2) = true then Option.bind (D.f58F (x.1.1, x.2.1)) fun v1 => if v1 = true then Option.bind (D.s8F (x.1.2.2.1, x.2.2.2.1)) fun v2 => some v2 else some false else some false else some false
theorem D.f33eq : ∀ x, runFn D.C D.f33Γ D.f33sig D.f33ann Go.Proofs.Try.f33 x = D.f33F x := by
  intro x
  kernel_rfl
noncomputable def D.f33con : Con := ⟨33, D.f33sig, D.f33F⟩
theorem D.f33ok : Con.Ok Go.Proofs.Try.prog D.C D.f33con :=
  runFn_ok (Γ := D.f33Γ) (an := D.f33ann) ⟨D.Cok, (List.forall_mem_cons.2 ⟨D.f58ok, (List.forall_mem_cons.2 ⟨D.s8ok, (List.forall_mem_cons.2 ⟨D.f60ok, (fun _ h => nomatch h)⟩)⟩)⟩), D.mixed⟩ Go.Proofs.Try.func33 rfl rfl (fun x y h => (D.f33eq x).trans h) (by decide)
def D.f27sig : Sig := ⟨⟨[], []⟩, ⟨[.hole .bool], []⟩⟩
noncomputable def D.f27Γ : List Con := [D.f28con, D.f29con, D.f31con, D.f32con, D.f33con, D.f30con]
def D.f27ann : Ann := (.seq .leaf (.seq .leaf (.seq .leaf (.seq .leaf (.seq .leaf (.seq .leaf (.seq (.seq (.join [⟨.normal, [(67, .hole .bool)], [.gone, .gone, .gone, .gone, .gone, .gone, .cells [.hole (.sl (.st (.pair (.int .i64) (.pair
 (.sl (.st (.pair (.int .i64) (.int .i64)))) (.pair (.int .i64) (.int .i64)))))), .hole (.int .i64), .hole (.sl (.st (.pair (.sl (.int .i64)) (.pair .bool (.sl (.st (.pair (.int .i64) (.int .i64)))))))), .hole (.int .i64)]]⟩] .leaf) (.cond
 (.seq .leaf .leaf) .leaf)) (.seq .leaf (.seq .leaf (.seq .leaf .leaf))))))))))
noncomputable def D.f27F : PUnit → Option (Bool) := fun (x : PUnit) => Option.bind (D.f28F ([((2 : Int), [], (1 : Int), (3 : Int)), ((1 : Int), [((97 : Int), (97 : Int))], (0 : Int), (0 : Int)), ((3 : Int), [], (0 : Int), (0 : Int)), ((0 :
 Int), [], (0 : Int), (0 : Int))], (2 : Int))) fun v1 => Option.bind (D.f28F ([((2 : Int), [], (1 : Int), (3 : Int)), ((1 : Int), [((97 : Int), (97 : Int))], (0 : Int), (0 : Int)), ((3 : Int), [], (0 : Int), (0 : Int)), ((0 : Int), [], (0 :
 Int), (0 : Int))], (1 : Int))) fun v2 => Option.bind (D.f29F ((v1.1.1, v1.1.2.1, v1.1.2.2.1, v1.1.2.2.2), [(97 : Int), (97 : Int), (98 : Int)], (0 : Int))) fun v3 => Option.bind (if (v1.2 != (0 : Int)) = true then some (true, v3.1.1,
 v3.1.2.1, v3.1.2.2.1, v3.1.2.2.2) else if (v2.2 != (13 : Int)) = true then some (true, v3.1.1, v3.1.2.1, v3.1.2.2.1, v3.1.2.2.2) else if (v3.2.1 != (2 : Int)) = true then some (true, v3.1.1, v3.1.2.1, v3.1.2.2.1, v3.1.2.2.2) else if (v3.2.2
 != (3 : Int)) = true then some (true, v3.1.1, v3.1.2.1, v3.1.2.2.1, v3.1.2.2.2) else if ((v3.1.2.2.1.length : Int) != (2 : Int)) = true then some (true, v3.1.1, v3.1.2.1, v3.1.2.2.1, v3.1.2.2.2) else if (0 : Int) ≤ (1 : Int) ∧ (1 : Int) <
 (v3.1.2.2.1.length : Int) then some ((↑(List.length (List.getD v3.1.2.2.1 (Int.toNat (1 : Int)) ([], false, [])).2.2) : Int) != (2 : Int), v3.1.1, v3.1.2.1, v3.1.2.2.1, v3.1.2.2.2) else none) fun (v4 : Bool × List (Int × List (Int × Int) ×
 Int × Int) × Int × List (List Int × Bool × List (Int × Int)) × Int) => if v4.1 = true then some false else Option.bind (D.f31F ((v4.2.1, v4.2.2.1, v4.2.2.2.1, v4.2.2.2.2), [(1 : Int)], false)) fun v5 => Option.bind (D.f32F ((v4.2.1,
 v4.2.2.1, v4.2.2.2.1, v4.2.2.2.2), (1 : Int), (97 : Int))) fun v6 => if (0 : Int) ≤ (0 : Int) ∧ (0 : Int) < (v4.2.2.2.1.length : Int) then if (List.getD v4.2.2.2.1 (Int.toNat (0 : Int)) ([], false, [])).2.1 = true then if (0 : Int) ≤ (1 :
 Int) ∧ (1 : Int) < (v4.2.2.2.1.length : Int) then if (0 : Int) ≤ (1 : Int) ∧ (1 : Int) < (↑(List.length (List.getD v4.2.2.2.1 (Int.toNat (1 : Int)) ([], false, [])).2.2) : Int) then if Ty.eqb (Ty.st (Ty.pair (Ty.int IntKind.i64) (Ty.int
 IntKind.i64))) (List.getD (List.getD v4.2.2.2.1 (Int.toNat (1 : Int)) ([], false, [])).2.2 (Int.toNat (1 : Int)) ((0 : Int), (0 : Int))) ((98 : Int), (-1 : Int)) = true then if (v5.1.2.2.2 == (1 : Int)) = true then if (v5.2 == (0 : Int)) =
 true then if ((v5.1.2.2.1.length : Int) == (1 : Int)) = true then if (v6.2 == (1 : Int)) = true then Option.bind (D.f33F ((v6.1.1, v6.1.2.1, v6.1.2.2.1, v6.1.2.2.2), v4.2.1, v4.2.2.1, v4.2.2.2.1, v4.2.2.2.2)) fun v7 => if v7 = true then
 Option.bind (D.f30F (v4.2.1, v4.2.2.1, v4.2.2.2.1, v4.2.2.2.2)) fun v8 => some v8 else some false else some false else some false else some false else some false else some false else none else none else some false else none
theorem D.f27eq : ∀ x, runFn D.C D.f27Γ D.f27sig D.f27ann Go.Proofs.Try.f27 x = D.f27F x := by
  intro x
  kernel_rfl
noncomputable def D.f27con : Con := ⟨27, D.f27sig, D.f27F⟩
theorem D.f27ok : Con.Ok Go.Proofs.Try.prog D.C D.f27con :=
  runFn_ok (Γ := D.f27Γ) (an := D.f27ann) ⟨D.Cok, (List.forall_mem_cons.2 ⟨D.f28ok, (List.forall_mem_cons.2 ⟨D.f29ok, (List.forall_mem_cons.2 ⟨D.f31ok, (List.forall_mem_cons.2 ⟨D.f32ok, (List.forall_mem_cons.2 ⟨D.f33ok, (List.forall_mem_cons.2 ⟨D.f30ok, (fun _ h => nomatch h)⟩)⟩)⟩)⟩)⟩)⟩), D.mixed⟩ Go.Proofs.Try.func27 rfl rfl (fun x y h => (D.f27eq x).trans h) (by decide)
def D.f15sig : Sig := ⟨⟨[.hole (.sl (.st (.pair (.int .i64) (.pair (.sl (.st (.pair (.int .i64) (.int .i64)))) (.pair (.int .i64) (.int .i64))))))], []⟩, ⟨[.hole .bool], []⟩⟩
noncomputable def D.f15Γ : List Con := []
def D.f15ann : Ann := (.seq .leaf (.seq .leaf (.seq (.seq .leaf (.block (.loop ⟨.normal, [(3, .hole (.int .i64)), (4, .hole (.int .i64))], []⟩ [⟨(.exit 0), [(3, .hole (.int .i64))], []⟩] (.seq (.seq (.join [⟨.normal, [(14, .hole .bool)],
 []⟩] .leaf) (.cond .leaf .leaf)) (.seq (.block .leaf) .leaf))))) (.seq .leaf .leaf))))
noncomputable def D.f15F : List (Int × List (Int × Int) × Int × Int) → Option (Bool) := fun (x : List (Int × List (Int × Int) × Int × Int)) => Option.bind (iter (fun (s1 : Int × Int) => Option.bind (if decide (s1.2 < (x.length : Int)) =
 true then some (decide (s1.1 ≤ (1000 : Int))) else some false) fun v2 => if v2 = true then if (0 : Int) ≤ s1.2 ∧ s1.2 < (x.length : Int) then some (Sum.inl (IntKind.i64.wrap (s1.1 + (↑(List.length (List.getD x (Int.toNat s1.2) ((0 : Int),
 [], (0 : Int), (0 : Int))).2.1) : Int)), IntKind.i64.wrap (s1.2 + (1 : Int)))) else none else some (Sum.inr s1.1)) ((x.length : Int), (0 : Int))) fun v1 => some (decide (v1 > (1000 : Int)))
theorem D.f15eq : ∀ x, runFn D.C D.f15Γ D.f15sig D.f15ann Go.Proofs.Try.f15 x = D.f15F x := by
  intro x
  kernel_rfl
noncomputable def D.f15con : Con := ⟨15, D.f15sig, D.f15F⟩
theorem D.f15ok : Con.Ok Go.Proofs.Try.prog D.C D.f15con :=
  runFn_ok (Γ := D.f15Γ) (an := D.f15ann) ⟨D.Cok, (fun _ h => nomatch h), D.mixed⟩ Go.Proofs.Try.func15 rfl rfl (fun x y h => (D.f15eq x).trans h) (by decide)
noncomputable def D.f46F : List (Int × List (Int × Int) × Int × Int) × List Int × Int → Option (List Int) := fun (x : List (Int × List (Int × Int) × Int × Int) × List Int × Int) => Option.bind (iter (fun (s1 : Int × List Int) => if decide
 (s1.1 < (x.2.1.length : Int)) = true then if (0 : Int) ≤ s1.1 ∧ s1.1 < (x.2.1.length : Int) then Option.bind (if decide (List.getD x.2.1 (Int.toNat s1.1) (0 : Int) ≥ (0 : Int)) = true then if decide (List.getD x.2.1 (Int.toNat s1.1) (0 :
 Int) < (x.1.length : Int)) = true then if (0 : Int) ≤ List.getD x.2.1 (Int.toNat s1.1) (0 : Int) ∧ List.getD x.2.1 (Int.toNat s1.1) (0 : Int) < (x.1.length : Int) then if ((List.getD x.1 (Int.toNat (List.getD x.2.1 (Int.toNat s1.1) (0 :
 Int))) ((0 : Int), [], (0 : Int), (0 : Int))).1 == (1 : Int)) = true then if (0 : Int) ≤ List.getD x.2.1 (Int.toNat s1.1) (0 : Int) ∧ List.getD x.2.1 (Int.toNat s1.1) (0 : Int) < (x.1.length : Int) then Option.bind (D.f73F ((List.getD x.1
 (Int.toNat (List.getD x.2.1 (Int.toNat s1.1) (0 : Int))) ((0 : Int), [], (0 : Int), (0 : Int))).2.1, x.2.2)) fun v2 => some (v2, s1.2) else none else some (false, s1.2) else none else some (false, s1.2) else some (false, s1.2)) fun (v2 :
 Bool × List Int) => if v2.1 = true then if roomOk (List.length v2.2 + (1 : Nat)) (8 : Nat) then some (Sum.inl (IntKind.i64.wrap (s1.1 + (1 : Int)), v2.2 ++ [IntKind.i64.wrap (List.getD x.2.1 (Int.toNat s1.1) (0 : Int) + (1 : Int))])) else
 none else some (Sum.inl (IntKind.i64.wrap (s1.1 + (1 : Int)), v2.2)) else none else some (Sum.inr s1.2)) ((0 : Int), [])) fun (v1 : List Int) => Option.bind (D.f74F v1) fun v2 => Option.bind (D.f75F v2) fun v3 => some v3
end Go.Sx
