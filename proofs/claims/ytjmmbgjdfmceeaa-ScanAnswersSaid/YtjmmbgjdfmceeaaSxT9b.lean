import Derived.Test.YtjmmbgjdfmceeaaSxT9a
import Derived.KernelRfl
set_option maxRecDepth 100000
set_option maxHeartbeats 0
set_option linter.unusedVariables false
set_option linter.unusedSimpArgs false
namespace Go.Sx
open Go.Proofs
/- (*ductus/dfa.cache).next -/
noncomputable def D.f55F : Int × Int × List (Int × List (Int × Int) × Int × Int) × Int × Int × List (List Int × Bool × Bool × List (Int × Int)) → Option (Int × List (Int × List (Int × Int) × Int × Int) × Int × Int × List (List Int × Bool ×
 Bool × List (Int × Int))) := fun (x : Int × Int × List (Int × List (Int × Int) × Int × Int) × Int × Int × List (List Int × Bool × Bool × List (Int × Int))) => if (0 : Int) ≤ x.1 ∧ x.1 < (x.2.2.2.2.2.length : Int) then Option.bind (D.s11F
 ((List.getD x.2.2.2.2.2 (Int.toNat x.1) ([], false, false, [])).2.2.2, x.2.1)) fun v1 => if decide (v1.1 ≥ (0 : Int)) = true then if (0 : Int) ≤ v1.1 ∧ v1.1 < (↑(List.length (Ty.erD (Ty.st (Ty.pair (Ty.sl (Ty.int IntKind.i64)) (Ty.pair
 Ty.bool (Ty.osl (Ty.st (Ty.pair (Ty.int IntKind.i64) (Ty.int IntKind.i64))))))) (List.getD x.2.2.2.2.2 (Int.toNat x.1) ([], false, false, []))).2.2) : Int) then some ((List.getD (Ty.erD (Ty.st (Ty.pair (Ty.sl (Ty.int IntKind.i64)) (Ty.pair
 Ty.bool (Ty.osl (Ty.st (Ty.pair (Ty.int IntKind.i64) (Ty.int IntKind.i64))))))) (List.getD x.2.2.2.2.2 (Int.toNat x.1) ([], false, false, []))).2.2 (Int.toNat v1.1) ((0 : Int), (0 : Int))).2, x.2.2.1, x.2.2.2.1, x.2.2.2.2.1, x.2.2.2.2.2)
 else none else Option.bind (Option.bind (D.f87F ((x.2.2.1, x.2.2.2.1, List.map (Ty.erD (Ty.st (Ty.pair (Ty.sl (Ty.int IntKind.i64)) (Ty.pair Ty.bool (Ty.osl (Ty.st (Ty.pair (Ty.int IntKind.i64) (Ty.int IntKind.i64)))))))) x.2.2.2.2.2,
 x.2.2.2.2.1), ((List.getD x.2.2.2.2.2 (Int.toNat x.1) ([], false, false, [])).1, (List.getD x.2.2.2.2.2 (Int.toNat x.1) ([], false, false, [])).2.1, (List.getD x.2.2.2.2.2 (Int.toNat x.1) ([], false, false, [])).2.2.2), v1.2)) fun v2 => if
 decide ((v2.length : Int) > (0 : Int)) = true then Option.bind (D.f53F (v2, false, x.2.2.1, x.2.2.2.1, x.2.2.2.2.1, x.2.2.2.2.2)) fun v3 => some (v3.1, v3.2.1, v3.2.2.1, v3.2.2.2.1, v3.2.2.2.2.1, v1.2, v3.2.2.2.2.2) else some ((-1 : Int),
 false, x.2.2.1, x.2.2.2.1, x.2.2.2.2.1, v1.2, x.2.2.2.2.2)) fun (v2 : Int × Bool × List (Int × List (Int × Int) × Int × Int) × Int × Int × Int × List (List Int × Bool × Bool × List (Int × Int))) => if (!v2.2.1) = true then if (0 : Int) ≤
 x.1 ∧ x.1 < (v2.2.2.2.2.2.2.length : Int) then if ownedP (List.getD v2.2.2.2.2.2.2 (Int.toNat x.1) ([], false, false, [])).2.2.1 then if roomOk (List.length (List.getD v2.2.2.2.2.2.2 (Int.toNat x.1) ([], false, false, [])).2.2.2 + (1 :
 Nat)) (16 : Nat) then some (v2.1, v2.2.2.1, v2.2.2.2.1, v2.2.2.2.2.1, List.set (List.set v2.2.2.2.2.2.2 (Int.toNat x.1) ((List.getD v2.2.2.2.2.2.2 (Int.toNat x.1) ([], false, false, [])).1, (List.getD v2.2.2.2.2.2.2 (Int.toNat x.1) ([],
 false, false, [])).2.1, false, (List.getD v2.2.2.2.2.2.2 (Int.toNat x.1) ([], false, false, [])).2.2.2)) (Int.toNat x.1) ((List.getD (List.set v2.2.2.2.2.2.2 (Int.toNat x.1) ((List.getD v2.2.2.2.2.2.2 (Int.toNat x.1) ([], false, false,
 [])).1, (List.getD v2.2.2.2.2.2.2 (Int.toNat x.1) ([], false, false, [])).2.1, false, (List.getD v2.2.2.2.2.2.2 (Int.toNat x.1) ([], false, false, [])).2.2.2)) (Int.toNat x.1) ([], false, false, [])).1, (List.getD (List.set v2.2.2.2.2.2.2
 (Int.toNat x.1) ((List.getD v2.2.2.2.2.2.2 (Int.toNat x.1) ([], false, false, [])).1, (List.getD v2.2.2.2.2.2.2 (Int.toNat x.1) ([], false, false, [])).2.1, false, (List.getD v2.2.2.2.2.2.2 (Int.toNat x.1) ([], false, false, [])).2.2.2))
 (Int.toNat x.1) ([], false, false, [])).2.1, true, (List.getD v2.2.2.2.2.2.2 (Int.toNat x.1) ([], false, false, [])).2.2.2 ++ [(v2.2.2.2.2.2.1, v2.1)])) else none else none else none else some (v2.1, v2.2.2.1, v2.2.2.2.1, v2.2.2.2.2.1,
 v2.2.2.2.2.2.2) else none
theorem D.f55eq : ∀ x, runFn D.C D.f55Γ D.f55sig D.f55ann Go.Proofs.Try.f55 x = D.f55F x := by
  intro x
  kernel_rfl
noncomputable def D.f55con : Con := ⟨55, D.f55sig, D.f55F⟩
theorem D.f55ok : Con.Ok Go.Proofs.Try.prog D.C D.f55con :=
  runFn_ok (Γ := D.f55Γ) (an := D.f55ann) ⟨D.Cok, (mC D.s11ok (mC D.f87ok (mC D.f53ok mN))), D.mixed⟩ Go.Proofs.Try.func55 rfl rfl (fun x y h => (D.f55eq x).trans h) (by decide)
def D.f29sig : Sig := ⟨⟨[.hole (.st (.pair (.sl D.tI) (.pair (.int .i64) (.pair (.sl D.tS) (.int .i64))))), D.hL, D.hI], []⟩, ⟨[.hole (.st (.pair (.sl D.tI) (.pair (.int .i64) (.pair (.sl D.tS) (.int .i64))))), D.hI, D.hI], []⟩⟩
noncomputable def D.f29Γ : List Con := [D.f30con, D.f52con, D.f53con, D.f54con, D.f55con]
def D.f29ann : Ann := (.seq .leaf (.seq (.seq (.join [⟨.normal, [(25, D.hB)], [.cells [D.hP, D.hI, .hole (.sl D.tS), D.hI], .cells [.own 2, D.hI, .own 3, D.hI], .arr 72 D.tI, .arr 85 D.tO]⟩] .leaf) (.cond (.seq .leaf .leaf) .leaf)) (.seq
 .leaf (.seq .leaf (.seq .leaf (.seq (.seq .leaf (.block (.loop ⟨.normal, [(8, D.hI), (7, D.hI), (10, D.hI), (12, D.hI)], [.gone, .cells [.own 2, D.hI, .own 3, D.hI], .arr 72 D.tI, .arr 85 D.tO, .cells [D.hP, D.hI, .own 8, D.hI], .gone,
 .gone, .gone, .arr 85 D.tO]⟩ [⟨(.exit 0), [(8, D.hI), (7, D.hI)], [.gone, .cells [.own 2, D.hI, .own 3, D.hI], .arr 72 D.tI, .arr 85 D.tO, .cells [D.hP, D.hI, .own 8, D.hI], .gone, .gone, .gone, .arr 85 D.tO]⟩] (.seq (.seq .leaf (.cond
 .leaf .leaf)) (.seq (.block (.seq .leaf (.seq (.join [⟨.normal, [(7, D.hI)], [.gone, .cells [.own 2, D.hI, .own 3, D.hI], .arr 72 D.tI, .arr 85 D.tO, .cells [D.hP, D.hI, .own 9, D.hI], .gone, .gone, .gone, .gone, .arr 85 D.tO]⟩] (.seq .leaf
 (.cond .leaf .leaf))) (.seq (.seq .leaf (.cond .leaf .leaf)) .leaf)))) .leaf))))) (.seq .leaf .leaf)))))))
noncomputable def D.f29F : (List (Int × List (Int × Int) × Int × Int) × Int × List (List Int × Bool × List (Int × Int)) × Int) × List Int × Int → Option ((List (Int × List (Int × Int) × Int × Int) × Int × List (List Int × Bool × List (Int ×
 Int)) × Int) × Int × Int) := fun (x : (List (Int × List (Int × Int) × Int × Int) × Int × List (List Int × Bool × List (Int × Int)) × Int) × List Int × Int) => Option.bind (if decide (x.2.2 < (0 : Int)) = true then some (true, x.1.1,
 x.1.2.1, x.1.2.2.1, x.1.2.2.2, (0 : Int), (0 : Int), [], []) else if decide (x.2.2 > (x.2.1.length : Int)) = true then some (true, x.1.1, x.1.2.1, x.1.2.2.1, x.1.2.2.2, (0 : Int), (0 : Int), [], []) else Option.bind (D.f30F (x.1.1, x.1.2.1,
 x.1.2.2.1, x.1.2.2.2)) fun v1 => some (!v1, x.1.1, x.1.2.1, x.1.2.2.1, x.1.2.2.2, (0 : Int), (0 : Int), [], [])) fun (v1 : Bool × List (Int × List (Int × Int) × Int × Int) × Int × List (List Int × Bool × List (Int × Int)) × Int × Int × Int
 × List (Int × List (Int × Int) × Int × Int) × List (List Int × Bool × Bool × List (Int × Int))) => if v1.1 = true then some ((v1.2.1, v1.2.2.1, v1.2.2.2.1, v1.2.2.2.2.1), (-1 : Int), (0 : Int)) else Option.bind (D.f52F (v1.2.1, v1.2.2.1,
 v1.2.2.2.1, v1.2.2.2.2.1)) fun v2 => Option.bind (D.f53F ([(0 : Int)], x.2.2 == (0 : Int), v2.1, v2.2.1, v2.2.2.1, v2.2.2.2)) fun v3 => Option.bind (iter (fun (s4 : Int × Int × Int × Int × Int × Int × List (Int × List (Int × Int) × Int ×
 Int) × List (List Int × Bool × Bool × List (Int × Int)) × List (Int × List (Int × Int) × Int × Int) × Int × Int × List (List Int × Bool × Bool × List (Int × Int))) => if (s4.2.2.1 != (-1 : Int)) = true then Option.bind (if (0 : Int) ≤
 s4.2.2.1 ∧ s4.2.2.1 < (s4.2.2.2.2.2.2.2.2.2.2.2.length : Int) then Option.bind (D.f54F ((Ty.erD (Ty.sl (Ty.int IntKind.i64)) (List.getD s4.2.2.2.2.2.2.2.2.2.2.2 (Int.toNat s4.2.2.1) ([], false, false, [])).1, Ty.erD (Ty.pair Ty.bool (Ty.osl
 (Ty.st (Ty.pair (Ty.int IntKind.i64) (Ty.int IntKind.i64))))) (List.getD s4.2.2.2.2.2.2.2.2.2.2.2 (Int.toNat s4.2.2.1) ([], false, false, [])).2), s4.2.2.2.1 == (x.2.1.length : Int), s4.2.2.2.2.2.2.2.2.1, s4.2.2.2.2.2.2.2.2.2.1,
 s4.2.2.2.2.2.2.2.2.2.2.1, s4.2.2.2.2.2.2.2.2.2.2.2)) fun v5 => if v5.1 = true then some (s4.2.2.2.1, s4.2.2.2.2.1, s4.2.2.2.2.2.1, s4.2.2.2.2.2.2.1, s4.2.2.2.2.2.2.2.1, v5.2.1, v5.2.2.1, v5.2.2.2.1, v5.2.2.2.2) else some (s4.2.1,
 s4.2.2.2.2.1, s4.2.2.2.2.2.1, s4.2.2.2.2.2.2.1, s4.2.2.2.2.2.2.2.1, v5.2.1, v5.2.2.1, v5.2.2.2.1, v5.2.2.2.2) else none) fun (v5 : Int × Int × Int × List (Int × List (Int × Int) × Int × Int) × List (List Int × Bool × Bool × List (Int ×
 Int)) × List (Int × List (Int × Int) × Int × Int) × Int × Int × List (List Int × Bool × Bool × List (Int × Int))) => if (s4.2.2.2.1 == (x.2.1.length : Int)) = true then some (Sum.inr (IntKind.i64.wrap (s4.1 + (1 : Int)), v5.1, v5.2.1,
 v5.2.2.1, v5.2.2.2.1, v5.2.2.2.2.1, v5.2.2.2.2.2.1, v5.2.2.2.2.2.2.1, v5.2.2.2.2.2.2.2.1, v5.2.2.2.2.2.2.2.2)) else if (0 : Int) ≤ s4.2.2.2.1 ∧ s4.2.2.2.1 < (x.2.1.length : Int) then Option.bind (D.f55F (s4.2.2.1, List.getD x.2.1 (Int.toNat
 s4.2.2.2.1) (0 : Int), v5.2.2.2.2.2.1, v5.2.2.2.2.2.2.1, v5.2.2.2.2.2.2.2.1, v5.2.2.2.2.2.2.2.2)) fun v6 => some (Sum.inl (IntKind.i64.wrap (s4.1 + (1 : Int)), v5.1, v6.1, IntKind.i64.wrap (s4.2.2.2.1 + (1 : Int)), v5.2.1, v5.2.2.1,
 v5.2.2.2.1, v5.2.2.2.2.1, v6.2.1, v6.2.2.1, v6.2.2.2.1, v6.2.2.2.2)) else none else some (Sum.inr (s4.1, s4.2.1, s4.2.2.2.2.1, s4.2.2.2.2.2.1, s4.2.2.2.2.2.2.1, s4.2.2.2.2.2.2.2.1, s4.2.2.2.2.2.2.2.2.1, s4.2.2.2.2.2.2.2.2.2.1,
 s4.2.2.2.2.2.2.2.2.2.2.1, s4.2.2.2.2.2.2.2.2.2.2.2))) ((0 : Int), (-1 : Int), v3.1, x.2.2, v1.2.2.2.2.2.1, v1.2.2.2.2.2.2.1, v1.2.2.2.2.2.2.2.1, v1.2.2.2.2.2.2.2.2, v3.2.2.1, v3.2.2.2.1, v3.2.2.2.2.1, v3.2.2.2.2.2)) fun (v4 : Int × Int ×
 Int × Int × List (Int × List (Int × Int) × Int × Int) × List (List Int × Bool × Bool × List (Int × Int)) × List (Int × List (Int × Int) × Int × Int) × Int × Int × List (List Int × Bool × Bool × List (Int × Int))) => some ((v4.2.2.2.2.2.2.1,
 v4.2.2.2.2.2.2.2.1, List.map (Ty.erD (Ty.st (Ty.pair (Ty.sl (Ty.int IntKind.i64)) (Ty.pair Ty.bool (Ty.osl (Ty.st (Ty.pair (Ty.int IntKind.i64) (Ty.int IntKind.i64)))))))) v4.2.2.2.2.2.2.2.2.2, v4.2.2.2.2.2.2.2.2.1), v4.2.1, v4.1)
theorem D.f29eq : ∀ x, runFn D.C D.f29Γ D.f29sig D.f29ann Go.Proofs.Try.f29 x = D.f29F x := by
  intro x
  kernel_rfl
noncomputable def D.f29con : Con := ⟨29, D.f29sig, D.f29F⟩
theorem D.f29ok : Con.Ok Go.Proofs.Try.prog D.C D.f29con :=
  runFn_ok (Γ := D.f29Γ) (an := D.f29ann) ⟨D.Cok, (mC D.f30ok (mC D.f52ok (mC D.f53ok (mC D.f54ok (mC D.f55ok mN))))), D.mixed⟩ Go.Proofs.Try.func29 rfl rfl (fun x y h => (D.f29eq x).trans h) (by decide)
def D.f15sig : Sig := ⟨⟨[D.hP], []⟩, ⟨[D.hB], []⟩⟩
noncomputable def D.f15Γ : List Con := []
def D.f15ann : Ann := (.seq .leaf (.seq .leaf (.seq (.seq .leaf (.block (.loop ⟨.normal, [(3, D.hI), (4, D.hI)], []⟩ [⟨(.exit 0), [(3, D.hI)], []⟩] (.seq (.seq (.join [⟨.normal, [(14, D.hB)], []⟩] .leaf) (.cond .leaf .leaf)) (.seq (.block
 .leaf) .leaf))))) (.seq .leaf .leaf))))
noncomputable def D.f15F : List (Int × List (Int × Int) × Int × Int) → Option (Bool) := fun (x : List (Int × List (Int × Int) × Int × Int)) => Option.bind (iter (fun (s1 : Int × Int) => Option.bind (if decide (s1.2 < (x.length : Int)) =
 true then some (decide (s1.1 ≤ (1000 : Int))) else some false) fun v2 => if v2 = true then if (0 : Int) ≤ s1.2 ∧ s1.2 < (x.length : Int) then some (Sum.inl (IntKind.i64.wrap (s1.1 + (↑(List.length (List.getD x (Int.toNat s1.2) ((0 : Int),
 [], (0 : Int), (0 : Int))).2.1) : Int)), IntKind.i64.wrap (s1.2 + (1 : Int)))) else none else some (Sum.inr s1.1)) ((x.length : Int), (0 : Int))) fun v1 => some (decide (v1 > (1000 : Int)))
theorem D.f15eq : ∀ x, runFn D.C D.f15Γ D.f15sig D.f15ann Go.Proofs.Try.f15 x = D.f15F x := by
  intro x
  kernel_rfl
noncomputable def D.f15con : Con := ⟨15, D.f15sig, D.f15F⟩
theorem D.f15ok : Con.Ok Go.Proofs.Try.prog D.C D.f15con :=
  runFn_ok (Γ := D.f15Γ) (an := D.f15ann) ⟨D.Cok, mN, D.mixed⟩ Go.Proofs.Try.func15 rfl rfl (fun x y h => (D.f15eq x).trans h) (by decide)
def D.f26sig : Sig := ⟨⟨[D.hP], []⟩, ⟨[D.hB], []⟩⟩
noncomputable def D.f26Γ : List Con := []
def D.f26ann : Ann := (.seq .leaf (.seq (.seq (.join [⟨.normal, [(22, D.hB)], []⟩] .leaf) (.cond (.seq .leaf .leaf) .leaf)) (.seq (.seq .leaf (.block (.loop ⟨.normal, [(3, D.hI)], []⟩ [⟨(.exit 0), [], []⟩, ⟨.ret, [(2, D.hB)], []⟩] (.seq
 (.seq .leaf (.cond .leaf .leaf)) (.seq (.block (.seq .leaf (.seq (.join [⟨.normal, [(79, D.hB)], [.gone]⟩] .leaf) (.cond (.seq .leaf .leaf) .leaf)))) .leaf))))) (.seq .leaf .leaf))))
noncomputable def D.f26F : List (Int × List (Int × Int) × Int × Int) → Option (Bool) := fun (x : List (Int × List (Int × Int) × Int × Int)) => Option.bind (if decide ((x.length : Int) < (1 : Int)) = true then some true else if decide
 ((x.length : Int) > (1000 : Int)) = true then some true else if (0 : Int) ≤ IntKind.i64.wrap ((x.length : Int) - (1 : Int)) ∧ IntKind.i64.wrap ((x.length : Int) - (1 : Int)) < (x.length : Int) then some ((List.getD x (Int.toNat
 (IntKind.i64.wrap ((x.length : Int) - (1 : Int)))) ((0 : Int), [], (0 : Int), (0 : Int))).1 != (0 : Int)) else none) fun v1 => if v1 = true then some false else Option.bind (iter (fun (s2 : Int) => if decide (s2 < (x.length : Int)) = true
 then if (0 : Int) ≤ s2 ∧ s2 < (x.length : Int) then Option.bind (if decide ((List.getD x (Int.toNat s2) ((0 : Int), [], (0 : Int), (0 : Int))).1 < (0 : Int)) = true then some true else if decide ((List.getD x (Int.toNat s2) ((0 : Int), [],
 (0 : Int), (0 : Int))).1 > (5 : Int)) = true then some true else if ((List.getD x (Int.toNat s2) ((0 : Int), [], (0 : Int), (0 : Int))).1 == (2 : Int)) = true then if decide ((List.getD x (Int.toNat s2) ((0 : Int), [], (0 : Int), (0 :
 Int))).2.2.1 < (0 : Int)) = true then some true else if decide ((List.getD x (Int.toNat s2) ((0 : Int), [], (0 : Int), (0 : Int))).2.2.1 ≥ (x.length : Int)) = true then some true else if ((List.getD x (Int.toNat s2) ((0 : Int), [], (0 :
 Int), (0 : Int))).1 == (2 : Int)) = true then if decide ((List.getD x (Int.toNat s2) ((0 : Int), [], (0 : Int), (0 : Int))).2.2.2 < (0 : Int)) = true then some true else some (decide ((List.getD x (Int.toNat s2) ((0 : Int), [], (0 : Int),
 (0 : Int))).2.2.2 ≥ (x.length : Int))) else some false else if ((List.getD x (Int.toNat s2) ((0 : Int), [], (0 : Int), (0 : Int))).1 == (3 : Int)) = true then if decide ((List.getD x (Int.toNat s2) ((0 : Int), [], (0 : Int), (0 :
 Int))).2.2.1 < (0 : Int)) = true then some true else if decide ((List.getD x (Int.toNat s2) ((0 : Int), [], (0 : Int), (0 : Int))).2.2.1 ≥ (x.length : Int)) = true then some true else if ((List.getD x (Int.toNat s2) ((0 : Int), [], (0 :
 Int), (0 : Int))).1 == (2 : Int)) = true then if decide ((List.getD x (Int.toNat s2) ((0 : Int), [], (0 : Int), (0 : Int))).2.2.2 < (0 : Int)) = true then some true else some (decide ((List.getD x (Int.toNat s2) ((0 : Int), [], (0 : Int),
 (0 : Int))).2.2.2 ≥ (x.length : Int))) else some false else if ((List.getD x (Int.toNat s2) ((0 : Int), [], (0 : Int), (0 : Int))).1 == (2 : Int)) = true then if decide ((List.getD x (Int.toNat s2) ((0 : Int), [], (0 : Int), (0 :
 Int))).2.2.2 < (0 : Int)) = true then some true else some (decide ((List.getD x (Int.toNat s2) ((0 : Int), [], (0 : Int), (0 : Int))).2.2.2 ≥ (x.length : Int))) else some false) fun v3 => if v3 = true then some (Sum.inr (Sum.inr false))
 else some (Sum.inl (IntKind.i64.wrap (s2 + (1 : Int)))) else none else some (Sum.inr (Sum.inl ()))) (0 : Int)) fun v2 => Sum.elim (fun (p3 : PUnit) => some true) (fun (q3 : Bool) => some q3) v2
theorem D.f26eq : ∀ x, runFn D.C D.f26Γ D.f26sig D.f26ann Go.Proofs.Try.f26 x = D.f26F x := by
  intro x
  kernel_rfl
noncomputable def D.f26con : Con := ⟨26, D.f26sig, D.f26F⟩
theorem D.f26ok : Con.Ok Go.Proofs.Try.prog D.C D.f26con :=
  runFn_ok (Γ := D.f26Γ) (an := D.f26ann) ⟨D.Cok, mN, D.mixed⟩ Go.Proofs.Try.func26 rfl rfl (fun x y h => (D.f26eq x).trans h) (by decide)
def D.f64sig : Sig := ⟨⟨[.hole D.tP], []⟩, ⟨[D.hI], []⟩⟩
noncomputable def D.f64Γ : List Con := []
def D.f64ann : Ann := (.seq .leaf (.seq .leaf .leaf))
noncomputable def D.f64F : Int × Int → Option (Int) := fun (x : Int × Int) => some (maxI x.2 (IntKind.i64.wrap (x.1 + (1 : Int))))
theorem D.f64eq : ∀ x, runFn D.C D.f64Γ D.f64sig D.f64ann Go.Proofs.Try.f64 x = D.f64F x := by
  intro x
  kernel_rfl
noncomputable def D.f64con : Con := ⟨64, D.f64sig, D.f64F⟩
theorem D.f64ok : Con.Ok Go.Proofs.Try.prog D.C D.f64con :=
  runFn_ok (Γ := D.f64Γ) (an := D.f64ann) ⟨D.Cok, mN, D.mixed⟩ Go.Proofs.Try.func64 rfl rfl (fun x y h => (D.f64eq x).trans h) (by decide)
def D.f36sig : Sig := ⟨⟨[D.hP, D.hL, D.hI], []⟩, ⟨[.hole (.sl D.tP), D.hI, D.hI], []⟩⟩
noncomputable def D.f36Γ : List Con := [D.f28con, D.f29con, D.f64con]
def D.f36ann : Ann := (.seq .leaf (.seq .leaf (.seq (.block (.seq .leaf (.cond (.seq .leaf .leaf) (.seq .leaf (.cond (.seq .leaf .leaf) .leaf))))) (.seq (.seq .leaf (.block (.loop ⟨.normal, [(7, D.hI), (10, D.hI), (6, .own 1)], [.cells
 [D.hP, D.hI, .hole (.sl D.tS), D.hI], .arr 61 D.tP]⟩ [⟨(.exit 1), [(7, D.hI), (6, .own 1)], [.gone, .arr 61 D.tP]⟩] (.seq (.seq .leaf (.cond .leaf .leaf)) (.block (.seq .leaf (.seq .leaf (.seq (.seq .leaf (.cond (.seq .leaf .leaf) .leaf))
 (.seq .leaf (.seq .leaf .leaf)))))))))) (.seq .leaf .leaf)))))
noncomputable def D.f36F : List (Int × List (Int × Int) × Int × Int) × List Int × Int → Option (List (Int × Int) × Int × Int) := fun (x : List (Int × List (Int × Int) × Int × Int) × List Int × Int) => Option.bind (D.f28F (x.1, x.2.2)) fun
 v1 => if (v1.2 != (0 : Int)) = true then some ([], (0 : Int), v1.2) else if decide ((x.2.1.length : Int) > (4000 : Int)) = true then some ([], (0 : Int), (2 : Int)) else Option.bind (iter (fun (s2 : Int × Int × List (Int × List (Int × Int)
 × Int × Int) × Int × List (List Int × Bool × List (Int × Int)) × Int × List (Int × Int)) => if decide (s2.2.1 ≤ (x.2.1.length : Int)) = true then Option.bind (D.f29F ((s2.2.2.1, s2.2.2.2.1, s2.2.2.2.2.1, s2.2.2.2.2.2.1), x.2.1, s2.2.1)) fun
 v3 => if decide (v3.2.1 < (0 : Int)) = true then some (Sum.inl (IntKind.i64.wrap (s2.1 + v3.2.2), IntKind.i64.wrap (s2.2.1 + (1 : Int)), v3.1.1, v3.1.2.1, v3.1.2.2.1, v3.1.2.2.2, s2.2.2.2.2.2.2)) else if roomOk (List.length s2.2.2.2.2.2.2 +
 (1 : Nat)) (16 : Nat) then Option.bind (D.f64F (s2.2.1, v3.2.1)) fun v4 => some (Sum.inl (IntKind.i64.wrap (s2.1 + v3.2.2), v4, v3.1.1, v3.1.2.1, v3.1.2.2.1, v3.1.2.2.2, s2.2.2.2.2.2.2 ++ [(s2.2.1, v3.2.1)])) else none else some (Sum.inr
 (s2.1, s2.2.2.2.2.2.2))) ((0 : Int), (0 : Int), v1.1.1, v1.1.2.1, v1.1.2.2.1, v1.1.2.2.2, [])) fun (v2 : Int × List (Int × Int)) => some (v2.2, v2.1, (0 : Int))
theorem D.f36eq : ∀ x, runFn D.C D.f36Γ D.f36sig D.f36ann Go.Proofs.Try.f36 x = D.f36F x := by
  intro x
  kernel_rfl
noncomputable def D.f36con : Con := ⟨36, D.f36sig, D.f36F⟩
theorem D.f36ok : Con.Ok Go.Proofs.Try.prog D.C D.f36con :=
  runFn_ok (Γ := D.f36Γ) (an := D.f36ann) ⟨D.Cok, (mC D.f28ok (mC D.f29ok (mC D.f64ok mN))), D.mixed⟩ Go.Proofs.Try.func36 rfl rfl (fun x y h => (D.f36eq x).trans h) (by decide)
def D.f44sig : Sig := ⟨⟨[.ro (.st (.pair (.sl D.tI) (.pair .bool (.pair .bool (.pair (.sl .bool) (.int .i64))))))], []⟩, ⟨[D.hL], []⟩⟩
noncomputable def D.f44Γ : List Con := []
def D.f44ann : Ann := (.seq .leaf (.seq .leaf (.seq (.seq .leaf (.block (.loop ⟨.normal, [(3, .own 0), (11, D.hI)], [.arr 3 (.int .i64)]⟩ [⟨(.exit 0), [(3, .own 0)], [.arr 3 (.int .i64)]⟩] (.seq .leaf (.seq (.cond .leaf .leaf) (.seq (.block
 (.seq .leaf (.seq .leaf (.cond .leaf .leaf)))) .leaf)))))) (.seq .leaf .leaf))))
noncomputable def D.f44F : List (Int × List (Int × Int) × Int × Int) × Bool × Bool × List Bool × Int → Option (List Int) := fun (x : List (Int × List (Int × Int) × Int × Int) × Bool × Bool × List Bool × Int) => Option.bind (iter (fun (s1 :
 Int × List Int) => if decide (s1.1 < (x.2.2.2.1.length : Int)) = true then if (0 : Int) ≤ s1.1 ∧ s1.1 < (x.2.2.2.1.length : Int) then if List.getD x.2.2.2.1 (Int.toNat s1.1) false = true then if roomOk (List.length s1.2 + (1 : Nat)) (8 :
 Nat) then some (Sum.inl (IntKind.i64.wrap (s1.1 + (1 : Int)), s1.2 ++ [s1.1])) else none else some (Sum.inl (IntKind.i64.wrap (s1.1 + (1 : Int)), s1.2)) else none else some (Sum.inr s1.2)) ((0 : Int), [])) fun (v1 : List Int) => some v1
theorem D.f44eq : ∀ x, runFn D.C D.f44Γ D.f44sig D.f44ann Go.Proofs.Try.f44 x = D.f44F x := by
  intro x
  kernel_rfl
noncomputable def D.f44con : Con := ⟨44, D.f44sig, D.f44F⟩
theorem D.f44ok : Con.Ok Go.Proofs.Try.prog D.C D.f44con :=
  runFn_ok (Γ := D.f44Γ) (an := D.f44ann) ⟨D.Cok, mN, D.mixed⟩ Go.Proofs.Try.func44 rfl rfl (fun x y h => (D.f44eq x).trans h) (by decide)
def D.f76sig : Sig := ⟨⟨[D.hI, .ptr 0 0], [.cells [D.hP]]⟩, ⟨[D.hB], [.cells [D.hP]]⟩⟩
noncomputable def D.f76Γ : List Con := []
def D.f76ann : Ann := (.seq .leaf (.seq .leaf .leaf))
noncomputable def D.f76F : Int × List (Int × List (Int × Int) × Int × Int) → Option (Bool × List (Int × List (Int × Int) × Int × Int)) := fun (x : Int × List (Int × List (Int × Int) × Int × Int)) => if (0 : Int) ≤ x.1 ∧ x.1 < (x.2.length :
 Int) then some ((List.getD x.2 (Int.toNat x.1) ((0 : Int), [], (0 : Int), (0 : Int))).1 == (0 : Int), x.2) else none
theorem D.f76eq : ∀ x, runFn D.C D.f76Γ D.f76sig D.f76ann Go.Proofs.Try.f76 x = D.f76F x := by
  intro x
  kernel_rfl
noncomputable def D.f76con : Con := ⟨76, D.f76sig, D.f76F⟩
theorem D.f76ok : Con.Ok Go.Proofs.Try.prog D.C D.f76con :=
  runFn_ok (Γ := D.f76Γ) (an := D.f76ann) ⟨D.Cok, mN, D.mixed⟩ Go.Proofs.Try.func76 rfl rfl (fun x y h => (D.f76eq x).trans h) (by decide)
def D.s4sig : Sig := ⟨⟨[D.hL, .fnc 76 1, .ptr 0 0], [.cells [D.hP]]⟩, ⟨[D.hI], [.cells [D.hP]]⟩⟩
noncomputable def D.s4Γ : List Con := [D.f76con]
def D.s4ann : Ann := (.seq .leaf (.seq (.seq .leaf (.block (.loop ⟨.normal, [(8, D.hI)], [.cells [D.hP]]⟩ [⟨(.exit 0), [], [.cells [D.hP]]⟩, ⟨.ret, [(4, D.hI)], [.cells [D.hP]]⟩] (.seq .leaf (.seq (.cond .leaf .leaf) (.seq (.block (.seq
 .leaf (.seq .leaf (.cond (.seq .leaf .leaf) .leaf)))) .leaf)))))) (.seq .leaf .leaf)))
noncomputable def D.s4F : List Int × List (Int × List (Int × Int) × Int × Int) → Option (Int × List (Int × List (Int × Int) × Int × Int)) := fun (x : List Int × List (Int × List (Int × Int) × Int × Int)) => Option.bind (iter (fun (s1 : Int
 × List (Int × List (Int × Int) × Int × Int)) => if decide (s1.1 < (x.1.length : Int)) = true then if (0 : Int) ≤ s1.1 ∧ s1.1 < (x.1.length : Int) then Option.bind (D.f76F (List.getD x.1 (Int.toNat s1.1) (0 : Int), s1.2)) fun v2 => if v2.1 =
 true then some (Sum.inr (Sum.inr (s1.1, v2.2))) else some (Sum.inl (IntKind.i64.wrap (s1.1 + (1 : Int)), v2.2)) else none else some (Sum.inr (Sum.inl s1.2))) ((0 : Int), x.2)) fun (v1 : List (Int × List (Int × Int) × Int × Int) ⊕ Int × List
 (Int × List (Int × Int) × Int × Int)) => Sum.elim (fun (p2 : List (Int × List (Int × Int) × Int × Int)) => some ((-1 : Int), p2)) (fun (q2 : Int × List (Int × List (Int × Int) × Int × Int)) => some (q2.1, q2.2)) v1
theorem D.s4eq : ∀ x, runFn D.C D.s4Γ D.s4sig D.s4ann Go.Proofs.Try.f102 x = D.s4F x := by
  intro x
  kernel_rfl
noncomputable def D.s4con : Con := ⟨102, D.s4sig, D.s4F⟩
theorem D.s4ok : Con.Ok Go.Proofs.Try.prog D.C D.s4con :=
  runFn_ok (Γ := D.s4Γ) (an := D.s4ann) ⟨D.Cok, (mC D.f76ok mN), D.mixed⟩ Go.Proofs.Try.func102 rfl rfl (fun x y h => (D.s4eq x).trans h) (by decide)
def D.s5sig : Sig := ⟨⟨[D.hL, .fnc 76 1, .ptr 0 0], [.cells [D.hP]]⟩, ⟨[D.hB], [.cells [D.hP]]⟩⟩
noncomputable def D.s5Γ : List Con := [D.s4con, D.f76con]
def D.s5ann : Ann := (.seq .leaf (.seq .leaf .leaf))
noncomputable def D.s5F : List Int × List (Int × List (Int × Int) × Int × Int) → Option (Bool × List (Int × List (Int × Int) × Int × Int)) := fun (x : List Int × List (Int × List (Int × Int) × Int × Int)) => Option.bind (D.s4F (x.1, x.2))
 fun v1 => some (decide (v1.1 ≥ (0 : Int)), v1.2)
theorem D.s5eq : ∀ x, runFn D.C D.s5Γ D.s5sig D.s5ann Go.Proofs.Try.f77 x = D.s5F x := by
  intro x
  kernel_rfl
noncomputable def D.s5con : Con := ⟨77, D.s5sig, D.s5F⟩
theorem D.s5ok : Con.Ok Go.Proofs.Try.prog D.C D.s5con :=
  runFn_ok (Γ := D.s5Γ) (an := D.s5ann) ⟨D.Cok, (mC D.s4ok (mC D.f76ok mN)), D.mixed⟩ Go.Proofs.Try.func77 rfl rfl (fun x y h => (D.s5eq x).trans h) (by decide)
def D.f46sig : Sig := ⟨⟨[D.hP, D.hL, D.hI], []⟩, ⟨[D.hL], []⟩⟩
noncomputable def D.f46Γ : List Con := [D.f73con, D.f74con, D.f75con]
def D.f46ann : Ann := (.seq .leaf (.seq .leaf (.seq (.seq .leaf (.block (.loop ⟨.normal, [(7, .own 0), (12, D.hI)], [.arr 3 (.int .i64)]⟩ [⟨(.exit 0), [(7, .own 0)], [.arr 3 (.int .i64)]⟩] (.seq .leaf (.seq (.cond .leaf .leaf) (.seq (.block
 (.seq .leaf (.seq (.join [⟨.normal, [(40, D.hB)], [.arr 3 (.int .i64)]⟩] .leaf) (.cond .leaf .leaf)))) .leaf)))))) (.seq .leaf (.seq .leaf .leaf)))))
noncomputable def D.f46F : List (Int × List (Int × Int) × Int × Int) × List Int × Int → Option (List Int) := fun (x : List (Int × List (Int × Int) × Int × Int) × List Int × Int) => Option.bind (iter (fun (s1 : Int × List Int) => if decide
 (s1.1 < (x.2.1.length : Int)) = true then if (0 : Int) ≤ s1.1 ∧ s1.1 < (x.2.1.length : Int) then Option.bind (if decide (List.getD x.2.1 (Int.toNat s1.1) (0 : Int) ≥ (0 : Int)) = true then if decide (List.getD x.2.1 (Int.toNat s1.1) (0 :
 Int) < (x.1.length : Int)) = true then if (0 : Int) ≤ List.getD x.2.1 (Int.toNat s1.1) (0 : Int) ∧ List.getD x.2.1 (Int.toNat s1.1) (0 : Int) < (x.1.length : Int) then if ((List.getD x.1 (Int.toNat (List.getD x.2.1 (Int.toNat s1.1) (0 :
 Int))) ((0 : Int), [], (0 : Int), (0 : Int))).1 == (1 : Int)) = true then if (0 : Int) ≤ List.getD x.2.1 (Int.toNat s1.1) (0 : Int) ∧ List.getD x.2.1 (Int.toNat s1.1) (0 : Int) < (x.1.length : Int) then Option.bind (D.f73F ((List.getD x.1
 (Int.toNat (List.getD x.2.1 (Int.toNat s1.1) (0 : Int))) ((0 : Int), [], (0 : Int), (0 : Int))).2.1, x.2.2)) fun v2 => some (v2, s1.2) else none else some (false, s1.2) else none else some (false, s1.2) else some (false, s1.2)) fun (v2 :
 Bool × List Int) => if v2.1 = true then if roomOk (List.length v2.2 + (1 : Nat)) (8 : Nat) then some (Sum.inl (IntKind.i64.wrap (s1.1 + (1 : Int)), v2.2 ++ [IntKind.i64.wrap (List.getD x.2.1 (Int.toNat s1.1) (0 : Int) + (1 : Int))])) else
 none else some (Sum.inl (IntKind.i64.wrap (s1.1 + (1 : Int)), v2.2)) else none else some (Sum.inr s1.2)) ((0 : Int), [])) fun (v1 : List Int) => Option.bind (D.f74F v1) fun v2 => Option.bind (D.f75F v2) fun v3 => some v3
theorem D.f46eq : ∀ x, runFn D.C D.f46Γ D.f46sig D.f46ann Go.Proofs.Try.f46 x = D.f46F x := by
  intro x
  kernel_rfl
noncomputable def D.f46con : Con := ⟨46, D.f46sig, D.f46F⟩
theorem D.f46ok : Con.Ok Go.Proofs.Try.prog D.C D.f46con :=
  runFn_ok (Γ := D.f46Γ) (an := D.f46ann) ⟨D.Cok, (mC D.f73ok (mC D.f74ok (mC D.f75ok mN))), D.mixed⟩ Go.Proofs.Try.func46 rfl rfl (fun x y h => (D.f46eq x).trans h) (by decide)
def D.f49sig : Sig := ⟨⟨[D.hI, .ptr 0 0], [.cells [D.hI]]⟩, ⟨[D.hB], [.cells [D.hI]]⟩⟩
noncomputable def D.f49Γ : List Con := []
def D.f49ann : Ann := (.seq .leaf (.seq .leaf (.seq .leaf .leaf)))
noncomputable def D.f49F : Int × Int → Option (Bool × Int) := fun (x : Int × Int) => some (true, x.1)
theorem D.f49eq : ∀ x, runFn D.C D.f49Γ D.f49sig D.f49ann Go.Proofs.Try.f49 x = D.f49F x := by
  intro x
  kernel_rfl
noncomputable def D.f49con : Con := ⟨49, D.f49sig, D.f49F⟩
theorem D.f49ok : Con.Ok Go.Proofs.Try.prog D.C D.f49con :=
  runFn_ok (Γ := D.f49Γ) (an := D.f49ann) ⟨D.Cok, mN, D.mixed⟩ Go.Proofs.Try.func49 rfl rfl (fun x y h => (D.f49eq x).trans h) (by decide)
def D.s6sig : Sig := ⟨⟨[D.hP, D.hL, D.hI, .fnc 49 1, .ptr 0 0], [.cells [D.hI]]⟩, ⟨[D.hI], [.cells [D.hI]]⟩⟩
noncomputable def D.s6Γ : List Con := [D.f42con, D.f43con, D.f44con, D.s5con, D.f46con, D.f49con]
def D.s6ann : Ann := (.seq .leaf (.seq (.seq (.join [⟨.normal, [(25, D.hB)], [.cells [D.hI], .cells [D.hP]]⟩] .leaf) (.cond (.seq .leaf .leaf) .leaf)) (.seq .leaf (.seq (.block (.loop ⟨.normal, [(8, D.hI), (9, D.hL), (2, D.hI)], [.cells
 [D.hI], .cells [D.hP], .gone]⟩ [⟨(.exit 0), [(8, D.hI)], [.cells [D.hI], .gone, .gone]⟩, ⟨.ret, [(8, D.hI)], [.cells [D.hI], .gone, .gone]⟩] (.seq (.seq .leaf (.cond .leaf .leaf)) (.seq (.block (.seq .leaf (.seq .leaf (.seq .leaf (.seq
 .leaf (.seq (.seq (.join [⟨.normal, [(64, D.hB)], [.cells [D.hI], .cells [D.hP], .gone, .gone, .gone]⟩] .leaf) (.cond (.seq .leaf .leaf) .leaf)) (.tail 6))))))) .leaf)))) (.seq .leaf .leaf)))))
noncomputable def D.s6F : List (Int × List (Int × Int) × Int × Int) × List Int × Int × Int → Option (Int × Int) := fun (x : List (Int × List (Int × Int) × Int × Int) × List Int × Int × Int) => Option.bind (if decide (x.2.2.1 < (0 : Int)) =
 true then some (true, x.2.2.2, x.1) else if decide (x.2.2.1 > (x.2.1.length : Int)) = true then some (true, x.2.2.2, x.1) else Option.bind (D.f42F x.1) fun v1 => some (!v1, x.2.2.2, x.1)) fun (v1 : Bool × Int × List (Int × List (Int × Int)
 × Int × Int)) => if v1.1 = true then some ((0 : Int), v1.2.1) else Option.bind (iter (fun (s2 : Int × List Int × Int × Int × List (Int × List (Int × Int) × Int × Int)) => if decide ((s2.2.1.length : Int) > (0 : Int)) = true then Option.bind
 (D.f43F (s2.2.2.2.2, s2.2.1, s2.2.2.1 == (0 : Int), s2.2.2.1 == (x.2.1.length : Int))) fun v3 => Option.bind (D.f44F (v3.1, v3.2.1, v3.2.2.1, v3.2.2.2.2, v3.2.2.2.1)) fun v4 => Option.bind (Option.bind (D.s5F (v4, s2.2.2.2.2)) fun v5 => if
 v5.1 = true then Option.bind (D.f49F (s2.2.2.1, s2.2.2.2.1)) fun v6 => if (!v6.1) = true then some (true, v6.2, v5.2) else some (s2.2.2.1 == (x.2.1.length : Int), v6.2, v5.2) else some (s2.2.2.1 == (x.2.1.length : Int), s2.2.2.2.1, v5.2))
 fun (v5 : Bool × Int × List (Int × List (Int × Int) × Int × Int)) => if v5.1 = true then some (Sum.inr (Sum.inr (IntKind.i64.wrap (s2.1 + v3.2.2.2.1), v5.2.1))) else if (0 : Int) ≤ s2.2.2.1 ∧ s2.2.2.1 < (x.2.1.length : Int) then Option.bind
 (D.f46F (v5.2.2, v4, List.getD x.2.1 (Int.toNat s2.2.2.1) (0 : Int))) fun v6 => some (Sum.inl (IntKind.i64.wrap (s2.1 + v3.2.2.2.1), v6, IntKind.i64.wrap (s2.2.2.1 + (1 : Int)), v5.2.1, v5.2.2)) else none else some (Sum.inr (Sum.inl (s2.1,
 s2.2.2.2.1)))) ((0 : Int), [(0 : Int)], x.2.2.1, v1.2.1, v1.2.2)) fun v2 => Sum.elim (fun (p3 : Int × Int) => some (p3.1, p3.2)) (fun (q3 : Int × Int) => some (q3.1, q3.2)) v2
theorem D.s6eq : ∀ x, runFn D.C D.s6Γ D.s6sig D.s6ann Go.Proofs.Try.f48 x = D.s6F x := by
  intro x
  kernel_rfl
noncomputable def D.s6con : Con := ⟨48, D.s6sig, D.s6F⟩
theorem D.s6ok : Con.Ok Go.Proofs.Try.prog D.C D.s6con :=
  runFn_ok (Γ := D.s6Γ) (an := D.s6ann) ⟨D.Cok, (mC D.f42ok (mC D.f43ok (mC D.f44ok (mC D.s5ok (mC D.f46ok (mC D.f49ok mN)))))), D.mixed⟩ Go.Proofs.Try.func48 rfl rfl (fun x y h => (D.s6eq x).trans h) (by decide)
def D.f21sig : Sig := ⟨⟨[D.hP, D.hL, D.hI], []⟩, ⟨[D.hI, D.hI], []⟩⟩
noncomputable def D.f21Γ : List Con := [D.s6con]
def D.f21ann : Ann := (.seq .leaf (.seq .leaf (.seq .leaf (.seq .leaf .leaf))))
noncomputable def D.f21F : List (Int × List (Int × Int) × Int × Int) × List Int × Int → Option (Int × Int) := fun (x : List (Int × List (Int × Int) × Int × Int) × List Int × Int) => Option.bind (D.s6F (x.1, x.2.1, x.2.2, (-1 : Int))) fun v1
 => some (v1.2, v1.1)
theorem D.f21eq : ∀ x, runFn D.C D.f21Γ D.f21sig D.f21ann Go.Proofs.Try.f21 x = D.f21F x := by
  intro x
  kernel_rfl
noncomputable def D.f21con : Con := ⟨21, D.f21sig, D.f21F⟩
theorem D.f21ok : Con.Ok Go.Proofs.Try.prog D.C D.f21con :=
  runFn_ok (Γ := D.f21Γ) (an := D.f21ann) ⟨D.Cok, (mC D.s6ok mN), D.mixed⟩ Go.Proofs.Try.func21 rfl rfl (fun x y h => (D.f21eq x).trans h) (by decide)
def D.f38sig : Sig := ⟨⟨[D.hP, D.hL, D.hI], []⟩, ⟨[.hole D.tP, D.hB], []⟩⟩
noncomputable def D.f38Γ : List Con := [D.f42con, D.f21con]
def D.f38ann : Ann := (.seq .leaf (.seq (.seq (.join [⟨.normal, [(16, D.hB)], [.cells [D.hI, D.hI]]⟩] .leaf) (.cond (.seq .leaf .leaf) .leaf)) (.seq (.block (.loop ⟨.normal, [(2, D.hI)], [.cells [D.hI, D.hI]]⟩ [⟨(.exit 0), [], [.cells
 [D.hI, D.hI]]⟩, ⟨.ret, [(7, D.hB)], [.cells [D.hI, D.hI]]⟩] (.seq (.seq .leaf (.cond .leaf .leaf)) (.seq (.block (.seq .leaf (.seq .leaf (.cond (.seq .leaf .leaf) .leaf)))) .leaf)))) (.seq .leaf .leaf))))
noncomputable def D.f38F : List (Int × List (Int × Int) × Int × Int) × List Int × Int → Option ((Int × Int) × Bool) := fun (x : List (Int × List (Int × Int) × Int × Int) × List Int × Int) => Option.bind (if decide (x.2.2 < (0 : Int)) = true
 then some (true, (0 : Int), (0 : Int)) else Option.bind (D.f42F x.1) fun v1 => some (!v1, (0 : Int), (0 : Int))) fun v1 => if v1.1 = true then some (((0 : Int), (0 : Int)), false) else Option.bind (iter (fun (s2 : Int × Int × Int) => if
 decide (s2.1 ≤ (x.2.1.length : Int)) = true then Option.bind (D.f21F (x.1, x.2.1, s2.1)) fun v3 => if decide (v3.1 ≥ (0 : Int)) = true then some (Sum.inr (Sum.inr (true, s2.1, v3.1))) else some (Sum.inl (IntKind.i64.wrap (s2.1 + (1 : Int)),
 s2.2.1, s2.2.2)) else some (Sum.inr (Sum.inl (s2.2.1, s2.2.2)))) (x.2.2, v1.2.1, v1.2.2)) fun v2 => Sum.elim (fun (p3 : Int × Int) => some (((0 : Int), (0 : Int)), false)) (fun (q3 : Bool × Int × Int) => some ((q3.2.1, q3.2.2), q3.1)) v2
theorem D.f38eq : ∀ x, runFn D.C D.f38Γ D.f38sig D.f38ann Go.Proofs.Try.f38 x = D.f38F x := by
  intro x
  kernel_rfl
noncomputable def D.f38con : Con := ⟨38, D.f38sig, D.f38F⟩
theorem D.f38ok : Con.Ok Go.Proofs.Try.prog D.C D.f38con :=
  runFn_ok (Γ := D.f38Γ) (an := D.f38ann) ⟨D.Cok, (mC D.f42ok (mC D.f21ok mN)), D.mixed⟩ Go.Proofs.Try.func38 rfl rfl (fun x y h => (D.f38eq x).trans h) (by decide)
def D.f40sig : Sig := ⟨⟨[.hole (.sl D.tP), .hole (.sl D.tP)], []⟩, ⟨[D.hB], []⟩⟩
noncomputable def D.f40Γ : List Con := []
def D.f40ann : Ann := (.seq .leaf (.seq (.seq .leaf (.cond (.seq .leaf .leaf) .leaf)) (.seq (.seq .leaf (.block (.loop ⟨.normal, [(5, D.hI)], []⟩ [⟨(.exit 0), [], []⟩, ⟨.ret, [(4, D.hB)], []⟩] (.seq (.seq .leaf (.cond .leaf .leaf)) (.seq
 (.block (.seq .leaf (.cond (.seq .leaf .leaf) .leaf))) .leaf))))) (.seq .leaf .leaf))))
noncomputable def D.f40F : List (Int × Int) × List (Int × Int) → Option (Bool) := fun (x : List (Int × Int) × List (Int × Int)) => if ((x.1.length : Int) != (x.2.length : Int)) = true then some false else Option.bind (iter (fun (s1 : Int)
 => if decide (s1 < (x.1.length : Int)) = true then if (0 : Int) ≤ s1 ∧ s1 < (x.1.length : Int) then if (0 : Int) ≤ s1 ∧ s1 < (x.2.length : Int) then if (!Ty.eqb (Ty.st (Ty.pair (Ty.int IntKind.i64) (Ty.int IntKind.i64))) (List.getD x.1
 (Int.toNat s1) ((0 : Int), (0 : Int))) (List.getD x.2 (Int.toNat s1) ((0 : Int), (0 : Int)))) = true then some (Sum.inr (Sum.inr false)) else some (Sum.inl (IntKind.i64.wrap (s1 + (1 : Int)))) else none else none else some (Sum.inr (Sum.inl
 ()))) (0 : Int)) fun v1 => Sum.elim (fun (p2 : PUnit) => some true) (fun (q2 : Bool) => some q2) v1
theorem D.f40eq : ∀ x, runFn D.C D.f40Γ D.f40sig D.f40ann Go.Proofs.Try.f40 x = D.f40F x := by
  intro x
  kernel_rfl
noncomputable def D.f40con : Con := ⟨40, D.f40sig, D.f40F⟩
theorem D.f40ok : Con.Ok Go.Proofs.Try.prog D.C D.f40con :=
  runFn_ok (Γ := D.f40Γ) (an := D.f40ann) ⟨D.Cok, mN, D.mixed⟩ Go.Proofs.Try.func40 rfl rfl (fun x y h => (D.f40eq x).trans h) (by decide)
def D.f63sig : Sig := ⟨⟨[.hole (.sl D.tP), D.hI], []⟩, ⟨[D.hB], []⟩⟩
noncomputable def D.f63Γ : List Con := []
def D.f63ann : Ann := (.seq .leaf (.seq (.seq .leaf (.block (.loop ⟨.normal, [(9, D.hI)], []⟩ [⟨(.exit 0), [], []⟩, ⟨.ret, [(4, D.hB)], []⟩] (.seq .leaf (.seq (.cond .leaf .leaf) (.seq (.block (.seq .leaf (.seq (.seq (.join [⟨.normal, [(29,
 D.hB)], [.cells [D.hI, D.hI]]⟩] .leaf) (.cond (.seq .leaf .leaf) .leaf)) (.seq (.join [⟨.normal, [(53, D.hB)], [.gone]⟩] .leaf) (.cond (.seq .leaf .leaf) .leaf))))) .leaf)))))) (.seq .leaf .leaf)))
noncomputable def D.f63F : List (Int × Int) × Int → Option (Bool) := fun (x : List (Int × Int) × Int) => Option.bind (iter (fun (s1 : Int) => if decide (s1 < (x.1.length : Int)) = true then if (0 : Int) ≤ s1 ∧ s1 < (x.1.length : Int) then
 Option.bind (if decide ((List.getD x.1 (Int.toNat s1) ((0 : Int), (0 : Int))).1 < (0 : Int)) = true then some (true, (List.getD x.1 (Int.toNat s1) ((0 : Int), (0 : Int))).1, (List.getD x.1 (Int.toNat s1) ((0 : Int), (0 : Int))).2) else if
 decide ((List.getD x.1 (Int.toNat s1) ((0 : Int), (0 : Int))).2 < (List.getD x.1 (Int.toNat s1) ((0 : Int), (0 : Int))).1) = true then some (true, (List.getD x.1 (Int.toNat s1) ((0 : Int), (0 : Int))).1, (List.getD x.1 (Int.toNat s1) ((0 :
 Int), (0 : Int))).2) else some (decide ((List.getD x.1 (Int.toNat s1) ((0 : Int), (0 : Int))).2 > x.2), (List.getD x.1 (Int.toNat s1) ((0 : Int), (0 : Int))).1, (List.getD x.1 (Int.toNat s1) ((0 : Int), (0 : Int))).2)) fun v2 => if v2.1 =
 true then some (Sum.inr (Sum.inr false)) else Option.bind (if decide (s1 > (0 : Int)) = true then if (0 : Int) ≤ IntKind.i64.wrap (s1 - (1 : Int)) ∧ IntKind.i64.wrap (s1 - (1 : Int)) < (x.1.length : Int) then if decide (v2.2.1 < (List.getD
 x.1 (Int.toNat (IntKind.i64.wrap (s1 - (1 : Int)))) ((0 : Int), (0 : Int))).2) = true then some true else if (0 : Int) ≤ IntKind.i64.wrap (s1 - (1 : Int)) ∧ IntKind.i64.wrap (s1 - (1 : Int)) < (x.1.length : Int) then some (v2.2.1 ==
 (List.getD x.1 (Int.toNat (IntKind.i64.wrap (s1 - (1 : Int)))) ((0 : Int), (0 : Int))).1) else none else none else some false) fun v3 => if v3 = true then some (Sum.inr (Sum.inr false)) else some (Sum.inl (IntKind.i64.wrap (s1 + (1 :
 Int)))) else none else some (Sum.inr (Sum.inl ()))) (0 : Int)) fun v1 => Sum.elim (fun (p2 : PUnit) => some true) (fun (q2 : Bool) => some q2) v1
theorem D.f63eq : ∀ x, runFn D.C D.f63Γ D.f63sig D.f63ann Go.Proofs.Try.f63 x = D.f63F x := by
  intro x
  kernel_rfl
noncomputable def D.f63con : Con := ⟨63, D.f63sig, D.f63F⟩
theorem D.f63ok : Con.Ok Go.Proofs.Try.prog D.C D.f63con :=
  runFn_ok (Γ := D.f63Γ) (an := D.f63ann) ⟨D.Cok, mN, D.mixed⟩ Go.Proofs.Try.func63 rfl rfl (fun x y h => (D.f63eq x).trans h) (by decide)
def D.f68sig : Sig := ⟨⟨[.hole D.tP, .ptr 0 0], [.cells [D.hI]]⟩, ⟨[D.hB], [.cells [D.hI]]⟩⟩
noncomputable def D.f68Γ : List Con := []
def D.f68ann : Ann := (.seq .leaf (.seq .leaf .leaf))
noncomputable def D.f68F : (Int × Int) × Int → Option (Bool × Int) := fun (x : (Int × Int) × Int) => if decide (x.1.1 ≤ x.2) = true then some (decide (x.2 < x.1.2), x.2) else some (false, x.2)
theorem D.f68eq : ∀ x, runFn D.C D.f68Γ D.f68sig D.f68ann Go.Proofs.Try.f68 x = D.f68F x := by
  intro x
  kernel_rfl
noncomputable def D.f68con : Con := ⟨68, D.f68sig, D.f68F⟩
theorem D.f68ok : Con.Ok Go.Proofs.Try.prog D.C D.f68con :=
  runFn_ok (Γ := D.f68Γ) (an := D.f68ann) ⟨D.Cok, mN, D.mixed⟩ Go.Proofs.Try.func68 rfl rfl (fun x y h => (D.f68eq x).trans h) (by decide)
def D.s12sig : Sig := ⟨⟨[.hole (.sl D.tP), .fnc 68 1, .ptr 0 0], [.cells [D.hI]]⟩, ⟨[D.hI], [.cells [D.hI]]⟩⟩
noncomputable def D.s12Γ : List Con := [D.f68con]
def D.s12ann : Ann := (.seq .leaf (.seq (.seq .leaf (.block (.loop ⟨.normal, [(8, D.hI)], [.cells [D.hI]]⟩ [⟨(.exit 0), [], [.cells [D.hI]]⟩, ⟨.ret, [(4, D.hI)], [.cells [D.hI]]⟩] (.seq .leaf (.seq (.cond .leaf .leaf) (.seq (.block (.seq
 .leaf (.seq .leaf (.cond (.seq .leaf .leaf) .leaf)))) .leaf)))))) (.seq .leaf .leaf)))
noncomputable def D.s12F : List (Int × Int) × Int → Option (Int × Int) := fun (x : List (Int × Int) × Int) => Option.bind (iter (fun (s1 : Int × Int) => if decide (s1.1 < (x.1.length : Int)) = true then if (0 : Int) ≤ s1.1 ∧ s1.1 <
 (x.1.length : Int) then Option.bind (D.f68F (List.getD x.1 (Int.toNat s1.1) ((0 : Int), (0 : Int)), s1.2)) fun v2 => if v2.1 = true then some (Sum.inr (Sum.inr (s1.1, v2.2))) else some (Sum.inl (IntKind.i64.wrap (s1.1 + (1 : Int)), v2.2))
 else none else some (Sum.inr (Sum.inl s1.2))) ((0 : Int), x.2)) fun v1 => Sum.elim (fun (p2 : Int) => some ((-1 : Int), p2)) (fun (q2 : Int × Int) => some (q2.1, q2.2)) v1
theorem D.s12eq : ∀ x, runFn D.C D.s12Γ D.s12sig D.s12ann Go.Proofs.Try.f67 x = D.s12F x := by
  intro x
  kernel_rfl
noncomputable def D.s12con : Con := ⟨67, D.s12sig, D.s12F⟩
theorem D.s12ok : Con.Ok Go.Proofs.Try.prog D.C D.s12con :=
  runFn_ok (Γ := D.s12Γ) (an := D.s12ann) ⟨D.Cok, (mC D.f68ok mN), D.mixed⟩ Go.Proofs.Try.func67 rfl rfl (fun x y h => (D.s12eq x).trans h) (by decide)
def D.f41sig : Sig := ⟨⟨[.hole (.sl D.tP), D.hI], []⟩, ⟨[D.hI], []⟩⟩
noncomputable def D.f41Γ : List Con := [D.s12con]
def D.f41ann : Ann := (.seq .leaf (.seq .leaf .leaf))
noncomputable def D.f41F : List (Int × Int) × Int → Option (Int) := fun (x : List (Int × Int) × Int) => Option.bind (D.s12F (x.1, x.2)) fun v1 => some v1.1
theorem D.f41eq : ∀ x, runFn D.C D.f41Γ D.f41sig D.f41ann Go.Proofs.Try.f41 x = D.f41F x := by
  intro x
  kernel_rfl
noncomputable def D.f41con : Con := ⟨41, D.f41sig, D.f41F⟩
theorem D.f41ok : Con.Ok Go.Proofs.Try.prog D.C D.f41con :=
  runFn_ok (Γ := D.f41Γ) (an := D.f41ann) ⟨D.Cok, (mC D.s12ok mN), D.mixed⟩ Go.Proofs.Try.func41 rfl rfl (fun x y h => (D.f41eq x).trans h) (by decide)
def D.f34sig : Sig := ⟨⟨[], []⟩, ⟨[D.hB], []⟩⟩
noncomputable def D.f34Γ : List Con := [D.f36con, D.f38con, D.f40con, D.f63con, D.f41con]
def D.f34ann : Ann := (.seq .leaf (.seq .leaf (.seq .leaf (.seq .leaf (.seq .leaf (.seq .leaf (.seq .leaf .leaf)))))))
noncomputable def D.f34F : PUnit → Option (Bool) := fun (x : PUnit) => Option.bind (D.f36F ([((2 : Int), [], (1 : Int), (3 : Int)), ((1 : Int), [((97 : Int), (97 : Int))], (0 : Int), (0 : Int)), ((3 : Int), [], (0 : Int), (0 : Int)), ((0 :
 Int), [], (0 : Int), (0 : Int))], [(98 : Int), (97 : Int), (97 : Int)], (2 : Int))) fun v1 => Option.bind (D.f36F ([((2 : Int), [], (1 : Int), (3 : Int)), ((1 : Int), [((97 : Int), (97 : Int))], (0 : Int), (0 : Int)), ((3 : Int), [], (0 :
 Int), (0 : Int)), ((0 : Int), [], (0 : Int), (0 : Int))], [], (1 : Int))) fun v2 => Option.bind (D.f38F ([((2 : Int), [], (1 : Int), (3 : Int)), ((1 : Int), [((97 : Int), (97 : Int))], (0 : Int), (0 : Int)), ((3 : Int), [], (0 : Int), (0 :
 Int)), ((0 : Int), [], (0 : Int), (0 : Int))], [(98 : Int), (97 : Int), (97 : Int)], (1 : Int))) fun v3 => if (v1.2.2 == (0 : Int)) = true then if (v2.2.2 == (13 : Int)) = true then Option.bind (D.f40F (v1.1, [((0 : Int), (0 : Int)), ((1 :
 Int), (3 : Int)), ((3 : Int), (3 : Int))])) fun v4 => if v4 = true then if (v1.2.1 == (5 : Int)) = true then if v3.2 = true then if Ty.eqb (Ty.st (Ty.pair (Ty.int IntKind.i64) (Ty.int IntKind.i64))) (v3.1.1, v3.1.2) ((1 : Int), (3 : Int)) =
 true then Option.bind (D.f63F (v1.1, (3 : Int))) fun v5 => if v5 = true then Option.bind (D.f63F (v1.1, (2 : Int))) fun v6 => if (!v6) = true then Option.bind (D.f41F (v1.1, (2 : Int))) fun v7 => if (v7 == (1 : Int)) = true then Option.bind
 (D.f41F (v1.1, (0 : Int))) fun v8 => some (v8 == (-1 : Int)) else some false else some false else some false else some false else some false else some false else some false else some false else some false
theorem D.f34eq : ∀ x, runFn D.C D.f34Γ D.f34sig D.f34ann Go.Proofs.Try.f34 x = D.f34F x := by
  intro x
  kernel_rfl
noncomputable def D.f34con : Con := ⟨34, D.f34sig, D.f34F⟩
theorem D.f34ok : Con.Ok Go.Proofs.Try.prog D.C D.f34con :=
  runFn_ok (Γ := D.f34Γ) (an := D.f34ann) ⟨D.Cok, (mC D.f36ok (mC D.f38ok (mC D.f40ok (mC D.f63ok (mC D.f41ok mN))))), D.mixed⟩ Go.Proofs.Try.func34 rfl rfl (fun x y h => (D.f34eq x).trans h) (by decide)
def D.f35sig : Sig := ⟨⟨[D.hP, D.hL], []⟩, ⟨[D.hB], []⟩⟩
noncomputable def D.f35Γ : List Con := [D.f15con]
def D.f35ann : Ann := (.seq .leaf (.seq .leaf .leaf))
noncomputable def D.f35F : List (Int × List (Int × Int) × Int × Int) × List Int → Option (Bool) := fun (x : List (Int × List (Int × Int) × Int × Int) × List Int) => Option.bind (D.f15F x.1) fun v1 => if v1 = true then some true else if
 decide ((x.1.length : Int) > (100 : Int)) = true then some true else some (decide ((x.2.length : Int) > (30 : Int)))
theorem D.f35eq : ∀ x, runFn D.C D.f35Γ D.f35sig D.f35ann Go.Proofs.Try.f35 x = D.f35F x := by
  intro x
  kernel_rfl
noncomputable def D.f35con : Con := ⟨35, D.f35sig, D.f35F⟩
theorem D.f35ok : Con.Ok Go.Proofs.Try.prog D.C D.f35con :=
  runFn_ok (Γ := D.f35Γ) (an := D.f35ann) ⟨D.Cok, (mC D.f15ok mN), D.mixed⟩ Go.Proofs.Try.func35 rfl rfl (fun x y h => (D.f35eq x).trans h) (by decide)
def D.f45sig : Sig := ⟨⟨[.hole (.sl .bool)], []⟩, ⟨[D.hL], []⟩⟩
noncomputable def D.f45Γ : List Con := []
def D.f45ann : Ann := (.seq .leaf (.seq .leaf (.seq (.seq .leaf (.block (.loop ⟨.normal, [(3, .own 0), (4, D.hI)], [.arr 3 (.int .i64)]⟩ [⟨(.exit 0), [(3, .own 0)], [.arr 3 (.int .i64)]⟩] (.seq (.seq .leaf (.cond .leaf .leaf)) (.seq (.block
 (.seq .leaf (.cond .leaf .leaf))) .leaf))))) (.seq .leaf .leaf))))
noncomputable def D.f45F : List Bool → Option (List Int) := fun (x : List Bool) => Option.bind (iter (fun (s1 : Int × List Int) => if decide (s1.1 < (x.length : Int)) = true then if (0 : Int) ≤ s1.1 ∧ s1.1 < (x.length : Int) then if
 List.getD x (Int.toNat s1.1) false = true then if roomOk (List.length s1.2 + (1 : Nat)) (8 : Nat) then some (Sum.inl (IntKind.i64.wrap (s1.1 + (1 : Int)), s1.2 ++ [s1.1])) else none else some (Sum.inl (IntKind.i64.wrap (s1.1 + (1 : Int)),
 s1.2)) else none else some (Sum.inr s1.2)) ((0 : Int), [])) fun (v1 : List Int) => some v1
theorem D.f45eq : ∀ x, runFn D.C D.f45Γ D.f45sig D.f45ann Go.Proofs.Try.f45 x = D.f45F x := by
  intro x
  kernel_rfl
noncomputable def D.f45con : Con := ⟨45, D.f45sig, D.f45F⟩
theorem D.f45ok : Con.Ok Go.Proofs.Try.prog D.C D.f45con :=
  runFn_ok (Γ := D.f45Γ) (an := D.f45ann) ⟨D.Cok, mN, D.mixed⟩ Go.Proofs.Try.func45 rfl rfl (fun x y h => (D.f45eq x).trans h) (by decide)
def D.f18sig : Sig := ⟨⟨[D.hP, D.hL, D.hB, D.hB], []⟩, ⟨[D.hL], []⟩⟩
noncomputable def D.f18Γ : List Con := [D.f26con, D.f45con]
def D.f18ann : Ann := (.seq .leaf (.seq (.seq .leaf (.cond (.seq .leaf .leaf) .leaf)) (.seq .leaf (.seq (.seq .leaf (.block (.loop ⟨.normal, [(10, D.hI)], [.arr 4 .bool]⟩ [⟨(.exit 0), [], [.arr 4 .bool]⟩] (.seq (.seq .leaf (.cond .leaf
 .leaf)) (.seq (.block (.seq (.join [⟨.normal, [(41, D.hB)], [.arr 4 .bool]⟩] .leaf) (.cond .leaf .leaf))) .leaf))))) (.seq .leaf (.seq (.block (.loop ⟨.normal, [(11, D.hB)], [.arr 4 .bool]⟩ [⟨(.exit 2), [], [.arr 4 .bool]⟩] (.seq (.seq
 .leaf (.cond .leaf .leaf)) (.block (.seq .leaf (.seq .leaf (.block (.loop ⟨.normal, [(11, D.hB), (12, D.hI)], [.arr 4 .bool]⟩ [⟨(.exit 4), [(11, D.hB)], [.arr 4 .bool]⟩] (.seq (.seq .leaf (.cond .leaf .leaf)) (.seq (.block (.seq (.seq .leaf
 (.cond .leaf .leaf)) (.seq .leaf (.seq (.join [⟨.normal, [(13, D.hI), (14, D.hI)], [.arr 4 .bool]⟩] (.block (.seq .leaf (.cond .leaf (.seq .leaf (.cond .leaf (.seq (.join [⟨.normal, [(91, D.hB)], [.arr 4 .bool]⟩] (.seq (.join [⟨.normal,
 [(91, D.hB)], [.arr 4 .bool]⟩] .leaf) (.cond .leaf .leaf))) (.cond .leaf .leaf)))))))) (.seq (.join [⟨.normal, [(11, D.hB)], [.arr 4 .bool]⟩] .leaf) .leaf))))) .leaf)))))))))) (.seq .leaf .leaf)))))))
noncomputable def D.f18F : List (Int × List (Int × Int) × Int × Int) × List Int × Bool × Bool → Option (List Int) := fun (x : List (Int × List (Int × Int) × Int × Int) × List Int × Bool × Bool) => Option.bind (D.f26F x.1) fun v1 => if (!v1)
 = true then some [] else if (0 : Int) ≤ IntKind.i64.wrap ((x.1.length : Int) + (1 : Int)) ∧ IntKind.i64.wrap ((x.1.length : Int) + (1 : Int)) ≤ IntKind.i64.wrap ((x.1.length : Int) + (1 : Int)) ∧ roomOk (Int.toNat (IntKind.i64.wrap
 ((x.1.length : Int) + (1 : Int)))) (1 : Nat) then Option.bind (iter (fun (s2 : Int × List Bool) => if decide (s2.1 < (x.2.1.length : Int)) = true then Option.bind (if (0 : Int) ≤ s2.1 ∧ s2.1 < (x.2.1.length : Int) then if decide (List.getD
 x.2.1 (Int.toNat s2.1) (0 : Int) ≥ (0 : Int)) = true then if (0 : Int) ≤ s2.1 ∧ s2.1 < (x.2.1.length : Int) then some (decide (List.getD x.2.1 (Int.toNat s2.1) (0 : Int) < (x.1.length : Int)), s2.2) else none else some (false, s2.2) else
 none) fun (v3 : Bool × List Bool) => if v3.1 = true then if (0 : Int) ≤ s2.1 ∧ s2.1 < (x.2.1.length : Int) then if (0 : Int) ≤ List.getD x.2.1 (Int.toNat s2.1) (0 : Int) ∧ List.getD x.2.1 (Int.toNat s2.1) (0 : Int) < (v3.2.length : Int)
 then some (Sum.inl (IntKind.i64.wrap (s2.1 + (1 : Int)), List.set v3.2 (Int.toNat (List.getD x.2.1 (Int.toNat s2.1) (0 : Int))) true)) else none else none else some (Sum.inl (IntKind.i64.wrap (s2.1 + (1 : Int)), v3.2)) else some (Sum.inr
 s2.2)) ((0 : Int), List.replicate (Int.toNat (IntKind.i64.wrap ((x.1.length : Int) + (1 : Int)))) false)) fun (v2 : List Bool) => Option.bind (iter (fun (s3 : Bool × List Bool) => if s3.1 = true then Option.bind (iter (fun (s4 : Bool × Int
 × List Bool) => if decide (s4.2.1 < (x.1.length : Int)) = true then if (0 : Int) ≤ s4.2.1 ∧ s4.2.1 < (s4.2.2.length : Int) then if (!List.getD s4.2.2 (Int.toNat s4.2.1) false) = true then some (Sum.inl (s4.1, IntKind.i64.wrap (s4.2.1 + (1 :
 Int)), s4.2.2)) else Option.bind (if (0 : Int) ≤ s4.2.1 ∧ s4.2.1 < (x.1.length : Int) then if ((List.getD x.1 (Int.toNat s4.2.1) ((0 : Int), [], (0 : Int), (0 : Int))).1 == (2 : Int)) = true then if (0 : Int) ≤ s4.2.1 ∧ s4.2.1 < (x.1.length
 : Int) then if (0 : Int) ≤ s4.2.1 ∧ s4.2.1 < (x.1.length : Int) then some ((List.getD x.1 (Int.toNat s4.2.1) ((0 : Int), [], (0 : Int), (0 : Int))).2.2.1, (List.getD x.1 (Int.toNat s4.2.1) ((0 : Int), [], (0 : Int), (0 : Int))).2.2.2,
 s4.2.2) else none else none else if (0 : Int) ≤ s4.2.1 ∧ s4.2.1 < (x.1.length : Int) then if ((List.getD x.1 (Int.toNat s4.2.1) ((0 : Int), [], (0 : Int), (0 : Int))).1 == (3 : Int)) = true then if (0 : Int) ≤ s4.2.1 ∧ s4.2.1 < (x.1.length
 : Int) then some ((List.getD x.1 (Int.toNat s4.2.1) ((0 : Int), [], (0 : Int), (0 : Int))).2.2.1, s4.2.1, s4.2.2) else none else Option.bind (Option.bind (if (0 : Int) ≤ s4.2.1 ∧ s4.2.1 < (x.1.length : Int) then if ((List.getD x.1
 (Int.toNat s4.2.1) ((0 : Int), [], (0 : Int), (0 : Int))).1 == (4 : Int)) = true then some (x.2.2.1, s4.2.2) else some (false, s4.2.2) else none) fun (v5 : Bool × List Bool) => if v5.1 = true then some (true, v5.2) else if (0 : Int) ≤
 s4.2.1 ∧ s4.2.1 < (x.1.length : Int) then if ((List.getD x.1 (Int.toNat s4.2.1) ((0 : Int), [], (0 : Int), (0 : Int))).1 == (5 : Int)) = true then some (x.2.2.2, v5.2) else some (false, v5.2) else none) fun (v5 : Bool × List Bool) => if
 v5.1 = true then some (IntKind.i64.wrap (s4.2.1 + (1 : Int)), s4.2.1, v5.2) else some (s4.2.1, s4.2.1, v5.2) else none else none) fun (v5 : Int × Int × List Bool) => Option.bind (if s4.1 = true then some (true, v5.2.2) else if (0 : Int) ≤
 v5.1 ∧ v5.1 < (v5.2.2.length : Int) then if (!List.getD v5.2.2 (Int.toNat v5.1) false) = true then some (true, v5.2.2) else if (0 : Int) ≤ v5.2.1 ∧ v5.2.1 < (v5.2.2.length : Int) then some (!List.getD v5.2.2 (Int.toNat v5.2.1) false,
 v5.2.2) else none else none) fun (v6 : Bool × List Bool) => if (0 : Int) ≤ v5.1 ∧ v5.1 < (v6.2.length : Int) then if (0 : Int) ≤ v5.2.1 ∧ v5.2.1 < (↑(List.length (List.set v6.2 (Int.toNat v5.1) true)) : Int) then some (Sum.inl (v6.1,
 IntKind.i64.wrap (s4.2.1 + (1 : Int)), List.set (List.set v6.2 (Int.toNat v5.1) true) (Int.toNat v5.2.1) true)) else none else none else none else some (Sum.inr (s4.1, s4.2.2))) (false, (0 : Int), s3.2)) fun (v4 : Bool × List Bool) => some
 (Sum.inl (v4.1, v4.2)) else some (Sum.inr s3.2)) (true, v2)) fun (v3 : List Bool) => if (0 : Int) ≤ (x.1.length : Int) ∧ (x.1.length : Int) ≤ (v3.length : Int) then Option.bind (D.f45F (List.take (Int.toNat (x.1.length : Int)) v3)) fun v4
 => some v4 else none else none
theorem D.f18eq : ∀ x, runFn D.C D.f18Γ D.f18sig D.f18ann Go.Proofs.Try.f18 x = D.f18F x := by
  intro x
  kernel_rfl
noncomputable def D.f18con : Con := ⟨18, D.f18sig, D.f18F⟩
theorem D.f18ok : Con.Ok Go.Proofs.Try.prog D.C D.f18con :=
  runFn_ok (Γ := D.f18Γ) (an := D.f18ann) ⟨D.Cok, (mC D.f26ok (mC D.f45ok mN)), D.mixed⟩ Go.Proofs.Try.func18 rfl rfl (fun x y h => (D.f18eq x).trans h) (by decide)
def D.f78sig : Sig := ⟨⟨[D.hP, D.hL], []⟩, ⟨[D.hB], []⟩⟩
noncomputable def D.f78Γ : List Con := []
def D.f78ann : Ann := (.seq .leaf (.seq (.seq .leaf (.block (.loop ⟨.normal, [(5, D.hI)], []⟩ [⟨(.exit 0), [], []⟩, ⟨.ret, [(4, D.hB)], []⟩] (.seq (.seq .leaf (.cond .leaf .leaf)) (.seq (.block (.seq .leaf (.cond (.seq .leaf .leaf) .leaf)))
 .leaf))))) (.seq .leaf .leaf)))
noncomputable def D.f78F : List (Int × List (Int × Int) × Int × Int) × List Int → Option (Bool) := fun (x : List (Int × List (Int × Int) × Int × Int) × List Int) => Option.bind (iter (fun (s1 : Int) => if decide (s1 < (x.2.length : Int)) =
 true then if (0 : Int) ≤ s1 ∧ s1 < (x.2.length : Int) then if (0 : Int) ≤ List.getD x.2 (Int.toNat s1) (0 : Int) ∧ List.getD x.2 (Int.toNat s1) (0 : Int) < (x.1.length : Int) then if ((List.getD x.1 (Int.toNat (List.getD x.2 (Int.toNat s1)
 (0 : Int))) ((0 : Int), [], (0 : Int), (0 : Int))).1 == (0 : Int)) = true then some (Sum.inr (Sum.inr true)) else some (Sum.inl (IntKind.i64.wrap (s1 + (1 : Int)))) else none else none else some (Sum.inr (Sum.inl ()))) (0 : Int)) fun v1 =>
 Sum.elim (fun (p2 : PUnit) => some false) (fun (q2 : Bool) => some q2) v1
theorem D.f78eq : ∀ x, runFn D.C D.f78Γ D.f78sig D.f78ann Go.Proofs.Try.f78 x = D.f78F x := by
  intro x
  kernel_rfl
noncomputable def D.f78con : Con := ⟨78, D.f78sig, D.f78F⟩
theorem D.f78ok : Con.Ok Go.Proofs.Try.prog D.C D.f78con :=
  runFn_ok (Γ := D.f78Γ) (an := D.f78ann) ⟨D.Cok, mN, D.mixed⟩ Go.Proofs.Try.func78 rfl rfl (fun x y h => (D.f78eq x).trans h) (by decide)
def D.f47sig : Sig := ⟨⟨[.hole (.sl D.tP), D.hI], []⟩, ⟨[D.hB], []⟩⟩
noncomputable def D.f47Γ : List Con := []
def D.f47ann : Ann := (.seq .leaf (.seq (.seq .leaf (.block (.loop ⟨.normal, [(5, D.hI)], []⟩ [⟨(.exit 0), [], []⟩, ⟨.ret, [(4, D.hB)], []⟩] (.seq (.seq .leaf (.cond .leaf .leaf)) (.seq (.block (.seq (.join [⟨.normal, [(27, D.hB)], []⟩]
 .leaf) (.cond (.seq .leaf .leaf) .leaf))) .leaf))))) (.seq .leaf .leaf)))
noncomputable def D.f47F : List (Int × Int) × Int → Option (Bool) := fun (x : List (Int × Int) × Int) => Option.bind (iter (fun (s1 : Int) => if decide (s1 < (x.1.length : Int)) = true then Option.bind (if (0 : Int) ≤ s1 ∧ s1 < (x.1.length
 : Int) then if decide (x.2 ≥ (List.getD x.1 (Int.toNat s1) ((0 : Int), (0 : Int))).1) = true then if (0 : Int) ≤ s1 ∧ s1 < (x.1.length : Int) then some (decide (x.2 ≤ (List.getD x.1 (Int.toNat s1) ((0 : Int), (0 : Int))).2)) else none else
 some false else none) fun v2 => if v2 = true then some (Sum.inr (Sum.inr true)) else some (Sum.inl (IntKind.i64.wrap (s1 + (1 : Int)))) else some (Sum.inr (Sum.inl ()))) (0 : Int)) fun v1 => Sum.elim (fun (p2 : PUnit) => some false) (fun
 (q2 : Bool) => some q2) v1
theorem D.f47eq : ∀ x, runFn D.C D.f47Γ D.f47sig D.f47ann Go.Proofs.Try.f47 x = D.f47F x := by
  intro x
  kernel_rfl
noncomputable def D.f47con : Con := ⟨47, D.f47sig, D.f47F⟩
theorem D.f47ok : Con.Ok Go.Proofs.Try.prog D.C D.f47con :=
  runFn_ok (Γ := D.f47Γ) (an := D.f47ann) ⟨D.Cok, mN, D.mixed⟩ Go.Proofs.Try.func47 rfl rfl (fun x y h => (D.f47eq x).trans h) (by decide)
def D.f20sig : Sig := ⟨⟨[D.hP, D.hL, D.hI], []⟩, ⟨[D.hL], []⟩⟩
noncomputable def D.f20Γ : List Con := [D.f26con, D.f47con, D.f45con]
def D.f20ann : Ann := (.seq .leaf (.seq (.seq .leaf (.cond (.seq .leaf .leaf) .leaf)) (.seq .leaf (.seq (.seq .leaf (.block (.loop ⟨.normal, [(8, D.hI)], [.arr 4 .bool]⟩ [⟨(.exit 0), [], [.arr 4 .bool]⟩] (.seq (.seq .leaf (.cond .leaf
 .leaf)) (.seq (.block (.seq .leaf (.seq (.join [⟨.normal, [(51, D.hB)], [.arr 4 .bool]⟩] .leaf) (.cond .leaf .leaf)))) .leaf))))) (.seq .leaf .leaf)))))
noncomputable def D.f20F : List (Int × List (Int × Int) × Int × Int) × List Int × Int → Option (List Int) := fun (x : List (Int × List (Int × Int) × Int × Int) × List Int × Int) => Option.bind (D.f26F x.1) fun v1 => if (!v1) = true then
 some [] else if (0 : Int) ≤ IntKind.i64.wrap ((x.1.length : Int) + (1 : Int)) ∧ IntKind.i64.wrap ((x.1.length : Int) + (1 : Int)) ≤ IntKind.i64.wrap ((x.1.length : Int) + (1 : Int)) ∧ roomOk (Int.toNat (IntKind.i64.wrap ((x.1.length : Int)
 + (1 : Int)))) (1 : Nat) then Option.bind (iter (fun (s2 : Int × List Bool) => if decide (s2.1 < (x.2.1.length : Int)) = true then if (0 : Int) ≤ s2.1 ∧ s2.1 < (x.2.1.length : Int) then Option.bind (if decide (List.getD x.2.1 (Int.toNat
 s2.1) (0 : Int) ≥ (0 : Int)) = true then if decide (List.getD x.2.1 (Int.toNat s2.1) (0 : Int) < (x.1.length : Int)) = true then if (0 : Int) ≤ List.getD x.2.1 (Int.toNat s2.1) (0 : Int) ∧ List.getD x.2.1 (Int.toNat s2.1) (0 : Int) <
 (x.1.length : Int) then if ((List.getD x.1 (Int.toNat (List.getD x.2.1 (Int.toNat s2.1) (0 : Int))) ((0 : Int), [], (0 : Int), (0 : Int))).1 == (1 : Int)) = true then if (0 : Int) ≤ List.getD x.2.1 (Int.toNat s2.1) (0 : Int) ∧ List.getD
 x.2.1 (Int.toNat s2.1) (0 : Int) < (x.1.length : Int) then Option.bind (D.f47F ((List.getD x.1 (Int.toNat (List.getD x.2.1 (Int.toNat s2.1) (0 : Int))) ((0 : Int), [], (0 : Int), (0 : Int))).2.1, x.2.2)) fun v3 => some (v3, s2.2) else none
 else some (false, s2.2) else none else some (false, s2.2) else some (false, s2.2)) fun (v3 : Bool × List Bool) => if v3.1 = true then if (0 : Int) ≤ IntKind.i64.wrap (List.getD x.2.1 (Int.toNat s2.1) (0 : Int) + (1 : Int)) ∧
 IntKind.i64.wrap (List.getD x.2.1 (Int.toNat s2.1) (0 : Int) + (1 : Int)) < (v3.2.length : Int) then some (Sum.inl (IntKind.i64.wrap (s2.1 + (1 : Int)), List.set v3.2 (Int.toNat (IntKind.i64.wrap (List.getD x.2.1 (Int.toNat s2.1) (0 : Int)
 + (1 : Int)))) true)) else none else some (Sum.inl (IntKind.i64.wrap (s2.1 + (1 : Int)), v3.2)) else none else some (Sum.inr s2.2)) ((0 : Int), List.replicate (Int.toNat (IntKind.i64.wrap ((x.1.length : Int) + (1 : Int)))) false)) fun (v2 :
 List Bool) => Option.bind (D.f45F v2) fun v3 => some v3 else none
theorem D.f20eq : ∀ x, runFn D.C D.f20Γ D.f20sig D.f20ann Go.Proofs.Try.f20 x = D.f20F x := by
  intro x
  kernel_rfl
noncomputable def D.f20con : Con := ⟨20, D.f20sig, D.f20F⟩
theorem D.f20ok : Con.Ok Go.Proofs.Try.prog D.C D.f20con :=
  runFn_ok (Γ := D.f20Γ) (an := D.f20ann) ⟨D.Cok, (mC D.f26ok (mC D.f47ok (mC D.f45ok mN))), D.mixed⟩ Go.Proofs.Try.func20 rfl rfl (fun x y h => (D.f20eq x).trans h) (by decide)
def D.f50sig : Sig := ⟨⟨[D.hP, D.hL, D.hI], []⟩, ⟨[D.hL, D.hI], []⟩⟩
noncomputable def D.f50Γ : List Con := [D.f26con, D.f18con, D.f78con, D.f20con]
def D.f50ann : Ann := (.seq .leaf (.seq .leaf (.seq .leaf (.seq (.seq (.join [⟨.normal, [(25, D.hB)], []⟩] .leaf) (.cond (.seq .leaf .leaf) .leaf)) (.seq .leaf (.seq (.seq .leaf (.block (.loop ⟨.normal, [(9, D.hI), (8, .own 1), (10, D.hL),
 (11, D.hI)], [.gone, .arr 3 (.int .i64)]⟩ [⟨(.exit 0), [(9, D.hI), (8, .own 1)], [.gone, .arr 3 (.int .i64)]⟩] (.seq (.seq .leaf (.cond .leaf .leaf)) (.seq (.block (.seq .leaf (.seq .leaf (.seq (.join [⟨.normal, [(8, .own 2)], [.gone,
 .gone, .arr 3 (.int .i64)]⟩] (.seq .leaf (.cond .leaf .leaf))) (.seq .leaf (.seq .leaf (.cond .leaf .leaf))))))) .leaf))))) (.seq .leaf .leaf)))))))
noncomputable def D.f50F : List (Int × List (Int × Int) × Int × Int) × List Int × Int → Option (List Int × Int) := fun (x : List (Int × List (Int × Int) × Int × Int) × List Int × Int) => Option.bind (Option.bind (D.f26F x.1) fun v1 => if
 (!v1) = true then some true else if decide (x.2.2 < (0 : Int)) = true then some true else some (decide (x.2.2 > (x.2.1.length : Int)))) fun v1 => if v1 = true then some ([], (0 : Int)) else Option.bind (iter (fun (s2 : Int × List Int × Int
 × List Int) => if decide ((s2.2.1.length : Int) > (0 : Int)) = true then Option.bind (D.f18F (x.1, s2.2.1, s2.2.2.1 == (0 : Int), s2.2.2.1 == (x.2.1.length : Int))) fun v3 => Option.bind (Option.bind (D.f78F (x.1, v3)) fun v4 => if v4 =
 true then if roomOk (List.length s2.2.2.2 + (1 : Nat)) (8 : Nat) then some (s2.2.2.2 ++ [s2.2.2.1]) else none else some s2.2.2.2) fun (v4 : List Int) => if decide (s2.2.2.1 < (x.2.1.length : Int)) = true then if (0 : Int) ≤ s2.2.2.1 ∧
 s2.2.2.1 < (x.2.1.length : Int) then Option.bind (D.f20F (x.1, v3, List.getD x.2.1 (Int.toNat s2.2.2.1) (0 : Int))) fun v5 => some (Sum.inl (IntKind.i64.wrap (s2.1 + (v3.length : Int)), v5, IntKind.i64.wrap (s2.2.2.1 + (1 : Int)), v4)) else
 none else some (Sum.inl (IntKind.i64.wrap (s2.1 + (v3.length : Int)), [], IntKind.i64.wrap (s2.2.2.1 + (1 : Int)), v4)) else some (Sum.inr (s2.1, s2.2.2.2))) ((0 : Int), [(0 : Int)], x.2.2, [])) fun (v2 : Int × List Int) => some (v2.2,
 v2.1)
theorem D.f50eq : ∀ x, runFn D.C D.f50Γ D.f50sig D.f50ann Go.Proofs.Try.f50 x = D.f50F x := by
  intro x
  kernel_rfl
noncomputable def D.f50con : Con := ⟨50, D.f50sig, D.f50F⟩
theorem D.f50ok : Con.Ok Go.Proofs.Try.prog D.C D.f50con :=
  runFn_ok (Γ := D.f50Γ) (an := D.f50ann) ⟨D.Cok, (mC D.f26ok (mC D.f18ok (mC D.f78ok (mC D.f20ok mN)))), D.mixed⟩ Go.Proofs.Try.func50 rfl rfl (fun x y h => (D.f50eq x).trans h) (by decide)
def D.f22sig : Sig := ⟨⟨[D.hP, D.hL, D.hI], []⟩, ⟨[D.hI, D.hI], []⟩⟩
noncomputable def D.f22Γ : List Con := [D.f50con]
def D.f22ann : Ann := (.seq .leaf (.seq .leaf (.seq (.seq .leaf (.cond (.seq .leaf .leaf) .leaf)) (.seq .leaf .leaf))))
noncomputable def D.f22F : List (Int × List (Int × Int) × Int × Int) × List Int × Int → Option (Int × Int) := fun (x : List (Int × List (Int × Int) × Int × Int) × List Int × Int) => Option.bind (D.f50F (x.1, x.2.1, x.2.2)) fun v1 => if
 ((v1.1.length : Int) == (0 : Int)) = true then some ((-1 : Int), v1.2) else if (0 : Int) ≤ IntKind.i64.wrap ((v1.1.length : Int) - (1 : Int)) ∧ IntKind.i64.wrap ((v1.1.length : Int) - (1 : Int)) < (v1.1.length : Int) then some (List.getD
 v1.1 (Int.toNat (IntKind.i64.wrap ((v1.1.length : Int) - (1 : Int)))) (0 : Int), v1.2) else none
theorem D.f22eq : ∀ x, runFn D.C D.f22Γ D.f22sig D.f22ann Go.Proofs.Try.f22 x = D.f22F x := by
  intro x
  kernel_rfl
noncomputable def D.f22con : Con := ⟨22, D.f22sig, D.f22F⟩
theorem D.f22ok : Con.Ok Go.Proofs.Try.prog D.C D.f22con :=
  runFn_ok (Γ := D.f22Γ) (an := D.f22ann) ⟨D.Cok, (mC D.f50ok mN), D.mixed⟩ Go.Proofs.Try.func22 rfl rfl (fun x y h => (D.f22eq x).trans h) (by decide)
end Go.Sx
