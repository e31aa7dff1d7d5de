import Derived.Test.YtjmmbgjdfmceeaaSxT9b
set_option maxRecDepth 100000
set_option maxHeartbeats 0
set_option linter.unusedVariables false
set_option linter.unusedSimpArgs false
namespace Go.Sx
open Go.Proofs
def D.f65sig : Sig := ⟨⟨[D.hP, D.hI], []⟩, ⟨[.hole (.st (.pair (.sl D.tI) (.pair (.int .i64) (.pair (.sl D.tS) (.int .i64))))), D.hI], []⟩⟩
noncomputable def D.f65Γ : List Con := [D.f26con]
def D.f65ann : Ann := (.seq .leaf (.seq (.block (.seq .leaf (.cond (.seq .leaf .leaf) (.seq (.join [⟨.normal, [(11, D.hB)], [.cells [.own 1, D.hI, .own 2, D.hI], .arr 72 D.tI, .arr 85 D.tO]⟩] .leaf) (.cond (.seq .leaf .leaf) .leaf)))))
 (.seq .leaf .leaf)))
/- ductus/ductusref21.New -/
noncomputable def D.f65F : List (Int × List (Int × Int) × Int × Int) × Int → Option ((List (Int × List (Int × Int) × Int × Int) × Int × List (List Int × Bool × List (Int × Int)) × Int) × Int) := fun (x : List (Int × List (Int × Int) × Int ×
 Int) × Int) => Option.bind (D.f26F x.1) fun v1 => if (!v1) = true then some (([], (0 : Int), [], (0 : Int)), (1 : Int)) else Option.bind (if decide (x.2 < (2 : Int)) = true then some (true, (0 : Int), (0 : Int), [], []) else some (decide
 (x.2 > (1000 : Int)), (0 : Int), (0 : Int), [], [])) fun (v2 : Bool × Int × Int × List (Int × List (Int × Int) × Int × Int) × List (List Int × Bool × Bool × List (Int × Int))) => if v2.1 = true then some (([], (0 : Int), [], (0 : Int)), (13
 : Int)) else some ((x.1, x.2, [], (0 : Int)), (0 : Int))
theorem D.f65eq : ∀ x, runFn D.C D.f65Γ D.f65sig D.f65ann Go.Proofs.Try.f65 x = D.f65F x := by
  intro x
  kernel_rfl
noncomputable def D.f65con : Con := ⟨65, D.f65sig, D.f65F⟩
theorem D.f65ok : Con.Ok Go.Proofs.Try.prog D.C D.f65con :=
  runFn_ok (Γ := D.f65Γ) (an := D.f65ann) ⟨D.Cok, (mC D.f26ok mN), D.mixed⟩ Go.Proofs.Try.func65 rfl rfl (fun x y h => (D.f65eq x).trans h) (by decide)
def D.f106sig : Sig := ⟨⟨[D.hL, D.hI], []⟩, ⟨[D.hB], []⟩⟩
noncomputable def D.f106Γ : List Con := []
def D.f106ann : Ann := (.seq .leaf (.seq (.seq .leaf (.block (.loop ⟨.normal, [(5, D.hI)], []⟩ [⟨(.exit 0), [], []⟩, ⟨.ret, [(4, D.hB)], []⟩] (.seq (.seq .leaf (.cond .leaf .leaf)) (.seq (.block (.seq (.join [⟨.normal, [(40, D.hB)], []⟩]
 .leaf) (.cond (.seq .leaf .leaf) .leaf))) .leaf))))) (.seq .leaf .leaf)))
noncomputable def D.f106F : List Int × Int → Option (Bool) := fun (x : List Int × Int) => Option.bind (iter (fun (s1 : Int) => if decide (s1 < (x.1.length : Int)) = true then Option.bind (if (0 : Int) ≤ s1 ∧ s1 < (x.1.length : Int) then if
 decide (List.getD x.1 (Int.toNat s1) (0 : Int) < (0 : Int)) = true then some true else if (0 : Int) ≤ s1 ∧ s1 < (x.1.length : Int) then if decide (List.getD x.1 (Int.toNat s1) (0 : Int) ≥ x.2) = true then some true else if decide (s1 > (0 :
 Int)) = true then if (0 : Int) ≤ IntKind.i64.wrap (s1 - (1 : Int)) ∧ IntKind.i64.wrap (s1 - (1 : Int)) < (x.1.length : Int) then if (0 : Int) ≤ s1 ∧ s1 < (x.1.length : Int) then some (decide (List.getD x.1 (Int.toNat (IntKind.i64.wrap (s1 -
 (1 : Int)))) (0 : Int) ≥ List.getD x.1 (Int.toNat s1) (0 : Int))) else none else none else some false else none else none) fun v2 => if v2 = true then some (Sum.inr (Sum.inr false)) else some (Sum.inl (IntKind.i64.wrap (s1 + (1 : Int))))
 else some (Sum.inr (Sum.inl ()))) (0 : Int)) fun v1 => Sum.elim (fun (p2 : PUnit) => some (decide ((x.1.length : Int) > (0 : Int)))) (fun (q2 : Bool) => some q2) v1
theorem D.f106eq : ∀ x, runFn D.C D.f106Γ D.f106sig D.f106ann Go.Proofs.Try.f106 x = D.f106F x := by
  intro x
  kernel_rfl
noncomputable def D.f106con : Con := ⟨106, D.f106sig, D.f106F⟩
theorem D.f106ok : Con.Ok Go.Proofs.Try.prog D.C D.f106con :=
  runFn_ok (Γ := D.f106Γ) (an := D.f106ann) ⟨D.Cok, mN, D.mixed⟩ Go.Proofs.Try.func106 rfl rfl (fun x y h => (D.f106eq x).trans h) (by decide)
def D.f16sig : Sig := ⟨⟨[D.hL, D.hL], []⟩, ⟨[D.hB], []⟩⟩
noncomputable def D.f16Γ : List Con := []
def D.f16ann : Ann := (.seq .leaf (.seq (.seq .leaf (.cond (.seq .leaf .leaf) .leaf)) (.seq (.seq .leaf (.block (.loop ⟨.normal, [(5, D.hI)], []⟩ [⟨(.exit 0), [], []⟩, ⟨.ret, [(4, D.hB)], []⟩] (.seq (.seq .leaf (.cond .leaf .leaf)) (.seq
 (.block (.seq .leaf (.cond (.seq .leaf .leaf) .leaf))) .leaf))))) (.seq .leaf .leaf))))
noncomputable def D.f16F : List Int × List Int → Option (Bool) := fun (x : List Int × List Int) => if ((x.1.length : Int) != (x.2.length : Int)) = true then some false else Option.bind (iter (fun (s1 : Int) => if decide (s1 < (x.1.length :
 Int)) = true then if (0 : Int) ≤ s1 ∧ s1 < (x.1.length : Int) then if (0 : Int) ≤ s1 ∧ s1 < (x.2.length : Int) then if (List.getD x.1 (Int.toNat s1) (0 : Int) != List.getD x.2 (Int.toNat s1) (0 : Int)) = true then some (Sum.inr (Sum.inr
 false)) else some (Sum.inl (IntKind.i64.wrap (s1 + (1 : Int)))) else none else none else some (Sum.inr (Sum.inl ()))) (0 : Int)) fun v1 => Sum.elim (fun (p2 : PUnit) => some true) (fun (q2 : Bool) => some q2) v1
theorem D.f16eq : ∀ x, runFn D.C D.f16Γ D.f16sig D.f16ann Go.Proofs.Try.f16 x = D.f16F x := by
  intro x
  kernel_rfl
noncomputable def D.f16con : Con := ⟨16, D.f16sig, D.f16F⟩
theorem D.f16ok : Con.Ok Go.Proofs.Try.prog D.C D.f16con :=
  runFn_ok (Γ := D.f16Γ) (an := D.f16ann) ⟨D.Cok, mN, D.mixed⟩ Go.Proofs.Try.func16 rfl rfl (fun x y h => (D.f16eq x).trans h) (by decide)
def D.f107sig : Sig := ⟨⟨[.hole (.st (.pair (.sl D.tI) (.pair (.int .i64) (.pair (.sl D.tS) (.int .i64))))), D.hL, D.hB], []⟩, ⟨[D.hI], []⟩⟩
noncomputable def D.f107Γ : List Con := [D.f16con]
def D.f107ann : Ann := (.seq .leaf (.seq (.seq .leaf (.block (.loop ⟨.normal, [(7, D.hI)], [.cells [D.hP, D.hI, .hole (.sl D.tS), D.hI]]⟩ [⟨(.exit 0), [], [.gone]⟩, ⟨.ret, [(6, D.hI)], [.gone]⟩] (.seq (.seq .leaf (.cond .leaf .leaf)) (.seq
 (.block (.seq (.join [⟨.normal, [(32, D.hB)], [.cells [D.hP, D.hI, .hole (.sl D.tS), D.hI]]⟩] .leaf) (.cond (.seq .leaf .leaf) .leaf))) .leaf))))) (.seq .leaf .leaf)))
noncomputable def D.f107F : (List (Int × List (Int × Int) × Int × Int) × Int × List (List Int × Bool × List (Int × Int)) × Int) × List Int × Bool → Option (Int) := fun (x : (List (Int × List (Int × Int) × Int × Int) × Int × List (List Int ×
 Bool × List (Int × Int)) × Int) × List Int × Bool) => Option.bind (iter (fun (s1 : Int × List (Int × List (Int × Int) × Int × Int) × Int × List (List Int × Bool × List (Int × Int)) × Int) => if decide (s1.1 < (s1.2.2.2.1.length : Int)) =
 true then Option.bind (if (0 : Int) ≤ s1.1 ∧ s1.1 < (s1.2.2.2.1.length : Int) then if ((List.getD s1.2.2.2.1 (Int.toNat s1.1) ([], false, [])).2.1 == x.2.2) = true then if (0 : Int) ≤ s1.1 ∧ s1.1 < (s1.2.2.2.1.length : Int) then Option.bind
 (D.f16F ((List.getD s1.2.2.2.1 (Int.toNat s1.1) ([], false, [])).1, x.2.1)) fun v2 => some (v2, s1.2.1, s1.2.2.1, s1.2.2.2.1, s1.2.2.2.2) else none else some (false, s1.2.1, s1.2.2.1, s1.2.2.2.1, s1.2.2.2.2) else none) fun (v2 : Bool × List
 (Int × List (Int × Int) × Int × Int) × Int × List (List Int × Bool × List (Int × Int)) × Int) => if v2.1 = true then some (Sum.inr (Sum.inr s1.1)) else some (Sum.inl (IntKind.i64.wrap (s1.1 + (1 : Int)), v2.2.1, v2.2.2.1, v2.2.2.2.1,
 v2.2.2.2.2)) else some (Sum.inr (Sum.inl ()))) ((0 : Int), x.1.1, x.1.2.1, x.1.2.2.1, x.1.2.2.2)) fun v1 => Sum.elim (fun (p2 : PUnit) => some (-1 : Int)) (fun (q2 : Int) => some q2) v1
theorem D.f107eq : ∀ x, runFn D.C D.f107Γ D.f107sig D.f107ann Go.Proofs.Try.f107 x = D.f107F x := by
  intro x
  kernel_rfl
noncomputable def D.f107con : Con := ⟨107, D.f107sig, D.f107F⟩
theorem D.f107ok : Con.Ok Go.Proofs.Try.prog D.C D.f107con :=
  runFn_ok (Γ := D.f107Γ) (an := D.f107ann) ⟨D.Cok, (mC D.f16ok mN), D.mixed⟩ Go.Proofs.Try.func107 rfl rfl (fun x y h => (D.f107eq x).trans h) (by decide)
def D.f108sig : Sig := ⟨⟨[.hole (.st (.pair (.sl D.tI) (.pair (.int .i64) (.pair (.sl D.tS) (.int .i64))))), .hole D.tS, D.hI], []⟩, ⟨[D.hL], []⟩⟩
noncomputable def D.f108Γ : List Con := [D.f18con, D.f20con]
def D.f108ann : Ann := (.seq .leaf (.seq .draw .leaf))
noncomputable def D.f108F : (List (Int × List (Int × Int) × Int × Int) × Int × List (List Int × Bool × List (Int × Int)) × Int) × (List Int × Bool × List (Int × Int)) × Int → Option (List Int) := fun (x : (List (Int × List (Int × Int) × Int
 × Int) × Int × List (List Int × Bool × List (Int × Int)) × Int) × (List Int × Bool × List (Int × Int)) × Int) => Option.bind (D.f18F (x.1.1, x.2.1.1, x.2.1.2.1, false)) fun v1 => Option.bind (D.f20F (x.1.1, v1, x.2.2)) fun v2 => some v2
theorem D.f108eq : ∀ x, runFn D.C D.f108Γ D.f108sig D.f108ann Go.Proofs.Try.f108 x = D.f108F x := by
  intro x
  kernel_rfl
noncomputable def D.f108con : Con := ⟨108, D.f108sig, D.f108F⟩
theorem D.f108ok : Con.Ok Go.Proofs.Try.prog D.C D.f108con :=
  runFn_ok (Γ := D.f108Γ) (an := D.f108ann) ⟨D.Cok, (mC D.f18ok (mC D.f20ok mN)), D.mixed⟩ Go.Proofs.Try.func108 rfl rfl (fun x y h => (D.f108eq x).trans h) (by decide)
def D.f93sig : Sig := ⟨⟨[.hole (.st (.pair (.sl D.tI) (.pair (.int .i64) (.pair (.sl D.tS) (.int .i64)))))], []⟩, ⟨[D.hB], []⟩⟩
noncomputable def D.f93Γ : List Con := [D.f26con, D.f106con, D.f107con, D.f108con]
def D.f93ann : Ann := (.seq .leaf (.seq (.seq (.join [⟨.normal, [(35, D.hB)], [.cells [D.hP, D.hI, .hole (.sl D.tS), D.hI]]⟩] .leaf) (.cond (.seq .leaf .leaf) .leaf)) (.seq (.seq .leaf (.block (.loop ⟨.normal, [(3, D.hI)], [.cells [D.hP,
 D.hI, .hole (.sl D.tS), D.hI]]⟩ [⟨(.exit 0), [], [.gone]⟩, ⟨.ret, [(2, D.hB)], [.gone]⟩] (.seq (.seq .leaf (.cond .leaf .leaf)) (.seq (.block (.seq .leaf (.seq (.seq (.join [⟨.normal, [(64, D.hB)], [.cells [D.hP, D.hI, .hole (.sl D.tS),
 D.hI], .cells [D.hL, D.hB, .hole (.sl D.tP)]]⟩] .leaf) (.cond (.seq .leaf .leaf) .leaf)) (.seq .leaf (.block (.loop ⟨.normal, [(5, D.hI)], [.cells [D.hP, D.hI, .hole (.sl D.tS), D.hI], .cells [D.hL, D.hB, .hole (.sl D.tP)]]⟩ [⟨(.exit 2),
 [], [.cells [D.hP, D.hI, .hole (.sl D.tS), D.hI], .gone]⟩, ⟨.ret, [(2, D.hB)], [.gone, .gone]⟩] (.seq (.seq .leaf (.cond .leaf .leaf)) (.seq (.block (.seq .leaf (.seq (.seq .leaf (.block (.loop ⟨.normal, [(7, D.hI)], [.cells [D.hP, D.hI,
 .hole (.sl D.tS), D.hI], .cells [D.hL, D.hB, .hole (.sl D.tP)], .cells [D.hI, D.hI]]⟩ [⟨(.exit 4), [], [.cells [D.hP, D.hI, .hole (.sl D.tS), D.hI], .cells [D.hL, D.hB, .hole (.sl D.tP)], .cells [D.hI, D.hI]]⟩, ⟨.ret, [(2, D.hB)], [.gone,
 .gone, .gone]⟩] (.seq (.seq .leaf (.cond .leaf .leaf)) (.seq (.block (.seq .leaf (.cond (.seq .leaf .leaf) .leaf))) .leaf))))) (.seq .leaf (.seq (.join [⟨.normal, [(121, D.hB)], [.cells [D.hP, D.hI, .hole (.sl D.tS), D.hI], .cells [D.hL,
 D.hB, .hole (.sl D.tP)], .gone]⟩] .leaf) (.cond (.seq .leaf .leaf) .leaf)))))) .leaf)))))))) .leaf))))) (.seq .leaf .leaf))))
noncomputable def D.f93F : List (Int × List (Int × Int) × Int × Int) × Int × List (List Int × Bool × List (Int × Int)) × Int → Option (Bool) := fun (x : List (Int × List (Int × Int) × Int × Int) × Int × List (List Int × Bool × List (Int ×
 Int)) × Int) => Option.bind (Option.bind (D.f26F x.1) fun v1 => if (!v1) = true then some (true, x.1, x.2.1, x.2.2.1, x.2.2.2) else if decide (x.2.1 < (2 : Int)) = true then some (true, x.1, x.2.1, x.2.2.1, x.2.2.2) else if decide (x.2.1 >
 (1000 : Int)) = true then some (true, x.1, x.2.1, x.2.2.1, x.2.2.2) else if decide (x.2.2.2 < (0 : Int)) = true then some (true, x.1, x.2.1, x.2.2.1, x.2.2.2) else some (decide ((x.2.2.1.length : Int) > x.2.1), x.1, x.2.1, x.2.2.1,
 x.2.2.2)) fun (v1 : Bool × List (Int × List (Int × Int) × Int × Int) × Int × List (List Int × Bool × List (Int × Int)) × Int) => if v1.1 = true then some false else Option.bind (iter (fun (s2 : Int × List (Int × List (Int × Int) × Int ×
 Int) × Int × List (List Int × Bool × List (Int × Int)) × Int) => if decide (s2.1 < (s2.2.2.2.1.length : Int)) = true then if (0 : Int) ≤ s2.1 ∧ s2.1 < (s2.2.2.2.1.length : Int) then Option.bind (Option.bind (D.f106F ((List.getD s2.2.2.2.1
 (Int.toNat s2.1) ([], false, [])).1, (s2.2.1.length : Int))) fun v3 => if (!v3) = true then some (true, s2.2.1, s2.2.2.1, s2.2.2.2.1, s2.2.2.2.2, (List.getD s2.2.2.2.1 (Int.toNat s2.1) ([], false, [])).1, (List.getD s2.2.2.2.1 (Int.toNat
 s2.1) ([], false, [])).2.1, (List.getD s2.2.2.2.1 (Int.toNat s2.1) ([], false, [])).2.2) else Option.bind (D.f107F ((s2.2.1, s2.2.2.1, s2.2.2.2.1, s2.2.2.2.2), (List.getD s2.2.2.2.1 (Int.toNat s2.1) ([], false, [])).1, (List.getD s2.2.2.2.1
 (Int.toNat s2.1) ([], false, [])).2.1)) fun v4 => some (v4 != s2.1, s2.2.1, s2.2.2.1, s2.2.2.2.1, s2.2.2.2.2, (List.getD s2.2.2.2.1 (Int.toNat s2.1) ([], false, [])).1, (List.getD s2.2.2.2.1 (Int.toNat s2.1) ([], false, [])).2.1, (List.getD
 s2.2.2.2.1 (Int.toNat s2.1) ([], false, [])).2.2)) fun (v3 : Bool × List (Int × List (Int × Int) × Int × Int) × Int × List (List Int × Bool × List (Int × Int)) × Int × List Int × Bool × List (Int × Int)) => if v3.1 = true then some (Sum.inr
 (Sum.inr false)) else Option.bind (iter (fun (s4 : Int × List (Int × List (Int × Int) × Int × Int) × Int × List (List Int × Bool × List (Int × Int)) × Int × List Int × Bool × List (Int × Int)) => if decide (s4.1 < (s4.2.2.2.2.2.2.2.length :
 Int)) = true then if (0 : Int) ≤ s4.1 ∧ s4.1 < (s4.2.2.2.2.2.2.2.length : Int) then Option.bind (iter (fun (s5 : Int × List (Int × List (Int × Int) × Int × Int) × Int × List (List Int × Bool × List (Int × Int)) × Int × List Int × Bool ×
 List (Int × Int) × Int × Int) => if decide (s5.1 < s4.1) = true then if (0 : Int) ≤ s5.1 ∧ s5.1 < (s5.2.2.2.2.2.2.2.1.length : Int) then if ((List.getD s5.2.2.2.2.2.2.2.1 (Int.toNat s5.1) ((0 : Int), (0 : Int))).1 == s5.2.2.2.2.2.2.2.2.1) =
 true then some (Sum.inr (Sum.inr false)) else some (Sum.inl (IntKind.i64.wrap (s5.1 + (1 : Int)), s5.2.1, s5.2.2.1, s5.2.2.2.1, s5.2.2.2.2.1, s5.2.2.2.2.2.1, s5.2.2.2.2.2.2.1, s5.2.2.2.2.2.2.2.1, s5.2.2.2.2.2.2.2.2.1, s5.2.2.2.2.2.2.2.2.2))
 else none else some (Sum.inr (Sum.inl (s5.2.1, s5.2.2.1, s5.2.2.2.1, s5.2.2.2.2.1, s5.2.2.2.2.2.1, s5.2.2.2.2.2.2.1, s5.2.2.2.2.2.2.2.1, s5.2.2.2.2.2.2.2.2.1, s5.2.2.2.2.2.2.2.2.2)))) ((0 : Int), s4.2.1, s4.2.2.1, s4.2.2.2.1, s4.2.2.2.2.1,
 s4.2.2.2.2.2.1, s4.2.2.2.2.2.2.1, s4.2.2.2.2.2.2.2, (List.getD s4.2.2.2.2.2.2.2 (Int.toNat s4.1) ((0 : Int), (0 : Int))).1, (List.getD s4.2.2.2.2.2.2.2 (Int.toNat s4.1) ((0 : Int), (0 : Int))).2)) fun (v5 : List (Int × List (Int × Int) ×
 Int × Int) × Int × List (List Int × Bool × List (Int × Int)) × Int × List Int × Bool × List (Int × Int) × Int × Int ⊕ Bool) => Sum.elim (fun (p6 : List (Int × List (Int × Int) × Int × Int) × Int × List (List Int × Bool × List (Int × Int)) ×
 Int × List Int × Bool × List (Int × Int) × Int × Int) => Option.bind (D.f108F ((p6.1, p6.2.1, p6.2.2.1, p6.2.2.2.1), (p6.2.2.2.2.1, p6.2.2.2.2.2.1, p6.2.2.2.2.2.2.1), p6.2.2.2.2.2.2.2.1)) fun v7 => Option.bind (if ((v7.length : Int) == (0 :
 Int)) = true then if (p6.2.2.2.2.2.2.2.2 != (-1 : Int)) = true then some (true, p6.1, p6.2.1, p6.2.2.1, p6.2.2.2.1, p6.2.2.2.2.1, p6.2.2.2.2.2.1, p6.2.2.2.2.2.2.1) else if decide ((v7.length : Int) > (0 : Int)) = true then if decide
 (p6.2.2.2.2.2.2.2.2 < (0 : Int)) = true then some (true, p6.1, p6.2.1, p6.2.2.1, p6.2.2.2.1, p6.2.2.2.2.1, p6.2.2.2.2.2.1, p6.2.2.2.2.2.2.1) else Option.bind (D.f107F ((p6.1, p6.2.1, p6.2.2.1, p6.2.2.2.1), v7, false)) fun v8 => some
 (p6.2.2.2.2.2.2.2.2 != v8, p6.1, p6.2.1, p6.2.2.1, p6.2.2.2.1, p6.2.2.2.2.1, p6.2.2.2.2.2.1, p6.2.2.2.2.2.2.1) else some (false, p6.1, p6.2.1, p6.2.2.1, p6.2.2.2.1, p6.2.2.2.2.1, p6.2.2.2.2.2.1, p6.2.2.2.2.2.2.1) else if decide ((v7.length
 : Int) > (0 : Int)) = true then if decide (p6.2.2.2.2.2.2.2.2 < (0 : Int)) = true then some (true, p6.1, p6.2.1, p6.2.2.1, p6.2.2.2.1, p6.2.2.2.2.1, p6.2.2.2.2.2.1, p6.2.2.2.2.2.2.1) else Option.bind (D.f107F ((p6.1, p6.2.1, p6.2.2.1,
 p6.2.2.2.1), v7, false)) fun v8 => some (p6.2.2.2.2.2.2.2.2 != v8, p6.1, p6.2.1, p6.2.2.1, p6.2.2.2.1, p6.2.2.2.2.1, p6.2.2.2.2.2.1, p6.2.2.2.2.2.2.1) else some (false, p6.1, p6.2.1, p6.2.2.1, p6.2.2.2.1, p6.2.2.2.2.1, p6.2.2.2.2.2.1,
 p6.2.2.2.2.2.2.1)) fun (v8 : Bool × List (Int × List (Int × Int) × Int × Int) × Int × List (List Int × Bool × List (Int × Int)) × Int × List Int × Bool × List (Int × Int)) => if v8.1 = true then some (Sum.inr (Sum.inr false)) else some
 (Sum.inl (IntKind.i64.wrap (s4.1 + (1 : Int)), v8.2.1, v8.2.2.1, v8.2.2.2.1, v8.2.2.2.2.1, v8.2.2.2.2.2.1, v8.2.2.2.2.2.2.1, v8.2.2.2.2.2.2.2))) (fun (q6 : Bool) => some (Sum.inr (Sum.inr q6))) v5 else none else some (Sum.inr (Sum.inl
 (s4.2.1, s4.2.2.1, s4.2.2.2.1, s4.2.2.2.2.1)))) ((0 : Int), v3.2.1, v3.2.2.1, v3.2.2.2.1, v3.2.2.2.2.1, v3.2.2.2.2.2.1, v3.2.2.2.2.2.2.1, v3.2.2.2.2.2.2.2)) fun (v4 : List (Int × List (Int × Int) × Int × Int) × Int × List (List Int × Bool ×
 List (Int × Int)) × Int ⊕ Bool) => Sum.elim (fun (p5 : List (Int × List (Int × Int) × Int × Int) × Int × List (List Int × Bool × List (Int × Int)) × Int) => some (Sum.inl (IntKind.i64.wrap (s2.1 + (1 : Int)), p5.1, p5.2.1, p5.2.2.1,
 p5.2.2.2))) (fun (q5 : Bool) => some (Sum.inr (Sum.inr q5))) v4 else none else some (Sum.inr (Sum.inl ()))) ((0 : Int), v1.2.1, v1.2.2.1, v1.2.2.2.1, v1.2.2.2.2)) fun v2 => Sum.elim (fun (p3 : PUnit) => some true) (fun (q3 : Bool) => some
 q3) v2
theorem D.f93eq : ∀ x, runFn D.C D.f93Γ D.f93sig D.f93ann Go.Proofs.Try.f93 x = D.f93F x := by
  intro x
  kernel_rfl
noncomputable def D.f93con : Con := ⟨93, D.f93sig, D.f93F⟩
theorem D.f93ok : Con.Ok Go.Proofs.Try.prog D.C D.f93con :=
  runFn_ok (Γ := D.f93Γ) (an := D.f93ann) ⟨D.Cok, (mC D.f26ok (mC D.f106ok (mC D.f107ok (mC D.f108ok mN)))), D.mixed⟩ Go.Proofs.Try.func93 rfl rfl (fun x y h => (D.f93eq x).trans h) (by decide)
def D.f95sig : Sig := ⟨⟨[.hole (.st (.pair (.sl D.tI) (.pair (.int .i64) (.pair (.sl D.tS) (.int .i64)))))], []⟩, ⟨[.agn 4, D.hP, D.hI, .own 0, D.hI], [.arr 85 D.tO]⟩⟩
noncomputable def D.f95Γ : List Con := []
def D.f95ann : Ann := (.seq .leaf (.seq .leaf (.seq .leaf (.seq (.seq .leaf (.block (.loop ⟨.normal, [(4, D.hI)], [.cells [D.hP, D.hI, .hole (.sl D.tS), D.hI], .cells [.own 3, D.hI, .own 4, D.hI], .cells [D.hP, D.hI, .own 5, D.hI], .arr 72
 D.tI, .arr 85 D.tO, .arr 85 D.tO]⟩ [⟨(.exit 0), [], [.gone, .cells [.own 3, D.hI, .own 4, D.hI], .cells [D.hP, D.hI, .own 5, D.hI], .arr 72 D.tI, .arr 85 D.tO, .arr 85 D.tO]⟩] (.seq (.seq .leaf (.cond .leaf .leaf)) (.seq (.block (.seq .leaf
 (.seq .leaf (.seq .leaf .leaf)))) .leaf))))) (.seq .leaf .leaf)))))
noncomputable def D.f95F : List (Int × List (Int × Int) × Int × Int) × Int × List (List Int × Bool × List (Int × Int)) × Int → Option (List (Int × List (Int × Int) × Int × Int) × Int × Int × List (List Int × Bool × Bool × List (Int × Int)))
 := fun (x : List (Int × List (Int × Int) × Int × Int) × Int × List (List Int × Bool × List (Int × Int)) × Int) => Option.bind (iter (fun (s1 : Int × List (Int × List (Int × Int) × Int × Int) × Int × List (List Int × Bool × List (Int × Int))
 × Int × Int × Int × List (Int × List (Int × Int) × Int × Int) × Int × Int × List (Int × List (Int × Int) × Int × Int) × List (List Int × Bool × Bool × List (Int × Int)) × List (List Int × Bool × Bool × List (Int × Int))) => if decide (s1.1
 < (s1.2.2.2.1.length : Int)) = true then if (0 : Int) ≤ s1.1 ∧ s1.1 < (s1.2.2.2.1.length : Int) then if roomOk ((0 : Nat) + List.length (List.getD s1.2.2.2.1 (Int.toNat s1.1) ([], false, [])).1) (8 : Nat) then if roomOk ((0 : Nat) +
 List.length (List.getD s1.2.2.2.1 (Int.toNat s1.1) ([], false, [])).2.2) (16 : Nat) then if roomOk (List.length s1.2.2.2.2.2.2.2.2.2.2.2.2 + (1 : Nat)) (56 : Nat) then some (Sum.inl (IntKind.i64.wrap (s1.1 + (1 : Int)), s1.2.1, s1.2.2.1,
 s1.2.2.2.1, s1.2.2.2.2.1, s1.2.2.2.2.2.1, s1.2.2.2.2.2.2.1, s1.2.2.2.2.2.2.2.1, s1.2.2.2.2.2.2.2.2.1, s1.2.2.2.2.2.2.2.2.2.1, s1.2.2.2.2.2.2.2.2.2.2.1, s1.2.2.2.2.2.2.2.2.2.2.2.1, s1.2.2.2.2.2.2.2.2.2.2.2.2 ++ [([] ++ (List.getD s1.2.2.2.1
 (Int.toNat s1.1) ([], false, [])).1, (List.getD s1.2.2.2.1 (Int.toNat s1.1) ([], false, [])).2.1, true, [] ++ (List.getD s1.2.2.2.1 (Int.toNat s1.1) ([], false, [])).2.2)])) else none else none else none else none else some (Sum.inr
 (s1.2.2.2.2.2.1, s1.2.2.2.2.2.2.1, s1.2.2.2.2.2.2.2.1, s1.2.2.2.2.2.2.2.2.1, s1.2.2.2.2.2.2.2.2.2.1, s1.2.2.2.2.2.2.2.2.2.2.1, s1.2.2.2.2.2.2.2.2.2.2.2.1, s1.2.2.2.2.2.2.2.2.2.2.2.2))) ((0 : Int), x.1, x.2.1, x.2.2.1, x.2.2.2, (0 : Int), (0
 : Int), x.1, x.2.1, x.2.2.2, [], [], [])) fun (v1 : Int × Int × List (Int × List (Int × Int) × Int × Int) × Int × Int × List (Int × List (Int × Int) × Int × Int) × List (List Int × Bool × Bool × List (Int × Int)) × List (List Int × Bool ×
 Bool × List (Int × Int))) => some (v1.2.2.1, v1.2.2.2.1, v1.2.2.2.2.1, v1.2.2.2.2.2.2.2)
theorem D.f95eq : ∀ x, runFn D.C D.f95Γ D.f95sig D.f95ann Go.Proofs.Try.f95 x = D.f95F x := by
  intro x
  kernel_rfl
noncomputable def D.f95con : Con := ⟨95, D.f95sig, D.f95F⟩
theorem D.f95ok : Con.Ok Go.Proofs.Try.prog D.C D.f95con :=
  runFn_ok (Γ := D.f95Γ) (an := D.f95ann) ⟨D.Cok, mN, D.mixed⟩ Go.Proofs.Try.func95 rfl rfl (fun x y h => (D.f95eq x).trans h) (by decide)
def D.s17sig : Sig := ⟨⟨[.agn 4, D.hP, D.hI, .own 0, D.hI, D.hL, D.hB], [.arr 85 D.tO]⟩, ⟨[D.hI], [.arr 85 D.tO]⟩⟩
noncomputable def D.s17Γ : List Con := [D.f16con]
def D.s17ann : Ann := (.seq .leaf (.seq (.seq .leaf (.block (.loop ⟨.normal, [(7, D.hI)], [.arr 85 D.tO, .cells [D.hP, D.hI, .own 0, D.hI]]⟩ [⟨(.exit 0), [], [.arr 85 D.tO, .gone]⟩, ⟨.ret, [(6, D.hI)], [.arr 85 D.tO, .gone]⟩] (.seq (.seq
 .leaf (.cond .leaf .leaf)) (.seq (.block (.seq (.join [⟨.normal, [(32, D.hB)], [.arr 85 D.tO, .cells [D.hP, D.hI, .own 0, D.hI]]⟩] .leaf) (.cond (.seq .leaf .leaf) .leaf))) .leaf))))) (.seq .leaf .leaf)))
noncomputable def D.s17F : List (Int × List (Int × Int) × Int × Int) × Int × Int × List Int × Bool × List (List Int × Bool × Bool × List (Int × Int)) → Option (Int × List (List Int × Bool × Bool × List (Int × Int))) := fun (x : List (Int ×
 List (Int × Int) × Int × Int) × Int × Int × List Int × Bool × List (List Int × Bool × Bool × List (Int × Int))) => Option.bind (iter (fun (s1 : Int × List (List Int × Bool × Bool × List (Int × Int)) × List (Int × List (Int × Int) × Int ×
 Int) × Int × Int) => if decide (s1.1 < (s1.2.1.length : Int)) = true then Option.bind (if (0 : Int) ≤ s1.1 ∧ s1.1 < (s1.2.1.length : Int) then if ((List.getD s1.2.1 (Int.toNat s1.1) ([], false, false, [])).2.1 == x.2.2.2.2.1) = true then if
 (0 : Int) ≤ s1.1 ∧ s1.1 < (s1.2.1.length : Int) then Option.bind (D.f16F ((List.getD s1.2.1 (Int.toNat s1.1) ([], false, false, [])).1, x.2.2.2.1)) fun v2 => some (v2, s1.2.1, s1.2.2.1, s1.2.2.2.1, s1.2.2.2.2) else none else some (false,
 s1.2.1, s1.2.2.1, s1.2.2.2.1, s1.2.2.2.2) else none) fun (v2 : Bool × List (List Int × Bool × Bool × List (Int × Int)) × List (Int × List (Int × Int) × Int × Int) × Int × Int) => if v2.1 = true then some (Sum.inr (Sum.inr (s1.1, v2.2.1)))
 else some (Sum.inl (IntKind.i64.wrap (s1.1 + (1 : Int)), v2.2.1, v2.2.2.1, v2.2.2.2.1, v2.2.2.2.2)) else some (Sum.inr (Sum.inl s1.2.1))) ((0 : Int), x.2.2.2.2.2, x.1, x.2.1, x.2.2.1)) fun (v1 : List (List Int × Bool × Bool × List (Int ×
 Int)) ⊕ Int × List (List Int × Bool × Bool × List (Int × Int))) => Sum.elim (fun (p2 : List (List Int × Bool × Bool × List (Int × Int))) => some ((-1 : Int), p2)) (fun (q2 : Int × List (List Int × Bool × Bool × List (Int × Int))) => some
 (q2.1, q2.2)) v1
theorem D.s17eq : ∀ x, runFn D.C D.s17Γ D.s17sig D.s17ann Go.Proofs.Try.f107 x = D.s17F x := by
  intro x
  kernel_rfl
noncomputable def D.s17con : Con := ⟨107, D.s17sig, D.s17F⟩
theorem D.s17ok : Con.Ok Go.Proofs.Try.prog D.C D.s17con :=
  runFn_ok (Γ := D.s17Γ) (an := D.s17ann) ⟨D.Cok, (mC D.f16ok mN), D.mixed⟩ Go.Proofs.Try.func107 rfl rfl (fun x y h => (D.s17eq x).trans h) (by decide)
def D.f94sig : Sig := ⟨⟨[.agn 4, D.hP, D.hI, .own 0, D.hI, D.hL, D.hB], [.arr 85 D.tO]⟩, ⟨[.agn 4, D.hP, D.hI, .own 1, D.hI, D.hI, D.hB], [.gone, .arr 85 D.tO]⟩⟩
noncomputable def D.f94Γ : List Con := [D.s17con]
def D.f94ann : Ann := (.seq .leaf (.seq .leaf (.seq (.seq .leaf (.cond (.seq .leaf .leaf) .leaf)) (.seq .leaf (.seq (.join [⟨.normal, [], [.gone, .cells [D.hP, D.hI, .own 3, D.hI], .cells [.own 4, D.hI, .own 5, D.hI], .arr 85 D.tO, .arr 72
 D.tI, .arr 85 D.tO]⟩] (.seq .leaf (.cond (.seq .leaf .leaf) .leaf))) (.seq .leaf (.seq (.eff 12 [] [0, 0, 2, 6, 14, 0, 1, 95, 255]) .leaf)))))))
noncomputable def D.f94F : List (Int × List (Int × Int) × Int × Int) × Int × Int × List Int × Bool × List (List Int × Bool × Bool × List (Int × Int)) → Option (List (Int × List (Int × Int) × Int × Int) × Int × Int × Int × Bool × List (List
 Int × Bool × Bool × List (Int × Int))) := fun (x : List (Int × List (Int × Int) × Int × Int) × Int × Int × List Int × Bool × List (List Int × Bool × Bool × List (Int × Int))) => Option.bind (D.s17F (x.1, x.2.1, x.2.2.1, x.2.2.2.1,
 x.2.2.2.2.1, x.2.2.2.2.2)) fun v1 => if decide (v1.1 ≥ (0 : Int)) = true then some (x.1, x.2.1, x.2.2.1, v1.1, false, v1.2) else Option.bind (if ((v1.2.length : Int) == x.2.1) = true then some (x.1, x.2.1, IntKind.i64.wrap (x.2.2.1 + (1 :
 Int)), (0 : Int), (0 : Int), [], [], []) else some (x.1, x.2.1, x.2.2.1, (0 : Int), (0 : Int), v1.2, [], [])) fun (v2 : List (Int × List (Int × Int) × Int × Int) × Int × Int × Int × Int × List (List Int × Bool × Bool × List (Int × Int)) ×
 List (Int × List (Int × Int) × Int × Int) × List (List Int × Bool × Bool × List (Int × Int))) => if roomOk ((0 : Nat) + List.length v2.2.2.2.2.2.1) (56 : Nat) then if roomOk ((0 : Nat) + List.length x.2.2.2.1) (8 : Nat) then if roomOk
 (List.length ([] ++ v2.2.2.2.2.2.1) + (1 : Nat)) (56 : Nat) then some (v2.1, v2.2.1, v2.2.2.1, IntKind.i64.wrap ((↑(List.length (List.map (Ty.weak (Ty.st (Ty.pair (Ty.sl (Ty.int IntKind.i64)) (Ty.pair Ty.bool (Ty.osl (Ty.st (Ty.pair (Ty.int
 IntKind.i64) (Ty.int IntKind.i64)))))))) ([] ++ v2.2.2.2.2.2.1 ++ [([] ++ x.2.2.2.1, x.2.2.2.2.1, true, [])]))) : Int) - (1 : Int)), (v1.2.length : Int) == x.2.1, [] ++ v2.2.2.2.2.2.1 ++ [([] ++ x.2.2.2.1, x.2.2.2.2.1, true, [])]) else none
 else none else none
theorem D.f94eq : ∀ x, runFn D.C D.f94Γ D.f94sig D.f94ann Go.Proofs.Try.f94 x = D.f94F x := by
  intro x
  kernel_rfl
noncomputable def D.f94con : Con := ⟨94, D.f94sig, D.f94F⟩
theorem D.f94ok : Con.Ok Go.Proofs.Try.prog D.C D.f94con :=
  runFn_ok (Γ := D.f94Γ) (an := D.f94ann) ⟨D.Cok, (mC D.s17ok mN), D.mixed⟩ Go.Proofs.Try.func94 rfl rfl (fun x y h => (D.f94eq x).trans h) (by decide)
def D.s18sig : Sig := ⟨⟨[.agn 4, D.hP, D.hI, .own 0, D.hI, .hole D.tS, D.hI], [.arr 85 D.tO]⟩, ⟨[D.hL], [.arr 85 D.tO]⟩⟩
noncomputable def D.s18Γ : List Con := [D.f18con, D.f20con]
def D.s18ann : Ann := (.seq .leaf (.seq .draw .leaf))
noncomputable def D.s18F : List (Int × List (Int × Int) × Int × Int) × Int × Int × (List Int × Bool × List (Int × Int)) × Int × List (List Int × Bool × Bool × List (Int × Int)) → Option (List Int × List (List Int × Bool × Bool × List (Int ×
 Int))) := fun (x : List (Int × List (Int × Int) × Int × Int) × Int × Int × (List Int × Bool × List (Int × Int)) × Int × List (List Int × Bool × Bool × List (Int × Int))) => Option.bind (D.f18F (x.1, x.2.2.2.1.1, x.2.2.2.1.2.1, false)) fun
 v1 => Option.bind (D.f20F (x.1, v1, x.2.2.2.2.1)) fun v2 => some (v2, x.2.2.2.2.2)
theorem D.s18eq : ∀ x, runFn D.C D.s18Γ D.s18sig D.s18ann Go.Proofs.Try.f108 x = D.s18F x := by
  intro x
  kernel_rfl
noncomputable def D.s18con : Con := ⟨108, D.s18sig, D.s18F⟩
theorem D.s18ok : Con.Ok Go.Proofs.Try.prog D.C D.s18con :=
  runFn_ok (Γ := D.s18Γ) (an := D.s18ann) ⟨D.Cok, (mC D.f18ok (mC D.f20ok mN)), D.mixed⟩ Go.Proofs.Try.func108 rfl rfl (fun x y h => (D.s18eq x).trans h) (by decide)
def D.f96sig : Sig := ⟨⟨[.agn 4, D.hP, D.hI, .own 0, D.hI, D.hI, D.hI], [.arr 85 D.tO]⟩, ⟨[.agn 4, D.hP, D.hI, .own 1, D.hI, D.hI], [.gone, .arr 85 D.tO]⟩⟩
noncomputable def D.f96Γ : List Con := [D.s18con, D.f94con]
def D.f96ann : Ann := (.seq .leaf (.seq .leaf (.seq (.seq .leaf (.block (.loop ⟨.normal, [(9, D.hI)], [.arr 85 D.tO, .cells [D.hP, D.hI, .own 0, D.hI], .cells [.own 4, D.hI, .own 5, D.hI], .cells [D.hL, D.hB, .hole (.sl D.tP)], .arr 72
 D.tI, .arr 85 D.tO]⟩ [⟨(.exit 0), [], [.arr 85 D.tO, .cells [D.hP, D.hI, .own 0, D.hI], .cells [.own 4, D.hI, .own 5, D.hI], .cells [D.hL, D.hB, .hole (.sl D.tP)], .arr 72 D.tI, .arr 85 D.tO]⟩, ⟨.ret, [(7, D.hI)], [.arr 85 D.tO, .gone,
 .cells [D.hP, D.hI, .own 0, D.hI], .gone]⟩] (.seq (.seq .leaf (.cond .leaf .leaf)) (.seq (.block (.seq .leaf (.cond (.seq (.eff 6 [] [0, 0, 2, 0, 14, 30, 62, 1, 255]) .leaf) .leaf))) .leaf))))) (.seq .leaf (.seq .leaf (.seq (.join
 [⟨.normal, [(11, D.hI), (12, D.hB)], [.gone, .cells [D.hP, D.hI, .own 6, D.hI], .cells [.own 4, D.hI, .own 5, D.hI], .gone, .arr 72 D.tI, .arr 85 D.tO, .arr 85 D.tO]⟩] (.seq .leaf (.cond .leaf .leaf))) (.seq (.seq .leaf (.cond (.eff 10 [14]
 [0, 1, 0, 0, 0, 16, 0, 112, 240, 496, 1016, 0, 0, 6144, 14336, 32760, 65535, 131071, 262143]) .leaf)) (.seq .leaf .leaf))))))))
noncomputable def D.f96F : List (Int × List (Int × Int) × Int × Int) × Int × Int × Int × Int × List (List Int × Bool × Bool × List (Int × Int)) → Option (List (Int × List (Int × Int) × Int × Int) × Int × Int × Int × List (List Int × Bool ×
 Bool × List (Int × Int))) := fun (x : List (Int × List (Int × Int) × Int × Int) × Int × Int × Int × Int × List (List Int × Bool × Bool × List (Int × Int))) => if (0 : Int) ≤ x.2.2.2.1 ∧ x.2.2.2.1 < (x.2.2.2.2.2.length : Int) then
 Option.bind (iter (fun (s1 : Int × List (List Int × Bool × Bool × List (Int × Int)) × List (Int × List (Int × Int) × Int × Int) × Int × Int × Int × Int × List Int × Bool × List (Int × Int) × List (Int × List (Int × Int) × Int × Int) × List
 (List Int × Bool × Bool × List (Int × Int))) => if decide (s1.1 < (s1.2.2.2.2.2.2.2.2.2.1.length : Int)) = true then if (0 : Int) ≤ s1.1 ∧ s1.1 < (s1.2.2.2.2.2.2.2.2.2.1.length : Int) then if ((List.getD s1.2.2.2.2.2.2.2.2.2.1 (Int.toNat
 s1.1) ((0 : Int), (0 : Int))).1 == x.2.2.2.2.1) = true then if (0 : Int) ≤ s1.1 ∧ s1.1 < (s1.2.2.2.2.2.2.2.2.2.1.length : Int) then some (Sum.inr (Sum.inr ((List.getD s1.2.2.2.2.2.2.2.2.2.1 (Int.toNat s1.1) ((0 : Int), (0 : Int))).2,
 s1.2.1, s1.2.2.1, s1.2.2.2.1, s1.2.2.2.2.1))) else none else some (Sum.inl (IntKind.i64.wrap (s1.1 + (1 : Int)), s1.2.1, s1.2.2.1, s1.2.2.2.1, s1.2.2.2.2.1, s1.2.2.2.2.2.1, s1.2.2.2.2.2.2.1, s1.2.2.2.2.2.2.2.1, s1.2.2.2.2.2.2.2.2.1,
 s1.2.2.2.2.2.2.2.2.2.1, s1.2.2.2.2.2.2.2.2.2.2.1, s1.2.2.2.2.2.2.2.2.2.2.2)) else none else some (Sum.inr (Sum.inl (s1.2.1, s1.2.2.1, s1.2.2.2.1, s1.2.2.2.2.1, s1.2.2.2.2.2.1, s1.2.2.2.2.2.2.1, s1.2.2.2.2.2.2.2.1, s1.2.2.2.2.2.2.2.2.1,
 s1.2.2.2.2.2.2.2.2.2.1, s1.2.2.2.2.2.2.2.2.2.2.1, s1.2.2.2.2.2.2.2.2.2.2.2)))) ((0 : Int), x.2.2.2.2.2, x.1, x.2.1, x.2.2.1, (0 : Int), (0 : Int), (List.getD x.2.2.2.2.2 (Int.toNat x.2.2.2.1) ([], false, false, [])).1, (List.getD
 x.2.2.2.2.2 (Int.toNat x.2.2.2.1) ([], false, false, [])).2.1, (List.getD x.2.2.2.2.2 (Int.toNat x.2.2.2.1) ([], false, false, [])).2.2.2, [], [])) fun (v1 : List (List Int × Bool × Bool × List (Int × Int)) × List (Int × List (Int × Int) ×
 Int × Int) × Int × Int × Int × Int × List Int × Bool × List (Int × Int) × List (Int × List (Int × Int) × Int × Int) × List (List Int × Bool × Bool × List (Int × Int)) ⊕ Int × List (List Int × Bool × Bool × List (Int × Int)) × List (Int ×
 List (Int × Int) × Int × Int) × Int × Int) => Sum.elim (fun (p2 : List (List Int × Bool × Bool × List (Int × Int)) × List (Int × List (Int × Int) × Int × Int) × Int × Int × Int × Int × List Int × Bool × List (Int × Int) × List (Int × List
 (Int × Int) × Int × Int) × List (List Int × Bool × Bool × List (Int × Int))) => Option.bind (D.s18F (p2.2.1, p2.2.2.1, p2.2.2.2.1, (p2.2.2.2.2.2.2.1, p2.2.2.2.2.2.2.2.1, p2.2.2.2.2.2.2.2.2.1), x.2.2.2.2.1, p2.1)) fun v3 => Option.bind (if
 decide ((v3.1.length : Int) > (0 : Int)) = true then Option.bind (D.f94F (p2.2.1, p2.2.2.1, p2.2.2.2.1, v3.1, false, v3.2)) fun v4 => some (v4.2.2.2.1, v4.2.2.2.2.1, v4.1, v4.2.1, v4.2.2.1, p2.2.2.2.2.1, p2.2.2.2.2.2.1,
 p2.2.2.2.2.2.2.2.2.2.1, p2.2.2.2.2.2.2.2.2.2.2, v4.2.2.2.2.2) else some ((-1 : Int), false, p2.2.1, p2.2.2.1, p2.2.2.2.1, p2.2.2.2.2.1, p2.2.2.2.2.2.1, p2.2.2.2.2.2.2.2.2.2.1, p2.2.2.2.2.2.2.2.2.2.2, v3.2)) fun (v4 : Int × Bool × List (Int
 × List (Int × Int) × Int × Int) × Int × Int × Int × Int × List (Int × List (Int × Int) × Int × Int) × List (List Int × Bool × Bool × List (Int × Int)) × List (List Int × Bool × Bool × List (Int × Int))) => if (!v4.2.1) = true then if (0 :
 Int) ≤ x.2.2.2.1 ∧ x.2.2.2.1 < (↑(List.length (List.map (Ty.weak (Ty.st (Ty.pair (Ty.sl (Ty.int IntKind.i64)) (Ty.pair Ty.bool (Ty.osl (Ty.st (Ty.pair (Ty.int IntKind.i64) (Ty.int IntKind.i64)))))))) v4.2.2.2.2.2.2.2.2.2)) : Int) then if
 roomOk ((0 : Nat) + List.length (List.getD (List.map (Ty.weak (Ty.st (Ty.pair (Ty.sl (Ty.int IntKind.i64)) (Ty.pair Ty.bool (Ty.osl (Ty.st (Ty.pair (Ty.int IntKind.i64) (Ty.int IntKind.i64)))))))) v4.2.2.2.2.2.2.2.2.2) (Int.toNat x.2.2.2.1)
 ([], false, false, [])).2.2.2) (16 : Nat) then if roomOk (List.length ([] ++ (List.getD (List.map (Ty.weak (Ty.st (Ty.pair (Ty.sl (Ty.int IntKind.i64)) (Ty.pair Ty.bool (Ty.osl (Ty.st (Ty.pair (Ty.int IntKind.i64) (Ty.int
 IntKind.i64)))))))) v4.2.2.2.2.2.2.2.2.2) (Int.toNat x.2.2.2.1) ([], false, false, [])).2.2.2) + (1 : Nat)) (16 : Nat) then if (0 : Int) ≤ x.2.2.2.1 ∧ x.2.2.2.1 < (↑(List.length (List.map (Ty.weak (Ty.st (Ty.pair (Ty.sl (Ty.int
 IntKind.i64)) (Ty.pair Ty.bool (Ty.osl (Ty.st (Ty.pair (Ty.int IntKind.i64) (Ty.int IntKind.i64)))))))) v4.2.2.2.2.2.2.2.2.2)) : Int) then some (v4.2.2.1, v4.2.2.2.1, v4.2.2.2.2.1, v4.1, List.set v4.2.2.2.2.2.2.2.2.2 (Int.toNat x.2.2.2.1)
 ((List.getD v4.2.2.2.2.2.2.2.2.2 (Int.toNat x.2.2.2.1) ([], false, false, [])).1, (List.getD v4.2.2.2.2.2.2.2.2.2 (Int.toNat x.2.2.2.1) ([], false, false, [])).2.1, true, [] ++ (List.getD (List.map (Ty.weak (Ty.st (Ty.pair (Ty.sl (Ty.int
 IntKind.i64)) (Ty.pair Ty.bool (Ty.osl (Ty.st (Ty.pair (Ty.int IntKind.i64) (Ty.int IntKind.i64)))))))) v4.2.2.2.2.2.2.2.2.2) (Int.toNat x.2.2.2.1) ([], false, false, [])).2.2.2 ++ [(x.2.2.2.2.1, v4.1)])) else none else none else none else
 none else some (v4.2.2.1, v4.2.2.2.1, v4.2.2.2.2.1, v4.1, v4.2.2.2.2.2.2.2.2.2)) (fun (q2 : Int × List (List Int × Bool × Bool × List (Int × Int)) × List (Int × List (Int × Int) × Int × Int) × Int × Int) => some (q2.2.2.1, q2.2.2.2.1,
 q2.2.2.2.2, q2.1, q2.2.1)) v1 else none
theorem D.f96eq : ∀ x, runFn D.C D.f96Γ D.f96sig D.f96ann Go.Proofs.Try.f96 x = D.f96F x := by
  intro x
  kernel_rfl
noncomputable def D.f96con : Con := ⟨96, D.f96sig, D.f96F⟩
theorem D.f96ok : Con.Ok Go.Proofs.Try.prog D.C D.f96con :=
  runFn_ok (Γ := D.f96Γ) (an := D.f96ann) ⟨D.Cok, (mC D.s18ok (mC D.f94ok mN)), D.mixed⟩ Go.Proofs.Try.func96 rfl rfl (fun x y h => (D.f96eq x).trans h) (by decide)
def D.f66sig : Sig := ⟨⟨[.hole (.st (.pair (.sl D.tI) (.pair (.int .i64) (.pair (.sl D.tS) (.int .i64))))), D.hL, D.hI], []⟩, ⟨[.hole (.st (.pair (.sl D.tI) (.pair (.int .i64) (.pair (.sl D.tS) (.int .i64))))), D.hI, D.hI], []⟩⟩
noncomputable def D.f66Γ : List Con := [D.f93con, D.f95con, D.f94con, D.f18con, D.f96con]
def D.f66ann : Ann := (.seq .leaf (.seq (.seq (.join [⟨.normal, [(28, D.hB)], [.cells [D.hP, D.hI, .hole (.sl D.tS), D.hI], .cells [.own 2, D.hI, .own 3, D.hI], .arr 72 D.tI, .arr 85 D.tO]⟩] .leaf) (.cond (.seq .leaf .leaf) .leaf)) (.seq
 .leaf (.seq .leaf (.seq (.seq .leaf (.block (.loop ⟨.normal, [(10, D.hI), (9, D.hI), (11, D.hI), (13, D.hI)], [.cells [D.hP, D.hI, .own 7, D.hI], .cells [.own 2, D.hI, .own 3, D.hI], .arr 72 D.tI, .arr 85 D.tO, .gone, .gone, .gone, .arr 85
 D.tO]⟩ [⟨(.exit 0), [(10, D.hI), (9, D.hI)], [.cells [D.hP, D.hI, .own 7, D.hI], .cells [.own 2, D.hI, .own 3, D.hI], .arr 72 D.tI, .arr 85 D.tO, .gone, .gone, .gone, .arr 85 D.tO]⟩, ⟨.ret, [(7, D.hI), (8, D.hI)], [.gone, .cells [D.hP,
 D.hI, .own 7, D.hI], .gone, .gone, .gone, .gone, .gone, .arr 85 D.tO]⟩] (.seq (.seq .leaf (.cond .leaf .leaf)) (.seq (.block (.seq .leaf (.seq (.tail 18) (.seq (.seq .leaf (.block (.loop ⟨.normal, [(9, D.hI), (15, D.hI)], [.cells [D.hP,
 D.hI, .own 7, D.hI], .cells [.own 2, D.hI, .own 3, D.hI], .arr 72 D.tI, .arr 85 D.tO, .gone, .gone, .gone, .arr 85 D.tO]⟩ [⟨(.exit 2), [(9, D.hI)], [.cells [D.hP, D.hI, .own 7, D.hI], .cells [.own 2, D.hI, .own 3, D.hI], .arr 72 D.tI, .arr
 85 D.tO, .gone, .gone, .gone, .arr 85 D.tO]⟩] (.seq (.seq .leaf (.cond .leaf .leaf)) (.seq (.block (.seq .leaf (.cond .leaf .leaf))) .leaf))))) (.seq (.seq .leaf (.cond (.seq .leaf .leaf) .leaf)) (.effl 9 [] [0, 0, 0, 0, 12, 28, 63, 127,
 255, 255, 511])))))) .leaf))))) (.seq .leaf .leaf))))))
noncomputable def D.f66F : (List (Int × List (Int × Int) × Int × Int) × Int × List (List Int × Bool × List (Int × Int)) × Int) × List Int × Int → Option ((List (Int × List (Int × Int) × Int × Int) × Int × List (List Int × Bool × List (Int ×
 Int)) × Int) × Int × Int) := fun (x : (List (Int × List (Int × Int) × Int × Int) × Int × List (List Int × Bool × List (Int × Int)) × Int) × List Int × Int) => Option.bind (Option.bind (D.f93F (x.1.1, x.1.2.1, x.1.2.2.1, x.1.2.2.2)) fun v1
 => if (!v1) = true then some (true, x.1.1, x.1.2.1, x.1.2.2.1, x.1.2.2.2, (0 : Int), (0 : Int), [], []) else if decide (x.2.2 < (0 : Int)) = true then some (true, x.1.1, x.1.2.1, x.1.2.2.1, x.1.2.2.2, (0 : Int), (0 : Int), [], []) else some
 (decide (x.2.2 > (x.2.1.length : Int)), x.1.1, x.1.2.1, x.1.2.2.1, x.1.2.2.2, (0 : Int), (0 : Int), [], [])) fun (v1 : Bool × List (Int × List (Int × Int) × Int × Int) × Int × List (List Int × Bool × List (Int × Int)) × Int × Int × Int ×
 List (Int × List (Int × Int) × Int × Int) × List (List Int × Bool × Bool × List (Int × Int))) => if v1.1 = true then some ((v1.2.1, v1.2.2.1, v1.2.2.2.1, v1.2.2.2.2.1), (-1 : Int), (0 : Int)) else Option.bind (D.f95F (v1.2.1, v1.2.2.1,
 v1.2.2.2.1, v1.2.2.2.2.1)) fun v2 => Option.bind (D.f94F (v2.1, v2.2.1, v2.2.2.1, [(0 : Int)], x.2.2 == (0 : Int), v2.2.2.2)) fun v3 => Option.bind (iter (fun (s4 : Int × Int × Int × Int × List (Int × List (Int × Int) × Int × Int) × Int ×
 Int × Int × Int × List (Int × List (Int × Int) × Int × Int) × List (List Int × Bool × Bool × List (Int × Int)) × List (List Int × Bool × Bool × List (Int × Int))) => if decide (s4.2.2.1 ≥ (0 : Int)) = true then if (0 : Int) ≤ s4.2.2.1 ∧
 s4.2.2.1 < (s4.2.2.2.2.2.2.2.2.2.2.2.length : Int) then if (0 : Int) ≤ s4.2.2.1 ∧ s4.2.2.1 < (s4.2.2.2.2.2.2.2.2.2.2.2.length : Int) then Option.bind (D.f18F (s4.2.2.2.2.1, (List.getD s4.2.2.2.2.2.2.2.2.2.2.2 (Int.toNat s4.2.2.1) ([],
 false, false, [])).1, (List.getD s4.2.2.2.2.2.2.2.2.2.2.2 (Int.toNat s4.2.2.1) ([], false, false, [])).2.1, s4.2.2.2.1 == (x.2.1.length : Int))) fun v5 => Option.bind (iter (fun (s6 : Int × Int × List (Int × List (Int × Int) × Int × Int) ×
 Int × Int × Int × Int × List (Int × List (Int × Int) × Int × Int) × List (List Int × Bool × Bool × List (Int × Int)) × List (List Int × Bool × Bool × List (Int × Int))) => if decide (s6.2.1 < (v5.length : Int)) = true then if (0 : Int) ≤
 s6.2.1 ∧ s6.2.1 < (v5.length : Int) then if (0 : Int) ≤ List.getD v5 (Int.toNat s6.2.1) (0 : Int) ∧ List.getD v5 (Int.toNat s6.2.1) (0 : Int) < (s6.2.2.1.length : Int) then if ((List.getD s6.2.2.1 (Int.toNat (List.getD v5 (Int.toNat s6.2.1)
 (0 : Int))) ((0 : Int), [], (0 : Int), (0 : Int))).1 == (0 : Int)) = true then some (Sum.inl (s4.2.2.2.1, IntKind.i64.wrap (s6.2.1 + (1 : Int)), s6.2.2.1, s6.2.2.2.1, s6.2.2.2.2.1, s6.2.2.2.2.2.1, s6.2.2.2.2.2.2.1, s6.2.2.2.2.2.2.2.1,
 s6.2.2.2.2.2.2.2.2.1, s6.2.2.2.2.2.2.2.2.2)) else some (Sum.inl (s6.1, IntKind.i64.wrap (s6.2.1 + (1 : Int)), s6.2.2.1, s6.2.2.2.1, s6.2.2.2.2.1, s6.2.2.2.2.2.1, s6.2.2.2.2.2.2.1, s6.2.2.2.2.2.2.2.1, s6.2.2.2.2.2.2.2.2.1,
 s6.2.2.2.2.2.2.2.2.2)) else none else none else some (Sum.inr (s6.1, s6.2.2.1, s6.2.2.2.1, s6.2.2.2.2.1, s6.2.2.2.2.2.1, s6.2.2.2.2.2.2.1, s6.2.2.2.2.2.2.2.1, s6.2.2.2.2.2.2.2.2.1, s6.2.2.2.2.2.2.2.2.2))) (s4.2.1, (0 : Int), s4.2.2.2.2.1,
 s4.2.2.2.2.2.1, s4.2.2.2.2.2.2.1, s4.2.2.2.2.2.2.2.1, s4.2.2.2.2.2.2.2.2.1, s4.2.2.2.2.2.2.2.2.2.1, s4.2.2.2.2.2.2.2.2.2.2.1, s4.2.2.2.2.2.2.2.2.2.2.2)) fun (v6 : Int × List (Int × List (Int × Int) × Int × Int) × Int × Int × Int × Int ×
 List (Int × List (Int × Int) × Int × Int) × List (List Int × Bool × Bool × List (Int × Int)) × List (List Int × Bool × Bool × List (Int × Int))) => if (s4.2.2.2.1 == (x.2.1.length : Int)) = true then some (Sum.inr (Sum.inr (v6.1,
 IntKind.i64.wrap (s4.1 + (1 : Int)), v6.2.1, v6.2.2.1, v6.2.2.2.1, v6.2.2.2.2.2.2.2.2))) else if (0 : Int) ≤ s4.2.2.2.1 ∧ s4.2.2.2.1 < (x.2.1.length : Int) then Option.bind (D.f96F (v6.2.1, v6.2.2.1, v6.2.2.2.1, s4.2.2.1, List.getD x.2.1
 (Int.toNat s4.2.2.2.1) (0 : Int), v6.2.2.2.2.2.2.2.2)) fun v7 => some (Sum.inl (IntKind.i64.wrap (s4.1 + (1 : Int)), v6.1, v7.2.2.2.1, IntKind.i64.wrap (s4.2.2.2.1 + (1 : Int)), v7.1, v7.2.1, v7.2.2.1, v6.2.2.2.2.1, v6.2.2.2.2.2.1,
 v6.2.2.2.2.2.2.1, v6.2.2.2.2.2.2.2.1, v7.2.2.2.2)) else none else none else none else some (Sum.inr (Sum.inl (s4.1, s4.2.1, s4.2.2.2.2.1, s4.2.2.2.2.2.1, s4.2.2.2.2.2.2.1, s4.2.2.2.2.2.2.2.1, s4.2.2.2.2.2.2.2.2.1, s4.2.2.2.2.2.2.2.2.2.1,
 s4.2.2.2.2.2.2.2.2.2.2.1, s4.2.2.2.2.2.2.2.2.2.2.2)))) ((0 : Int), (-1 : Int), v3.2.2.2.1, x.2.2, v3.1, v3.2.1, v3.2.2.1, v1.2.2.2.2.2.1, v1.2.2.2.2.2.2.1, v1.2.2.2.2.2.2.2.1, v1.2.2.2.2.2.2.2.2, v3.2.2.2.2.2)) fun (v4 : Int × Int × List
 (Int × List (Int × Int) × Int × Int) × Int × Int × Int × Int × List (Int × List (Int × Int) × Int × Int) × List (List Int × Bool × Bool × List (Int × Int)) × List (List Int × Bool × Bool × List (Int × Int)) ⊕ Int × Int × List (Int × List
 (Int × Int) × Int × Int) × Int × Int × List (List Int × Bool × Bool × List (Int × Int))) => Sum.elim (fun (p5 : Int × Int × List (Int × List (Int × Int) × Int × Int) × Int × Int × Int × Int × List (Int × List (Int × Int) × Int × Int) × List
 (List Int × Bool × Bool × List (Int × Int)) × List (List Int × Bool × Bool × List (Int × Int))) => some ((p5.2.2.1, p5.2.2.2.1, List.map (Ty.erD (Ty.st (Ty.pair (Ty.sl (Ty.int IntKind.i64)) (Ty.pair Ty.bool (Ty.osl (Ty.st (Ty.pair (Ty.int
 IntKind.i64) (Ty.int IntKind.i64)))))))) p5.2.2.2.2.2.2.2.2.2, p5.2.2.2.2.1), p5.2.1, p5.1)) (fun (q5 : Int × Int × List (Int × List (Int × Int) × Int × Int) × Int × Int × List (List Int × Bool × Bool × List (Int × Int))) => some
 ((q5.2.2.1, q5.2.2.2.1, List.map (Ty.erD (Ty.st (Ty.pair (Ty.sl (Ty.int IntKind.i64)) (Ty.pair Ty.bool (Ty.osl (Ty.st (Ty.pair (Ty.int IntKind.i64) (Ty.int IntKind.i64)))))))) q5.2.2.2.2.2, q5.2.2.2.2.1), q5.1, q5.2.1)) v4
theorem D.f66eq : ∀ x, runFn D.C D.f66Γ D.f66sig D.f66ann Go.Proofs.Try.f66 x = D.f66F x := by
  intro x
  kernel_rfl
noncomputable def D.f66con : Con := ⟨66, D.f66sig, D.f66F⟩
theorem D.f66ok : Con.Ok Go.Proofs.Try.prog D.C D.f66con :=
  runFn_ok (Γ := D.f66Γ) (an := D.f66ann) ⟨D.Cok, (mC D.f93ok (mC D.f95ok (mC D.f94ok (mC D.f18ok (mC D.f96ok mN))))), D.mixed⟩ Go.Proofs.Try.func66 rfl rfl (fun x y h => (D.f66eq x).trans h) (by decide)
def D.f37sig : Sig := ⟨⟨[D.hP, D.hL, D.hI], []⟩, ⟨[.hole (.sl D.tP), D.hI, D.hI], []⟩⟩
noncomputable def D.f37Γ : List Con := [D.f65con, D.f66con]
def D.f37ann : Ann := (.seq .leaf (.seq .leaf (.seq (.seq .leaf (.cond (.seq .leaf .leaf) .leaf)) (.seq (.seq .leaf (.cond (.seq .leaf .leaf) .leaf)) (.seq .leaf (.seq .leaf (.seq (.seq .leaf (.block (.loop ⟨.normal, [(12, D.hI), (13,
 D.hI), (11, .own 1)], [.cells [D.hP, D.hI, .hole (.sl D.tS), D.hI], .arr 61 D.tP]⟩ [⟨(.exit 0), [(12, D.hI), (11, .own 1)], [.gone, .arr 61 D.tP]⟩] (.seq (.seq .leaf (.cond .leaf .leaf)) (.block (.seq .leaf (.seq .leaf (.seq (.seq .leaf
 (.cond (.seq .leaf .leaf) .leaf)) (.seq .leaf .leaf))))))))) (.seq .leaf .leaf))))))))
noncomputable def D.f37F : List (Int × List (Int × Int) × Int × Int) × List Int × Int → Option (List (Int × Int) × Int × Int) := fun (x : List (Int × List (Int × Int) × Int × Int) × List Int × Int) => Option.bind (D.f65F (x.1, x.2.2)) fun
 v1 => if (v1.2 != (0 : Int)) = true then some ([], (0 : Int), v1.2) else if decide ((x.2.1.length : Int) > (4000 : Int)) = true then some ([], (0 : Int), (2 : Int)) else Option.bind (iter (fun (s2 : Int × Int × List (Int × List (Int × Int)
 × Int × Int) × Int × List (List Int × Bool × List (Int × Int)) × Int × List (Int × Int)) => if decide (s2.2.1 ≤ (x.2.1.length : Int)) = true then Option.bind (D.f66F ((s2.2.2.1, s2.2.2.2.1, s2.2.2.2.2.1, s2.2.2.2.2.2.1), x.2.1, s2.2.1)) fun
 v3 => if decide (v3.2.1 < (0 : Int)) = true then some (Sum.inl (IntKind.i64.wrap (s2.1 + v3.2.2), IntKind.i64.wrap (s2.2.1 + (1 : Int)), v3.1.1, v3.1.2.1, v3.1.2.2.1, v3.1.2.2.2, s2.2.2.2.2.2.2)) else if roomOk (List.length s2.2.2.2.2.2.2 +
 (1 : Nat)) (16 : Nat) then some (Sum.inl (IntKind.i64.wrap (s2.1 + v3.2.2), maxI v3.2.1 (IntKind.i64.wrap (s2.2.1 + (1 : Int))), v3.1.1, v3.1.2.1, v3.1.2.2.1, v3.1.2.2.2, s2.2.2.2.2.2.2 ++ [(s2.2.1, v3.2.1)])) else none else some (Sum.inr
 (s2.1, s2.2.2.2.2.2.2))) ((0 : Int), (0 : Int), v1.1.1, v1.1.2.1, v1.1.2.2.1, v1.1.2.2.2, [])) fun (v2 : Int × List (Int × Int)) => some (v2.2, v2.1, (0 : Int))
theorem D.f37eq : ∀ x, runFn D.C D.f37Γ D.f37sig D.f37ann Go.Proofs.Try.f37 x = D.f37F x := by
  intro x
  kernel_rfl
noncomputable def D.f37con : Con := ⟨37, D.f37sig, D.f37F⟩
theorem D.f37ok : Con.Ok Go.Proofs.Try.prog D.C D.f37con :=
  runFn_ok (Γ := D.f37Γ) (an := D.f37ann) ⟨D.Cok, (mC D.f65ok (mC D.f66ok mN)), D.mixed⟩ Go.Proofs.Try.func37 rfl rfl (fun x y h => (D.f37eq x).trans h) (by decide)
def D.f39sig : Sig := ⟨⟨[D.hP, D.hL, D.hI], []⟩, ⟨[.hole D.tP, D.hB], []⟩⟩
noncomputable def D.f39Γ : List Con := [D.f26con, D.f22con]
def D.f39ann : Ann := (.seq .leaf (.seq (.seq (.join [⟨.normal, [(17, D.hB)], [.cells [D.hI, D.hI]]⟩] .leaf) (.cond (.seq .leaf .leaf) .leaf)) (.seq (.seq .leaf (.block (.loop ⟨.normal, [(8, D.hI)], [.cells [D.hI, D.hI]]⟩ [⟨(.exit 0), [],
 [.cells [D.hI, D.hI]]⟩, ⟨.ret, [(7, D.hB)], [.cells [D.hI, D.hI]]⟩] (.seq (.seq .leaf (.cond .leaf .leaf)) (.seq (.block (.seq .leaf (.seq .leaf (.cond (.seq .leaf .leaf) .leaf)))) .leaf))))) (.seq .leaf .leaf))))
noncomputable def D.f39F : List (Int × List (Int × Int) × Int × Int) × List Int × Int → Option ((Int × Int) × Bool) := fun (x : List (Int × List (Int × Int) × Int × Int) × List Int × Int) => Option.bind (Option.bind (D.f26F x.1) fun v1 =>
 if (!v1) = true then some (true, (0 : Int), (0 : Int)) else some (decide (x.2.2 < (0 : Int)), (0 : Int), (0 : Int))) fun v1 => if v1.1 = true then some (((0 : Int), (0 : Int)), false) else Option.bind (iter (fun (s2 : Int × Int × Int) => if
 decide (s2.1 ≤ (x.2.1.length : Int)) = true then Option.bind (D.f22F (x.1, x.2.1, s2.1)) fun v3 => if decide (v3.1 ≥ (0 : Int)) = true then some (Sum.inr (Sum.inr (true, s2.1, v3.1))) else some (Sum.inl (IntKind.i64.wrap (s2.1 + (1 : Int)),
 s2.2.1, s2.2.2)) else some (Sum.inr (Sum.inl (s2.2.1, s2.2.2)))) (x.2.2, v1.2.1, v1.2.2)) fun v2 => Sum.elim (fun (p3 : Int × Int) => some (((0 : Int), (0 : Int)), false)) (fun (q3 : Bool × Int × Int) => some ((q3.2.1, q3.2.2), q3.1)) v2
theorem D.f39eq : ∀ x, runFn D.C D.f39Γ D.f39sig D.f39ann Go.Proofs.Try.f39 x = D.f39F x := by
  intro x
  kernel_rfl
noncomputable def D.f39con : Con := ⟨39, D.f39sig, D.f39F⟩
theorem D.f39ok : Con.Ok Go.Proofs.Try.prog D.C D.f39con :=
  runFn_ok (Γ := D.f39Γ) (an := D.f39ann) ⟨D.Cok, (mC D.f26ok (mC D.f22ok mN)), D.mixed⟩ Go.Proofs.Try.func39 rfl rfl (fun x y h => (D.f39eq x).trans h) (by decide)
def D.f10sig : Sig := ⟨⟨[D.hP, D.hL, .hole (.arr 2 (.int .i64))], []⟩, ⟨[D.hB], []⟩⟩
noncomputable def D.f10Γ : List Con := [D.f34con, D.f35con, D.f36con, D.f37con, D.f38con, D.f39con, D.f40con]
def D.f10ann : Ann := (.seq .leaf (.seq (.seq .leaf (.cond (.seq .leaf .leaf) .leaf)) (.seq (.seq .leaf (.cond (.seq .leaf .leaf) .leaf)) (.seq .leaf (.seq .leaf (.seq .leaf (.seq .leaf (.seq .leaf .leaf))))))))
noncomputable def D.f10F : List (Int × List (Int × Int) × Int × Int) × List Int × List Int → Option (Bool) := fun (x : List (Int × List (Int × Int) × Int × Int) × List Int × List Int) => Option.bind (D.f34F ()) fun v1 => if (!v1) = true
 then some false else Option.bind (D.f35F (x.1, x.2.1)) fun v2 => if v2 = true then some true else if (0 : Int) ≤ (0 : Int) ∧ (0 : Int) < (↑(2 : Nat) : Int) then Option.bind (D.f36F (x.1, x.2.1, List.getD x.2.2 (nat_lit 0) (0 : Int))) fun v3
 => if (0 : Int) ≤ (0 : Int) ∧ (0 : Int) < (↑(2 : Nat) : Int) then Option.bind (D.f37F (x.1, x.2.1, List.getD x.2.2 (nat_lit 0) (0 : Int))) fun v4 => if (0 : Int) ≤ (1 : Int) ∧ (1 : Int) < (↑(2 : Nat) : Int) then Option.bind (D.f38F (x.1,
 x.2.1, List.getD x.2.2 (nat_lit 1) (0 : Int))) fun v5 => if (0 : Int) ≤ (1 : Int) ∧ (1 : Int) < (↑(2 : Nat) : Int) then Option.bind (D.f39F (x.1, x.2.1, List.getD x.2.2 (nat_lit 1) (0 : Int))) fun v6 => Option.bind (D.f40F (v3.1, v4.1)) fun
 v7 => if v7 = true then if (v3.2.1 == v4.2.1) = true then if (v3.2.2 == v4.2.2) = true then if Ty.eqb (Ty.st (Ty.pair (Ty.int IntKind.i64) (Ty.int IntKind.i64))) (v5.1.1, v5.1.2) (v6.1.1, v6.1.2) = true then some (v5.2 == v6.2) else some
 false else some false else some false else some false else none else none else none else none
theorem D.f10eq : ∀ x, runFn D.C D.f10Γ D.f10sig D.f10ann Go.Proofs.Try.f10 x = D.f10F x := by
  intro x
  kernel_rfl
noncomputable def D.f10con : Con := ⟨10, D.f10sig, D.f10F⟩
theorem D.f10ok : Con.Ok Go.Proofs.Try.prog D.C D.f10con :=
  runFn_ok (Γ := D.f10Γ) (an := D.f10ann) ⟨D.Cok, (mC D.f34ok (mC D.f35ok (mC D.f36ok (mC D.f37ok (mC D.f38ok (mC D.f39ok (mC D.f40ok mN))))))), D.mixed⟩ Go.Proofs.Try.func10 rfl rfl (fun x y h => (D.f10eq x).trans h) (by decide)
end Go.Sx
