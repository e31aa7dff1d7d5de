import Derived.Test.YtjmmbgjdfmceeaaSxP
import Derived.Test.YtjmmbgjdfmceeaaProg
import Derived.KernelRfl
set_option maxRecDepth 100000
set_option maxHeartbeats 0
set_option linter.unusedVariables false
set_option linter.unusedSimpArgs false
namespace Go.Sx
open Go.Proofs
abbrev D.tP : Ty := (.st (.pair (.int .i64) (.int .i64)))
abbrev D.tI : Ty := (.st (.pair (.int .i64) (.pair (.sl (.st (.pair (.int .i64) (.int .i64)))) (.pair (.int .i64) (.int .i64)))))
abbrev D.tS : Ty := (.st (.pair (.sl (.int .i64)) (.pair .bool (.sl (.st (.pair (.int .i64) (.int .i64)))))))
abbrev D.tO : Ty := (.st (.pair (.sl (.int .i64)) (.pair .bool (.osl (.st (.pair (.int .i64) (.int .i64)))))))
abbrev D.hI : Sh := .hole (.int .i64)
abbrev D.hL : Sh := .hole (.sl (.int .i64))
abbrev D.hB : Sh := .hole .bool
abbrev D.hP : Sh := .hole (.sl D.tI)
theorem mC {α : Type} {P : α → Prop} {a : α} {l : List α} (h : P a) (t : ∀ x ∈ l, P x) : ∀ x ∈ a :: l, P x := List.forall_mem_cons.2 ⟨h, t⟩
theorem mN {α : Type} {P : α → Prop} : ∀ x ∈ ([] : List α), P x := fun _ h => nomatch h
def D.TT : List (TypeId × TI) := [ (3, ⟨(.int .i64), 1, 8, some (.int .i64), [.val (.int .i64) (0 : Int)]⟩), (4, ⟨.bool, 1, 1, some .bool, [.bit false]⟩), (5, ⟨(.int .u8), 1, 1, some (.int .u8), [.val (.int .u8) (0 : Int)]⟩), (9, ⟨.str, 1,
 16, some .str, [.val .str ByteArray.empty]⟩), (22, ⟨(.slice 72), 1, 24, some (.sl D.tI), [.nils]⟩), (23, ⟨(.slice 3), 1, 24, some (.sl (.int .i64)), [.nils]⟩), (30, ⟨(.array 2 3), 2, 16, some (.arr 2 (.int .i64)), [.val (.int .i64) (0 :
 Int), .val (.int .i64) (0 : Int)]⟩), (31, ⟨.other, 1, 0, none, [.und]⟩), (37, ⟨(.slice 23), 1, 24, some (.sl (.sl (.int .i64))), [.nils]⟩), (38, ⟨(.int .u16), 1, 2, some (.int .u16), [.val (.int .u16) (0 : Int)]⟩), (39, ⟨(.slice 85), 1, 24,
 some (.sl D.tS), [.nils]⟩), (41, ⟨(.struct [(22, 0, 1, false), (3, 1, 1, false), (39, 2, 1, false), (3, 3, 1, false)]), 4, 64, some (.st (.pair (.sl D.tI) (.pair (.int .i64) (.pair (.sl D.tS) (.int .i64))))), [.nils, .val (.int .i64) (0 :
 Int), .nils, .val (.int .i64) (0 : Int)]⟩), (42, ⟨(.int .i64), 1, 8, some (.int .i64), [.val (.int .i64) (0 : Int)]⟩), (43, ⟨.other, 1, 0, none, [.und]⟩), (45, ⟨.other, 1, 0, none, [.und]⟩), (49, ⟨(.array 2 5), 2, 2, some (.arr 2 (.int
 .u8)), [.val (.int .u8) (0 : Int), .val (.int .u8) (0 : Int)]⟩), (50, ⟨.other, 1, 0, none, [.und]⟩), (57, ⟨(.slice 61), 1, 24, some (.sl D.tP), [.nils]⟩), (58, ⟨.other, 1, 0, none, [.und]⟩), (61, ⟨(.struct [(3, 0, 1, false), (3, 1, 1,
 false)]), 2, 16, some D.tP, [.val (.int .i64) (0 : Int), .val (.int .i64) (0 : Int)]⟩), (62, ⟨.other, 1, 0, none, [.und]⟩), (65, ⟨(.array 2 38), 2, 4, some (.arr 2 (.int .u16)), [.val (.int .u16) (0 : Int), .val (.int .u16) (0 : Int)]⟩),
 (69, ⟨(.struct [(3, 0, 1, false), (3, 1, 1, false)]), 2, 16, some D.tP, [.val (.int .i64) (0 : Int), .val (.int .i64) (0 : Int)]⟩), (70, ⟨(.slice 69), 1, 24, some (.sl D.tP), [.nils]⟩), (72, ⟨(.struct [(3, 0, 1, false), (70, 1, 1, false),
 (3, 2, 1, false), (3, 3, 1, false)]), 4, 48, some D.tI, [.val (.int .i64) (0 : Int), .nils, .val (.int .i64) (0 : Int), .val (.int .i64) (0 : Int)]⟩), (73, ⟨(.ptr 108), 1, 8, none, [.nilp]⟩), (76, ⟨(.slice 4), 1, 24, some (.sl .bool),
 [.nils]⟩), (80, ⟨.other, 1, 8, none, [.und]⟩), (81, ⟨.other, 1, 0, none, [.und]⟩), (83, ⟨(.slice 87), 1, 24, some (.sl D.tP), [.nils]⟩), (85, ⟨(.struct [(23, 0, 1, false), (4, 1, 1, false), (83, 2, 1, false)]), 3, 56, some D.tS, [.nils,
 .bit false, .nils]⟩), (87, ⟨(.struct [(3, 0, 1, false), (3, 1, 1, false)]), 2, 16, some D.tP, [.val (.int .i64) (0 : Int), .val (.int .i64) (0 : Int)]⟩), (88, ⟨(.ptr 94), 1, 8, none, [.nilp]⟩), (90, ⟨.other, 1, 0, none, [.und]⟩), (94,
 ⟨(.struct [(41, 0, 4, true)]), 4, 64, some (.st (.st (.pair (.sl D.tI) (.pair (.int .i64) (.pair (.sl D.tS) (.int .i64)))))), [.nils, .val (.int .i64) (0 : Int), .nils, .val (.int .i64) (0 : Int)]⟩), (100, ⟨.other, 1, 8, none, [.und]⟩),
 (104, ⟨.other, 1, 8, none, [.und]⟩), (106, ⟨.other, 1, 8, none, [.und]⟩), (108, ⟨(.struct [(22, 0, 1, false), (4, 1, 1, false), (4, 2, 1, false), (76, 3, 1, false), (3, 4, 1, false)]), 5, 64, some (.st (.pair (.sl D.tI) (.pair .bool (.pair
 .bool (.pair (.sl .bool) (.int .i64)))))), [.nils, .bit false, .bit false, .nils, .val (.int .i64) (0 : Int)]⟩), (118, ⟨.other, 1, 8, none, [.und]⟩), (120, ⟨(.ptr 83), 1, 8, none, [.nilp]⟩), (121, ⟨(.map 3 4), 1, 8, none, [.und]⟩), (126,
 ⟨.other, 1, 8, none, [.und]⟩), (132, ⟨.other, 1, 8, none, [.und]⟩), (135, ⟨(.int .u64), 1, 8, some (.int .u64), [.val (.int .u64) (0 : Int)]⟩), (138, ⟨.other, 1, 8, none, [.und]⟩), (144, ⟨(.int .i64), 1, 8, some (.int .i64), [.val (.int
 .i64) (0 : Int)]⟩), (145, ⟨.other, 1, 0, none, [.und]⟩), (151, ⟨(.int .u32), 1, 4, some (.int .u32), [.val (.int .u32) (0 : Int)]⟩), (153, ⟨(.int .u64), 1, 8, some (.int .u64), [.val (.int .u64) (0 : Int)]⟩), (154, ⟨(.int .u64), 1, 8, some
 (.int .u64), [.val (.int .u64) (0 : Int)]⟩), (158, ⟨(.ptr 3), 1, 8, none, [.nilp]⟩), (160, ⟨(.ptr 154), 1, 8, none, [.nilp]⟩)]
noncomputable def D.C : Ctx := ⟨D.TT, [], [(85, (.st (.pair (.sl (.int .i64)) (.pair .bool (.osl (.st (.pair (.int .i64) (.int .i64))))))))], [83], [69, 87, 61]⟩
theorem D.Cok : D.C.ok Go.Proofs.Try.prog := checkTT_ok (by kernel_rfl)
theorem D.mixed : Go.Proofs.Try.prog.follows .mixedOrders = true := by kernel_rfl
def D.fuel : Nat := 1000000000
def D.f69sig : Sig := ⟨⟨[D.hI, .ptr 0 0], [.cells [D.hI]]⟩, ⟨[D.hB], [.cells [D.hI]]⟩⟩
noncomputable def D.f69Γ : List Con := []
def D.f69ann : Ann := (.seq .leaf (.seq .leaf .leaf))
/- ductus/nfa.Right$1 -/
noncomputable def D.f69F : Int × Int → Option (Bool × Int) := fun (x : Int × Int) => if decide (x.1 ≥ (0 : Int)) = true then some (decide (x.1 < x.2), x.2) else some (false, x.2)
theorem D.f69eq : ∀ x, runFn D.C D.f69Γ D.f69sig D.f69ann Go.Proofs.Try.f69 x = D.f69F x := by
  intro x
  kernel_rfl
noncomputable def D.f69con : Con := ⟨69, D.f69sig, D.f69F⟩
theorem D.f69ok : Con.Ok Go.Proofs.Try.prog D.C D.f69con :=
  runFn_ok (Γ := D.f69Γ) (an := D.f69ann) ⟨D.Cok, mN, D.mixed⟩ Go.Proofs.Try.func69 rfl rfl (fun x y h => (D.f69eq x).trans h) (by decide)
def D.f71sig : Sig := ⟨⟨[.hole D.tI, .ptr 0 0], [.cells [.fnc 69 1, .ptr 1 0], .cells [D.hI]]⟩, ⟨[D.hB], [.cells [.fnc 69 1, .ptr 1 0], .cells [D.hI]]⟩⟩
noncomputable def D.f71Γ : List Con := [D.f69con]
def D.f71ann : Ann := (.seq .leaf (.seq (.seq .leaf (.block (.seq (.join [⟨.normal, [(6, D.hB)], [.cells [.fnc 69 1, .ptr 1 0], .cells [D.hI], .cells [D.hI, .hole (.sl D.tP), D.hI, D.hI]]⟩] (.seq .leaf (.cond .leaf (.seq .leaf (.cond .leaf
 (.seq .leaf (.cond .leaf .leaf))))))) (.cond (.seq .leaf .leaf) (.seq .leaf (.cond (.seq .leaf .leaf) (.seq .leaf (.cond (.seq .leaf .leaf) .leaf)))))))) (.seq .leaf .leaf)))
noncomputable def D.f71F : (Int × List (Int × Int) × Int × Int) × Int → Option (Bool × Int) := fun (x : (Int × List (Int × Int) × Int × Int) × Int) => Option.bind (if (x.1.1 == (0 : Int)) = true then some (true, x.2, x.1.1, x.1.2.1,
 x.1.2.2.1, x.1.2.2.2) else if (x.1.1 == (1 : Int)) = true then some (true, x.2, x.1.1, x.1.2.1, x.1.2.2.1, x.1.2.2.2) else if (x.1.1 == (4 : Int)) = true then some (true, x.2, x.1.1, x.1.2.1, x.1.2.2.1, x.1.2.2.2) else some (x.1.1 == (5 :
 Int), x.2, x.1.1, x.1.2.1, x.1.2.2.1, x.1.2.2.2)) fun (v1 : Bool × Int × Int × List (Int × Int) × Int × Int) => if v1.1 = true then some (false, v1.2.1) else if (x.1.1 == (2 : Int)) = true then Option.bind (D.f69F (v1.2.2.2.2.1, v1.2.1))
 fun v2 => if (!v2.1) = true then some (true, v2.2) else Option.bind (D.f69F (v1.2.2.2.2.2, v2.2)) fun v3 => some (!v3.1, v3.2) else if (x.1.1 == (3 : Int)) = true then Option.bind (D.f69F (v1.2.2.2.2.1, v1.2.1)) fun v2 => some (!v2.1, v2.2)
 else some (true, v1.2.1)
theorem D.f71eq : ∀ x, runFn D.C D.f71Γ D.f71sig D.f71ann Go.Proofs.Try.f71 x = D.f71F x := by
  intro x
  kernel_rfl
noncomputable def D.f71con : Con := ⟨71, D.f71sig, D.f71F⟩
theorem D.f71ok : Con.Ok Go.Proofs.Try.prog D.C D.f71con :=
  runFn_ok (Γ := D.f71Γ) (an := D.f71ann) ⟨D.Cok, (mC D.f69ok mN), D.mixed⟩ Go.Proofs.Try.func71 rfl rfl (fun x y h => (D.f71eq x).trans h) (by decide)
def D.s0sig : Sig := ⟨⟨[D.hP, .fnc 71 1, .ptr 0 0], [.cells [.fnc 69 1, .ptr 1 0], .cells [D.hI]]⟩, ⟨[D.hI], [.cells [.fnc 69 1, .ptr 1 0], .cells [D.hI]]⟩⟩
noncomputable def D.s0Γ : List Con := [D.f71con]
def D.s0ann : Ann := (.seq .leaf (.seq (.seq .leaf (.block (.loop ⟨.normal, [(8, D.hI)], [.cells [.fnc 69 1, .ptr 1 0], .cells [D.hI]]⟩ [⟨(.exit 0), [], [.cells [.fnc 69 1, .ptr 1 0], .cells [D.hI]]⟩, ⟨.ret, [(4, D.hI)], [.cells [.fnc 69 1,
 .ptr 1 0], .cells [D.hI]]⟩] (.seq .leaf (.seq (.cond .leaf .leaf) (.seq (.block (.seq .leaf (.seq .leaf (.cond (.seq .leaf .leaf) .leaf)))) .leaf)))))) (.seq .leaf .leaf)))
noncomputable def D.s0F : List (Int × List (Int × Int) × Int × Int) × Int → Option (Int × Int) := fun (x : List (Int × List (Int × Int) × Int × Int) × Int) => Option.bind (iter (fun (s1 : Int × Int) => if decide (s1.1 < (x.1.length : Int))
 = true then if (0 : Int) ≤ s1.1 ∧ s1.1 < (x.1.length : Int) then Option.bind (D.f71F (List.getD x.1 (Int.toNat s1.1) ((0 : Int), [], (0 : Int), (0 : Int)), s1.2)) fun v2 => if v2.1 = true then some (Sum.inr (Sum.inr (s1.1, v2.2))) else some
 (Sum.inl (IntKind.i64.wrap (s1.1 + (1 : Int)), v2.2)) else none else some (Sum.inr (Sum.inl s1.2))) ((0 : Int), x.2)) fun v1 => Sum.elim (fun (p2 : Int) => some ((-1 : Int), p2)) (fun (q2 : Int × Int) => some (q2.1, q2.2)) v1
theorem D.s0eq : ∀ x, runFn D.C D.s0Γ D.s0sig D.s0ann Go.Proofs.Try.f97 x = D.s0F x := by
  intro x
  kernel_rfl
noncomputable def D.s0con : Con := ⟨97, D.s0sig, D.s0F⟩
theorem D.s0ok : Con.Ok Go.Proofs.Try.prog D.C D.s0con :=
  runFn_ok (Γ := D.s0Γ) (an := D.s0ann) ⟨D.Cok, (mC D.f71ok mN), D.mixed⟩ Go.Proofs.Try.func97 rfl rfl (fun x y h => (D.s0eq x).trans h) (by decide)
def D.s1sig : Sig := ⟨⟨[D.hP, .fnc 71 1, .ptr 0 0], [.cells [.fnc 69 1, .ptr 1 0], .cells [D.hI]]⟩, ⟨[D.hB], [.cells [.fnc 69 1, .ptr 1 0], .cells [D.hI]]⟩⟩
noncomputable def D.s1Γ : List Con := [D.s0con, D.f71con]
def D.s1ann : Ann := (.seq .leaf (.seq .leaf .leaf))
noncomputable def D.s1F : List (Int × List (Int × Int) × Int × Int) × Int → Option (Bool × Int) := fun (x : List (Int × List (Int × Int) × Int × Int) × Int) => Option.bind (D.s0F (x.1, x.2)) fun v1 => some (decide (v1.1 ≥ (0 : Int)), v1.2)
theorem D.s1eq : ∀ x, runFn D.C D.s1Γ D.s1sig D.s1ann Go.Proofs.Try.f70 x = D.s1F x := by
  intro x
  kernel_rfl
noncomputable def D.s1con : Con := ⟨70, D.s1sig, D.s1F⟩
theorem D.s1ok : Con.Ok Go.Proofs.Try.prog D.C D.s1con :=
  runFn_ok (Γ := D.s1Γ) (an := D.s1ann) ⟨D.Cok, (mC D.s0ok (mC D.f71ok mN)), D.mixed⟩ Go.Proofs.Try.func70 rfl rfl (fun x y h => (D.s1eq x).trans h) (by decide)
def D.f42sig : Sig := ⟨⟨[D.hP], []⟩, ⟨[D.hB], []⟩⟩
noncomputable def D.f42Γ : List Con := [D.s1con]
def D.f42ann : Ann := (.seq .leaf (.seq .leaf (.seq (.seq (.join [⟨.normal, [(21, D.hB)], [.cells [D.hI]]⟩] .leaf) (.cond (.seq .leaf .leaf) .leaf)) (.seq .leaf (.seq .leaf .leaf)))))
noncomputable def D.f42F : List (Int × List (Int × Int) × Int × Int) → Option (Bool) := fun (x : List (Int × List (Int × Int) × Int × Int)) => Option.bind (if ((x.length : Int) == (0 : Int)) = true then some (true, (x.length : Int)) else if
 decide ((x.length : Int) > (1000 : Int)) = true then some (true, (x.length : Int)) else if (0 : Int) ≤ IntKind.i64.wrap ((x.length : Int) - (1 : Int)) ∧ IntKind.i64.wrap ((x.length : Int) - (1 : Int)) < (x.length : Int) then some
 ((List.getD x (Int.toNat (IntKind.i64.wrap ((x.length : Int) - (1 : Int)))) ((0 : Int), [], (0 : Int), (0 : Int))).1 != (0 : Int), (x.length : Int)) else none) fun v1 => if v1.1 = true then some false else Option.bind (D.s1F (x, v1.2)) fun
 v2 => some !v2.1
theorem D.f42eq : ∀ x, runFn D.C D.f42Γ D.f42sig D.f42ann Go.Proofs.Try.f42 x = D.f42F x := by
  intro x
  kernel_rfl
noncomputable def D.f42con : Con := ⟨42, D.f42sig, D.f42F⟩
theorem D.f42ok : Con.Ok Go.Proofs.Try.prog D.C D.f42con :=
  runFn_ok (Γ := D.f42Γ) (an := D.f42ann) ⟨D.Cok, (mC D.s1ok mN), D.mixed⟩ Go.Proofs.Try.func42 rfl rfl (fun x y h => (D.f42eq x).trans h) (by decide)
def D.f28sig : Sig := ⟨⟨[D.hP, D.hI], []⟩, ⟨[.hole (.st (.pair (.sl D.tI) (.pair (.int .i64) (.pair (.sl D.tS) (.int .i64))))), D.hI], []⟩⟩
noncomputable def D.f28Γ : List Con := [D.f42con]
def D.f28ann : Ann := (.seq .leaf (.seq (.block (.seq .leaf (.cond (.seq .leaf .leaf) (.seq (.join [⟨.normal, [(11, D.hB)], [.cells [.own 1, D.hI, .own 2, D.hI], .arr 72 D.tI, .arr 85 D.tO]⟩] .leaf) (.cond (.seq .leaf .leaf) .leaf)))))
 (.seq .leaf .leaf)))
noncomputable def D.f28F : List (Int × List (Int × Int) × Int × Int) × Int → Option ((List (Int × List (Int × Int) × Int × Int) × Int × List (List Int × Bool × List (Int × Int)) × Int) × Int) := fun (x : List (Int × List (Int × Int) × Int ×
 Int) × Int) => Option.bind (D.f42F x.1) fun v1 => if (!v1) = true then some (([], (0 : Int), [], (0 : Int)), (1 : Int)) else Option.bind (if decide (x.2 < (2 : Int)) = true then some (true, (0 : Int), (0 : Int), [], []) else some (decide
 (x.2 > (1000 : Int)), (0 : Int), (0 : Int), [], [])) fun (v2 : Bool × Int × Int × List (Int × List (Int × Int) × Int × Int) × List (List Int × Bool × Bool × List (Int × Int))) => if v2.1 = true then some (([], (0 : Int), [], (0 : Int)), (13
 : Int)) else some ((x.1, x.2, [], (0 : Int)), (0 : Int))
theorem D.f28eq : ∀ x, runFn D.C D.f28Γ D.f28sig D.f28ann Go.Proofs.Try.f28 x = D.f28F x := by
  intro x
  kernel_rfl
noncomputable def D.f28con : Con := ⟨28, D.f28sig, D.f28F⟩
theorem D.f28ok : Con.Ok Go.Proofs.Try.prog D.C D.f28con :=
  runFn_ok (Γ := D.f28Γ) (an := D.f28ann) ⟨D.Cok, (mC D.f42ok mN), D.mixed⟩ Go.Proofs.Try.func28 rfl rfl (fun x y h => (D.f28eq x).trans h) (by decide)
def D.f120sig : Sig := ⟨⟨[D.hI], []⟩, ⟨[D.hB], []⟩⟩
noncomputable def D.f120Γ : List Con := []
def D.f120ann : Ann := (.seq .leaf (.seq .leaf .leaf))
noncomputable def D.f120F : Int → Option (Bool) := fun (x : Int) => some (x != x)
theorem D.f120eq : ∀ x, runFn D.C D.f120Γ D.f120sig D.f120ann Go.Proofs.Try.f120 x = D.f120F x := by
  intro x
  kernel_rfl
noncomputable def D.f120con : Con := ⟨120, D.f120sig, D.f120F⟩
theorem D.f120ok : Con.Ok Go.Proofs.Try.prog D.C D.f120con :=
  runFn_ok (Γ := D.f120Γ) (an := D.f120ann) ⟨D.Cok, mN, D.mixed⟩ Go.Proofs.Try.func120 rfl rfl (fun x y h => (D.f120eq x).trans h) (by decide)
def D.f105sig : Sig := ⟨⟨[D.hI, D.hI], []⟩, ⟨[D.hB], []⟩⟩
noncomputable def D.f105Γ : List Con := [D.f120con]
def D.f105ann : Ann := (.seq .leaf (.seq .leaf .leaf))
noncomputable def D.f105F : Int × Int → Option (Bool) := fun (x : Int × Int) => Option.bind (D.f120F x.1) fun v1 => if v1 = true then Option.bind (D.f120F x.2) fun v2 => if (!v2) = true then some true else some (decide (x.1 < x.2)) else
 some (decide (x.1 < x.2))
theorem D.f105eq : ∀ x, runFn D.C D.f105Γ D.f105sig D.f105ann Go.Proofs.Try.f105 x = D.f105F x := by
  intro x
  kernel_rfl
noncomputable def D.f105con : Con := ⟨105, D.f105sig, D.f105F⟩
theorem D.f105ok : Con.Ok Go.Proofs.Try.prog D.C D.f105con :=
  runFn_ok (Γ := D.f105Γ) (an := D.f105ann) ⟨D.Cok, (mC D.f120ok mN), D.mixed⟩ Go.Proofs.Try.func105 rfl rfl (fun x y h => (D.f105eq x).trans h) (by decide)
def D.f89sig : Sig := ⟨⟨[D.hL], []⟩, ⟨[D.hB], []⟩⟩
noncomputable def D.f89Γ : List Con := [D.f105con]
def D.f89ann : Ann := (.seq .leaf (.seq (.seq .leaf (.block (.loop ⟨.normal, [(3, D.hI)], []⟩ [⟨(.exit 0), [], []⟩, ⟨.ret, [(2, D.hB)], []⟩] (.seq (.seq .leaf (.cond .leaf .leaf)) (.seq (.block (.seq .leaf (.cond (.seq .leaf .leaf) .leaf)))
 .leaf))))) (.seq .leaf .leaf)))
noncomputable def D.f89F : List Int → Option (Bool) := fun (x : List Int) => Option.bind (iter (fun (s1 : Int) => if decide (s1 > (0 : Int)) = true then if (0 : Int) ≤ s1 ∧ s1 < (x.length : Int) then if (0 : Int) ≤ IntKind.i64.wrap (s1 - (1
 : Int)) ∧ IntKind.i64.wrap (s1 - (1 : Int)) < (x.length : Int) then Option.bind (D.f105F (List.getD x (Int.toNat s1) (0 : Int), List.getD x (Int.toNat (IntKind.i64.wrap (s1 - (1 : Int)))) (0 : Int))) fun v2 => if v2 = true then some
 (Sum.inr (Sum.inr false)) else some (Sum.inl (IntKind.i64.wrap (s1 - (1 : Int)))) else none else none else some (Sum.inr (Sum.inl ()))) (IntKind.i64.wrap ((x.length : Int) - (1 : Int)))) fun v1 => Sum.elim (fun (p2 : PUnit) => some true)
 (fun (q2 : Bool) => some q2) v1
theorem D.f89eq : ∀ x, runFn D.C D.f89Γ D.f89sig D.f89ann Go.Proofs.Try.f89 x = D.f89F x := by
  intro x
  kernel_rfl
noncomputable def D.f89con : Con := ⟨89, D.f89sig, D.f89F⟩
theorem D.f89ok : Con.Ok Go.Proofs.Try.prog D.C D.f89con :=
  runFn_ok (Γ := D.f89Γ) (an := D.f89ann) ⟨D.Cok, (mC D.f105ok mN), D.mixed⟩ Go.Proofs.Try.func89 rfl rfl (fun x y h => (D.f89eq x).trans h) (by decide)
def D.f80sig : Sig := ⟨⟨[D.hL], []⟩, ⟨[.own 0], [.arr 3 (.int .i64)]⟩⟩
noncomputable def D.f80Γ : List Con := []
def D.f80ann : Ann := (.seq .leaf (.seq (.seq .leaf (.cond (.seq .leaf .leaf) .leaf)) (.seq .leaf .leaf)))
noncomputable def D.f80F : List Int → Option (List Int) := fun (x : List Int) => if Nat.beq (List.length x) (0 : Nat) = true then agree (some []) (if roomOk ((0 : Nat) + List.length x) (8 : Nat) then some ([] ++ x) else none) else if roomOk
 ((0 : Nat) + List.length x) (8 : Nat) then some ([] ++ x) else none
theorem D.f80eq : ∀ x, runFn D.C D.f80Γ D.f80sig D.f80ann Go.Proofs.Try.f80 x = D.f80F x := by
  intro x
  kernel_rfl
noncomputable def D.f80con : Con := ⟨80, D.f80sig, D.f80F⟩
theorem D.f80ok : Con.Ok Go.Proofs.Try.prog D.C D.f80con :=
  runFn_ok (Γ := D.f80Γ) (an := D.f80ann) ⟨D.Cok, mN, D.mixed⟩ Go.Proofs.Try.func80 rfl rfl (fun x y h => (D.f80eq x).trans h) (by decide)
def D.f75sig : Sig := ⟨⟨[.own 0], [.arr 3 (.int .i64)]⟩, ⟨[.own 1], [.gone, .arr 3 (.int .i64)]⟩⟩
noncomputable def D.f75Γ : List Con := []
def D.f75ann : Ann := (.seq .leaf (.seq (.seq .leaf (.cond (.seq .leaf .leaf) .leaf)) (.seq (.seq .leaf (.block (.loop ⟨.normal, [(3, D.hI)], [.arr 3 (.int .i64)]⟩ [⟨(.exit 0), [], [.arr 3 (.int .i64)]⟩, ⟨.ret, [(2, .own 1)], [.gone, .arr 3
 (.int .i64)]⟩] (.seq (.seq .leaf (.cond .leaf .leaf)) (.seq (.block (.seq .leaf (.cond (.seq .leaf (.seq (.seq .leaf (.block (.loop ⟨.normal, [(3, D.hI), (5, D.hI)], [.arr 3 (.int .i64)]⟩ [⟨(.exit 2), [(3, D.hI)], [.arr 3 (.int .i64)]⟩]
 (.seq (.seq .leaf (.cond .leaf .leaf)) (.seq (.block (.seq .leaf (.cond (.seq .leaf .leaf) .leaf))) .leaf))))) (.seq .leaf (.seq .leaf .leaf)))) .leaf))) .leaf))))) (.seq .leaf .leaf))))
noncomputable def D.f75F : List Int → Option (List Int) := fun (x : List Int) => if decide ((x.length : Int) < (2 : Int)) = true then some x else Option.bind (iter (fun (s1 : Int × List Int) => if decide (s1.1 < (s1.2.length : Int)) = true
 then if (0 : Int) ≤ s1.1 ∧ s1.1 < (s1.2.length : Int) then if (0 : Int) ≤ IntKind.i64.wrap (s1.1 - (1 : Int)) ∧ IntKind.i64.wrap (s1.1 - (1 : Int)) < (s1.2.length : Int) then if (List.getD s1.2 (Int.toNat s1.1) (0 : Int) == List.getD s1.2
 (Int.toNat (IntKind.i64.wrap (s1.1 - (1 : Int)))) (0 : Int)) = true then if (0 : Int) ≤ s1.1 ∧ s1.1 ≤ (s1.2.length : Int) then Option.bind (iter (fun (s2 : Int × Int × List Int) => if decide (s2.2.1 < (↑(List.length s1.2 - Int.toNat s1.1) :
 Int)) = true then if (0 : Int) ≤ s2.2.1 ∧ s2.2.1 < (↑(List.length s1.2 - Int.toNat s1.1) : Int) then if (0 : Int) ≤ IntKind.i64.wrap (s2.2.1 - (1 : Int)) ∧ IntKind.i64.wrap (s2.2.1 - (1 : Int)) < (↑(List.length s1.2 - Int.toNat s1.1) : Int)
 then if (List.getD s2.2.2 (Int.toNat s1.1 + Int.toNat s2.2.1) (0 : Int) != List.getD s2.2.2 (Int.toNat s1.1 + Int.toNat (IntKind.i64.wrap (s2.2.1 - (1 : Int)))) (0 : Int)) = true then if (0 : Int) ≤ s2.2.1 ∧ s2.2.1 < (↑(List.length s1.2 -
 Int.toNat s1.1) : Int) then if (0 : Int) ≤ s2.1 ∧ s2.1 < (s2.2.2.length : Int) then some (Sum.inl (IntKind.i64.wrap (s2.1 + (1 : Int)), IntKind.i64.wrap (s2.2.1 + (1 : Int)), List.set s2.2.2 (Int.toNat s2.1) (List.getD s2.2.2 (Int.toNat
 s1.1 + Int.toNat s2.2.1) (0 : Int)))) else none else none else some (Sum.inl (s2.1, IntKind.i64.wrap (s2.2.1 + (1 : Int)), s2.2.2)) else none else none else some (Sum.inr (s2.1, s2.2.2))) (s1.1, (1 : Int), s1.2)) fun (v2 : Int × List Int)
 => if (0 : Int) ≤ v2.1 ∧ v2.1 ≤ (v2.2.length : Int) then if (0 : Int) ≤ v2.1 ∧ v2.1 ≤ (↑(List.length (List.take (Int.toNat v2.1) v2.2 ++ (List.replicate (List.length v2.2 - Int.toNat v2.1) (0 : Int) ++ List.drop (Int.toNat v2.1 +
 (List.length v2.2 - Int.toNat v2.1)) v2.2))) : Int) then some (Sum.inr (Sum.inr (List.take (Int.toNat v2.1) (List.take (Int.toNat v2.1) v2.2 ++ (List.replicate (List.length v2.2 - Int.toNat v2.1) (0 : Int) ++ List.drop (Int.toNat v2.1 +
 (List.length v2.2 - Int.toNat v2.1)) v2.2))))) else none else none else none else some (Sum.inl (IntKind.i64.wrap (s1.1 + (1 : Int)), s1.2)) else none else none else some (Sum.inr (Sum.inl s1.2))) ((1 : Int), x)) fun (v1 : List Int ⊕ List
 Int) => Sum.elim (fun (p2 : List Int) => some p2) (fun (q2 : List Int) => some q2) v1
theorem D.f75eq : ∀ x, runFn D.C D.f75Γ D.f75sig D.f75ann Go.Proofs.Try.f75 x = D.f75F x := by
  intro x
  kernel_rfl
noncomputable def D.f75con : Con := ⟨75, D.f75sig, D.f75F⟩
theorem D.f75ok : Con.Ok Go.Proofs.Try.prog D.C D.f75con :=
  runFn_ok (Γ := D.f75Γ) (an := D.f75ann) ⟨D.Cok, mN, D.mixed⟩ Go.Proofs.Try.func75 rfl rfl (fun x y h => (D.f75eq x).trans h) (by decide)
def D.f57sig : Sig := ⟨⟨[D.hL, D.hI], []⟩, ⟨[D.hB], []⟩⟩
noncomputable def D.f57Γ : List Con := [D.f89con, D.f80con, D.f75con]
def D.f57ann : Ann := (.seq .leaf (.seq .leaf .leaf))
noncomputable def D.f57F : List Int × Int → Option (Bool) := fun (x : List Int × Int) => if decide ((x.1.length : Int) > (0 : Int)) = true then if (0 : Int) ≤ (0 : Int) ∧ (0 : Int) < (x.1.length : Int) then if decide (List.getD x.1
 (Int.toNat (0 : Int)) (0 : Int) ≥ (0 : Int)) = true then if (0 : Int) ≤ IntKind.i64.wrap ((x.1.length : Int) - (1 : Int)) ∧ IntKind.i64.wrap ((x.1.length : Int) - (1 : Int)) < (x.1.length : Int) then if decide (List.getD x.1 (Int.toNat
 (IntKind.i64.wrap ((x.1.length : Int) - (1 : Int)))) (0 : Int) < x.2) = true then Option.bind (D.f89F x.1) fun v1 => if v1 = true then Option.bind (D.f80F x.1) fun v2 => Option.bind (D.f75F v2) fun v3 => some ((v3.length : Int) ==
 (x.1.length : Int)) else some false else some false else none else some false else none else some false
theorem D.f57eq : ∀ x, runFn D.C D.f57Γ D.f57sig D.f57ann Go.Proofs.Try.f57 x = D.f57F x := by
  intro x
  kernel_rfl
noncomputable def D.f57con : Con := ⟨57, D.f57sig, D.f57F⟩
theorem D.f57ok : Con.Ok Go.Proofs.Try.prog D.C D.f57con :=
  runFn_ok (Γ := D.f57Γ) (an := D.f57ann) ⟨D.Cok, (mC D.f89ok (mC D.f80ok (mC D.f75ok mN))), D.mixed⟩ Go.Proofs.Try.func57 rfl rfl (fun x y h => (D.f57eq x).trans h) (by decide)
def D.f61sig : Sig := ⟨⟨[D.hL, D.hL], []⟩, ⟨[D.hB], []⟩⟩
noncomputable def D.f61Γ : List Con := []
def D.f61ann : Ann := (.seq .leaf (.seq (.seq .leaf (.cond (.seq .leaf .leaf) .leaf)) (.seq (.seq .leaf (.block (.loop ⟨.normal, [(13, D.hI)], []⟩ [⟨(.exit 0), [], []⟩, ⟨.ret, [(4, D.hB)], []⟩] (.seq .leaf (.seq (.cond .leaf .leaf) (.seq
 (.block (.seq .leaf (.seq .leaf (.cond (.seq .leaf .leaf) .leaf)))) .leaf)))))) (.seq .leaf .leaf))))
noncomputable def D.f61F : List Int × List Int → Option (Bool) := fun (x : List Int × List Int) => if ((x.1.length : Int) != (x.2.length : Int)) = true then some false else Option.bind (iter (fun (s1 : Int) => if decide (s1 < (x.1.length :
 Int)) = true then if (0 : Int) ≤ s1 ∧ s1 < (x.1.length : Int) then if (0 : Int) ≤ s1 ∧ s1 < (x.2.length : Int) then if (List.getD x.1 (Int.toNat s1) (0 : Int) != List.getD x.2 (Int.toNat s1) (0 : Int)) = true then some (Sum.inr (Sum.inr
 false)) else some (Sum.inl (IntKind.i64.wrap (s1 + (1 : Int)))) else none else none else some (Sum.inr (Sum.inl ()))) (0 : Int)) fun v1 => Sum.elim (fun (p2 : PUnit) => some true) (fun (q2 : Bool) => some q2) v1
theorem D.f61eq : ∀ x, runFn D.C D.f61Γ D.f61sig D.f61ann Go.Proofs.Try.f61 x = D.f61F x := by
  intro x
  kernel_rfl
noncomputable def D.f61con : Con := ⟨61, D.f61sig, D.f61F⟩
theorem D.f61ok : Con.Ok Go.Proofs.Try.prog D.C D.f61con :=
  runFn_ok (Γ := D.f61Γ) (an := D.f61ann) ⟨D.Cok, mN, D.mixed⟩ Go.Proofs.Try.func61 rfl rfl (fun x y h => (D.f61eq x).trans h) (by decide)
def D.f104sig : Sig := ⟨⟨[.hole D.tS, .ptr 0 0, .ptr 1 0], [.cells [D.hB], .cells [D.hL]]⟩, ⟨[D.hB], [.cells [D.hB], .cells [D.hL]]⟩⟩
noncomputable def D.f104Γ : List Con := [D.f61con]
def D.f104ann : Ann := (.seq .leaf (.seq .leaf .leaf))
noncomputable def D.f104F : (List Int × Bool × List (Int × Int)) × Bool × List Int → Option (Bool × Bool × List Int) := fun (x : (List Int × Bool × List (Int × Int)) × Bool × List Int) => if (x.1.2.1 == x.2.1) = true then Option.bind
 (D.f61F (x.1.1, x.2.2)) fun v1 => some (v1, x.2.1, x.2.2) else some (false, x.2.1, x.2.2)
theorem D.f104eq : ∀ x, runFn D.C D.f104Γ D.f104sig D.f104ann Go.Proofs.Try.f104 x = D.f104F x := by
  intro x
  kernel_rfl
noncomputable def D.f104con : Con := ⟨104, D.f104sig, D.f104F⟩
theorem D.f104ok : Con.Ok Go.Proofs.Try.prog D.C D.f104con :=
  runFn_ok (Γ := D.f104Γ) (an := D.f104ann) ⟨D.Cok, (mC D.f61ok mN), D.mixed⟩ Go.Proofs.Try.func104 rfl rfl (fun x y h => (D.f104eq x).trans h) (by decide)
def D.s10sig : Sig := ⟨⟨[.hole (.sl D.tS), .fnc 104 2, .ptr 0 0, .ptr 1 0], [.cells [D.hB], .cells [D.hL]]⟩, ⟨[D.hI], [.cells [D.hB], .cells [D.hL]]⟩⟩
noncomputable def D.s10Γ : List Con := [D.f104con]
def D.s10ann : Ann := (.seq .leaf (.seq (.seq .leaf (.block (.loop ⟨.normal, [(8, D.hI)], [.cells [D.hB], .cells [D.hL]]⟩ [⟨(.exit 0), [], [.cells [D.hB], .cells [D.hL]]⟩, ⟨.ret, [(4, D.hI)], [.cells [D.hB], .cells [D.hL]]⟩] (.seq .leaf
 (.seq (.cond .leaf .leaf) (.seq (.block (.seq .leaf (.seq .leaf (.cond (.seq .leaf .leaf) .leaf)))) .leaf)))))) (.seq .leaf .leaf)))
noncomputable def D.s10F : List (List Int × Bool × List (Int × Int)) × Bool × List Int → Option (Int × Bool × List Int) := fun (x : List (List Int × Bool × List (Int × Int)) × Bool × List Int) => Option.bind (iter (fun (s1 : Int × Bool ×
 List Int) => if decide (s1.1 < (x.1.length : Int)) = true then if (0 : Int) ≤ s1.1 ∧ s1.1 < (x.1.length : Int) then Option.bind (D.f104F (List.getD x.1 (Int.toNat s1.1) ([], false, []), s1.2.1, s1.2.2)) fun v2 => if v2.1 = true then some
 (Sum.inr (Sum.inr (s1.1, v2.2.1, v2.2.2))) else some (Sum.inl (IntKind.i64.wrap (s1.1 + (1 : Int)), v2.2.1, v2.2.2)) else none else some (Sum.inr (Sum.inl (s1.2.1, s1.2.2)))) ((0 : Int), x.2.1, x.2.2)) fun (v1 : Bool × List Int ⊕ Int × Bool
 × List Int) => Sum.elim (fun (p2 : Bool × List Int) => some ((-1 : Int), p2.1, p2.2)) (fun (q2 : Int × Bool × List Int) => some (q2.1, q2.2.1, q2.2.2)) v1
theorem D.s10eq : ∀ x, runFn D.C D.s10Γ D.s10sig D.s10ann Go.Proofs.Try.f103 x = D.s10F x := by
  intro x
  kernel_rfl
noncomputable def D.s10con : Con := ⟨103, D.s10sig, D.s10F⟩
theorem D.s10ok : Con.Ok Go.Proofs.Try.prog D.C D.s10con :=
  runFn_ok (Γ := D.s10Γ) (an := D.s10ann) ⟨D.Cok, (mC D.f104ok mN), D.mixed⟩ Go.Proofs.Try.func103 rfl rfl (fun x y h => (D.s10eq x).trans h) (by decide)
def D.f82sig : Sig := ⟨⟨[.ro (.st (.st (.pair (.sl D.tI) (.pair (.int .i64) (.pair (.sl D.tS) (.int .i64)))))), D.hL, D.hB], []⟩, ⟨[D.hI], []⟩⟩
noncomputable def D.f82Γ : List Con := [D.s10con]
def D.f82ann : Ann := (.seq .leaf (.seq .leaf .leaf))
noncomputable def D.f82F : (List (Int × List (Int × Int) × Int × Int) × Int × List (List Int × Bool × List (Int × Int)) × Int) × List Int × Bool → Option (Int) := fun (x : (List (Int × List (Int × Int) × Int × Int) × Int × List (List Int ×
 Bool × List (Int × Int)) × Int) × List Int × Bool) => Option.bind (D.s10F (x.1.2.2.1, x.2.2, x.2.1)) fun v1 => some v1.1
theorem D.f82eq : ∀ x, runFn D.C D.f82Γ D.f82sig D.f82ann Go.Proofs.Try.f82 x = D.f82F x := by
  intro x
  kernel_rfl
noncomputable def D.f82con : Con := ⟨82, D.f82sig, D.f82F⟩
theorem D.f82ok : Con.Ok Go.Proofs.Try.prog D.C D.f82con :=
  runFn_ok (Γ := D.f82Γ) (an := D.f82ann) ⟨D.Cok, (mC D.s10ok mN), D.mixed⟩ Go.Proofs.Try.func82 rfl rfl (fun x y h => (D.f82eq x).trans h) (by decide)
def D.f72sig : Sig := ⟨⟨[.ptr 0 0, D.hI], [.cells [D.hP, D.hB, D.hB, .own 1, D.hI], .arr 4 .bool]⟩, ⟨[], [.cells [D.hP, D.hB, D.hB, .own 2, D.hI], .gone, .arr 4 .bool]⟩⟩
noncomputable def D.f72Γ (r72 : Int × List (Int × List (Int × Int) × Int × Int) × Bool × Bool × Int × List Bool → Option (List (Int × List (Int × Int) × Int × Int) × Bool × Bool × Int × List Bool)) : List Con := [⟨72, D.f72sig, r72⟩]
def D.f72ann : Ann := (.block (.loop ⟨.normal, [(1, D.hI)], [.cells [D.hP, D.hB, D.hB, .own 2, D.hI], .gone, .arr 4 .bool]⟩ [⟨(.exit 0), [], [.cells [D.hP, D.hB, D.hB, .own 2, D.hI], .gone, .arr 4 .bool]⟩] (.seq (.seq (.join [⟨.normal,
 [(25, D.hB)], [.cells [D.hP, D.hB, D.hB, .own 2, D.hI], .gone, .arr 4 .bool]⟩] .leaf) (.cond .leaf .leaf)) (.block (.seq .leaf (.seq .leaf (.seq .leaf (.block (.seq .leaf (.cond (.seq .leaf .leaf) (.seq .leaf (.cond .leaf (.seq (.join
 [⟨.normal, [(62, D.hB)], [.cells [D.hP, D.hB, D.hB, .own 2, D.hI], .gone, .arr 4 .bool, .gone]⟩] (.seq (.join [⟨.normal, [(62, D.hB)], [.cells [D.hP, D.hB, D.hB, .own 2, D.hI], .gone, .arr 4 .bool, .cells [D.hI, .hole (.sl D.tP), D.hI,
 D.hI]]⟩] .leaf) (.cond .leaf .leaf))) (.cond .leaf .leaf))))))))))))))
noncomputable def D.f72S (r72 : Int × List (Int × List (Int × Int) × Int × Int) × Bool × Bool × Int × List Bool → Option (List (Int × List (Int × Int) × Int × Int) × Bool × Bool × Int × List Bool)) : Int × List (Int × List (Int × Int) × Int
 × Int) × Bool × Bool × Int × List Bool → Option (List (Int × List (Int × Int) × Int × Int) × Bool × Bool × Int × List Bool) := fun (x : Int × List (Int × List (Int × Int) × Int × Int) × Bool × Bool × Int × List Bool) => Option.bind (iter
 (fun (s1 : Int × List (Int × List (Int × Int) × Int × Int) × Bool × Bool × Int × List Bool) => Option.bind (if decide (s1.1 ≥ (0 : Int)) = true then if decide (s1.1 < (s1.2.1.length : Int)) = true then if (0 : Int) ≤ s1.1 ∧ s1.1 <
 (s1.2.2.2.2.2.length : Int) then some (!List.getD s1.2.2.2.2.2 (Int.toNat s1.1) false, s1.2.1, s1.2.2.1, s1.2.2.2.1, s1.2.2.2.2.1, s1.2.2.2.2.2) else none else some (false, s1.2.1, s1.2.2.1, s1.2.2.2.1, s1.2.2.2.2.1, s1.2.2.2.2.2) else some
 (false, s1.2.1, s1.2.2.1, s1.2.2.2.1, s1.2.2.2.2.1, s1.2.2.2.2.2)) fun (v2 : Bool × List (Int × List (Int × Int) × Int × Int) × Bool × Bool × Int × List Bool) => if v2.1 = true then if (0 : Int) ≤ s1.1 ∧ s1.1 < (v2.2.2.2.2.2.length : Int)
 then if (0 : Int) ≤ s1.1 ∧ s1.1 < (v2.2.1.length : Int) then if ((List.getD v2.2.1 (Int.toNat s1.1) ((0 : Int), [], (0 : Int), (0 : Int))).1 == (2 : Int)) = true then Option.bind (r72 ((List.getD v2.2.1 (Int.toNat s1.1) ((0 : Int), [], (0 :
 Int), (0 : Int))).2.2.1, v2.2.1, v2.2.2.1, v2.2.2.2.1, IntKind.i64.wrap (v2.2.2.2.2.1 + (1 : Int)), List.set v2.2.2.2.2.2 (Int.toNat s1.1) true)) fun (v3 : List (Int × List (Int × Int) × Int × Int) × Bool × Bool × Int × List Bool) => some
 (Sum.inl ((List.getD v2.2.1 (Int.toNat s1.1) ((0 : Int), [], (0 : Int), (0 : Int))).2.2.2, v3.1, v3.2.1, v3.2.2.1, v3.2.2.2.1, v3.2.2.2.2)) else if ((List.getD v2.2.1 (Int.toNat s1.1) ((0 : Int), [], (0 : Int), (0 : Int))).1 == (3 : Int)) =
 true then some (Sum.inl ((List.getD v2.2.1 (Int.toNat s1.1) ((0 : Int), [], (0 : Int), (0 : Int))).2.2.1, v2.2.1, v2.2.2.1, v2.2.2.2.1, IntKind.i64.wrap (v2.2.2.2.2.1 + (1 : Int)), List.set v2.2.2.2.2.2 (Int.toNat s1.1) true)) else
 Option.bind (Option.bind (if ((List.getD v2.2.1 (Int.toNat s1.1) ((0 : Int), [], (0 : Int), (0 : Int))).1 == (4 : Int)) = true then some (v2.2.2.1, v2.2.1, v2.2.2.1, v2.2.2.2.1, IntKind.i64.wrap (v2.2.2.2.2.1 + (1 : Int)), List.set
 v2.2.2.2.2.2 (Int.toNat s1.1) true, (List.getD v2.2.1 (Int.toNat s1.1) ((0 : Int), [], (0 : Int), (0 : Int))).1, (List.getD v2.2.1 (Int.toNat s1.1) ((0 : Int), [], (0 : Int), (0 : Int))).2.1, (List.getD v2.2.1 (Int.toNat s1.1) ((0 : Int),
 [], (0 : Int), (0 : Int))).2.2.1, (List.getD v2.2.1 (Int.toNat s1.1) ((0 : Int), [], (0 : Int), (0 : Int))).2.2.2) else some (false, v2.2.1, v2.2.2.1, v2.2.2.2.1, IntKind.i64.wrap (v2.2.2.2.2.1 + (1 : Int)), List.set v2.2.2.2.2.2 (Int.toNat
 s1.1) true, (List.getD v2.2.1 (Int.toNat s1.1) ((0 : Int), [], (0 : Int), (0 : Int))).1, (List.getD v2.2.1 (Int.toNat s1.1) ((0 : Int), [], (0 : Int), (0 : Int))).2.1, (List.getD v2.2.1 (Int.toNat s1.1) ((0 : Int), [], (0 : Int), (0 :
 Int))).2.2.1, (List.getD v2.2.1 (Int.toNat s1.1) ((0 : Int), [], (0 : Int), (0 : Int))).2.2.2)) fun (v3 : Bool × List (Int × List (Int × Int) × Int × Int) × Bool × Bool × Int × List Bool × Int × List (Int × Int) × Int × Int) => if v3.1 =
 true then some (true, v3.2.1, v3.2.2.1, v3.2.2.2.1, v3.2.2.2.2.1, v3.2.2.2.2.2.1) else if (v3.2.2.2.2.2.2.1 == (5 : Int)) = true then some (v3.2.2.2.1, v3.2.1, v3.2.2.1, v3.2.2.2.1, v3.2.2.2.2.1, v3.2.2.2.2.2.1) else some (false, v3.2.1,
 v3.2.2.1, v3.2.2.2.1, v3.2.2.2.2.1, v3.2.2.2.2.2.1)) fun (v3 : Bool × List (Int × List (Int × Int) × Int × Int) × Bool × Bool × Int × List Bool) => if v3.1 = true then some (Sum.inl (IntKind.i64.wrap (s1.1 + (1 : Int)), v3.2.1, v3.2.2.1,
 v3.2.2.2.1, v3.2.2.2.2.1, v3.2.2.2.2.2)) else some (Sum.inl (s1.1, v3.2.1, v3.2.2.1, v3.2.2.2.1, v3.2.2.2.2.1, v3.2.2.2.2.2)) else none else none else some (Sum.inr (v2.2.1, v2.2.2.1, v2.2.2.2.1, v2.2.2.2.2.1, v2.2.2.2.2.2))) (x.1, x.2.1,
 x.2.2.1, x.2.2.2.1, x.2.2.2.2.1, x.2.2.2.2.2)) fun (v1 : List (Int × List (Int × Int) × Int × Int) × Bool × Bool × Int × List Bool) => some (v1.1, v1.2.1, v1.2.2.1, v1.2.2.2.1, v1.2.2.2.2)
theorem D.f72eq (r72 : Int × List (Int × List (Int × Int) × Int × Int) × Bool × Bool × Int × List Bool → Option (List (Int × List (Int × Int) × Int × Int) × Bool × Bool × Int × List Bool)) : ∀ x, runFn D.C (D.f72Γ r72) D.f72sig D.f72ann Go.Proofs.Try.f72 x = D.f72S r72 x := by
  intro x
  kernel_rfl
noncomputable def D.f72N : Nat → (Int × List (Int × List (Int × Int) × Int × Int) × Bool × Bool × Int × List Bool → Option (List (Int × List (Int × Int) × Int × Int) × Bool × Bool × Int × List Bool))
  | 0 => fun _ => none
  | n + 1 => D.f72S ((D.f72N n))
noncomputable def D.f72F : Int × List (Int × List (Int × Int) × Int × Int) × Bool × Bool × Int × List Bool → Option (List (Int × List (Int × Int) × Int × Int) × Bool × Bool × Int × List Bool) := (D.f72N D.fuel)
noncomputable def D.f72con : Con := ⟨72, D.f72sig, D.f72F⟩
theorem D.f72Nok : ∀ n, Con.Ok Go.Proofs.Try.prog D.C ⟨72, D.f72sig, (D.f72N n)⟩
  | 0 => runFn_ok (Γ := []) (an := .leaf) ⟨D.Cok, mN, D.mixed⟩ Go.Proofs.Try.func72 rfl rfl (fun x y h => nomatch h) (by decide)
  | n + 1 => have h := D.f72Nok n
    runFn_ok (Γ := D.f72Γ ((D.f72N n))) (an := D.f72ann) ⟨D.Cok, (mC h mN), D.mixed⟩ Go.Proofs.Try.func72 rfl rfl (fun x y h => (D.f72eq _ x).trans h) (by decide)
theorem D.f72ok : Con.Ok Go.Proofs.Try.prog D.C D.f72con := (D.f72Nok D.fuel)
def D.f43sig : Sig := ⟨⟨[D.hP, D.hL, D.hB, D.hB], []⟩, ⟨[.ptr 0 0], [.cells [D.hP, D.hB, D.hB, .own 1, D.hI], .arr 4 .bool]⟩⟩
noncomputable def D.f43Γ : List Con := [D.f72con]
def D.f43ann : Ann := (.seq .leaf (.seq .leaf (.seq (.seq .leaf (.block (.loop ⟨.normal, [(22, D.hI)], [.gone, .cells [D.hP, D.hB, D.hB, .own 2, D.hI], .arr 4 .bool]⟩ [⟨(.exit 0), [], [.gone, .cells [D.hP, D.hB, D.hB, .own 2, D.hI], .arr 4
 .bool]⟩] (.seq .leaf (.seq (.cond .leaf .leaf) (.seq (.block (.seq .leaf .leaf)) .leaf)))))) (.seq .leaf .leaf))))
noncomputable def D.f43F : List (Int × List (Int × Int) × Int × Int) × List Int × Bool × Bool → Option (List (Int × List (Int × Int) × Int × Int) × Bool × Bool × Int × List Bool) := fun (x : List (Int × List (Int × Int) × Int × Int) × List
 Int × Bool × Bool) => if (0 : Int) ≤ (x.1.length : Int) ∧ (x.1.length : Int) ≤ (x.1.length : Int) ∧ roomOk (Int.toNat (x.1.length : Int)) (1 : Nat) then Option.bind (iter (fun (s1 : Int × List (Int × List (Int × Int) × Int × Int) × Bool ×
 Bool × Int × List Bool) => if decide (s1.1 < (x.2.1.length : Int)) = true then if (0 : Int) ≤ s1.1 ∧ s1.1 < (x.2.1.length : Int) then Option.bind (D.f72F (List.getD x.2.1 (Int.toNat s1.1) (0 : Int), s1.2.1, s1.2.2.1, s1.2.2.2.1,
 s1.2.2.2.2.1, s1.2.2.2.2.2)) fun v2 => some (Sum.inl (IntKind.i64.wrap (s1.1 + (1 : Int)), v2.1, v2.2.1, v2.2.2.1, v2.2.2.2.1, v2.2.2.2.2)) else none else some (Sum.inr (s1.2.1, s1.2.2.1, s1.2.2.2.1, s1.2.2.2.2.1, s1.2.2.2.2.2))) ((0 :
 Int), x.1, x.2.2.1, x.2.2.2, (0 : Int), List.replicate (Int.toNat (x.1.length : Int)) false)) fun (v1 : List (Int × List (Int × Int) × Int × Int) × Bool × Bool × Int × List Bool) => some (v1.1, v1.2.1, v1.2.2.1, v1.2.2.2.1, v1.2.2.2.2) else
 none
theorem D.f43eq : ∀ x, runFn D.C D.f43Γ D.f43sig D.f43ann Go.Proofs.Try.f43 x = D.f43F x := by
  intro x
  kernel_rfl
noncomputable def D.f43con : Con := ⟨43, D.f43sig, D.f43F⟩
theorem D.f43ok : Con.Ok Go.Proofs.Try.prog D.C D.f43con :=
  runFn_ok (Γ := D.f43Γ) (an := D.f43ann) ⟨D.Cok, (mC D.f72ok mN), D.mixed⟩ Go.Proofs.Try.func43 rfl rfl (fun x y h => (D.f43eq x).trans h) (by decide)
def D.s15sig : Sig := ⟨⟨[.ro (.st (.pair (.sl D.tI) (.pair .bool (.pair .bool (.pair (.sl .bool) (.int .i64))))))], []⟩, ⟨[.own 0], [.arr 3 (.int .i64)]⟩⟩
noncomputable def D.s15Γ : List Con := []
def D.s15ann : Ann := (.seq .leaf (.seq .leaf (.seq (.seq .leaf (.block (.loop ⟨.normal, [(3, .own 0), (11, D.hI)], [.arr 3 (.int .i64)]⟩ [⟨(.exit 0), [(3, .own 0)], [.arr 3 (.int .i64)]⟩] (.seq .leaf (.seq (.cond .leaf .leaf) (.seq (.block
 (.seq .leaf (.seq .leaf (.cond .leaf .leaf)))) .leaf)))))) (.seq .leaf .leaf))))
noncomputable def D.s15F : List (Int × List (Int × Int) × Int × Int) × Bool × Bool × List Bool × Int → Option (List Int) := fun (x : List (Int × List (Int × Int) × Int × Int) × Bool × Bool × List Bool × Int) => Option.bind (iter (fun (s1 :
 Int × List Int) => if decide (s1.1 < (x.2.2.2.1.length : Int)) = true then if (0 : Int) ≤ s1.1 ∧ s1.1 < (x.2.2.2.1.length : Int) then if List.getD x.2.2.2.1 (Int.toNat s1.1) false = true then if roomOk (List.length s1.2 + (1 : Nat)) (8 :
 Nat) then some (Sum.inl (IntKind.i64.wrap (s1.1 + (1 : Int)), s1.2 ++ [s1.1])) else none else some (Sum.inl (IntKind.i64.wrap (s1.1 + (1 : Int)), s1.2)) else none else some (Sum.inr s1.2)) ((0 : Int), [])) fun (v1 : List Int) => some v1
theorem D.s15eq : ∀ x, runFn D.C D.s15Γ D.s15sig D.s15ann Go.Proofs.Try.f44 x = D.s15F x := by
  intro x
  kernel_rfl
noncomputable def D.s15con : Con := ⟨44, D.s15sig, D.s15F⟩
theorem D.s15ok : Con.Ok Go.Proofs.Try.prog D.C D.s15con :=
  runFn_ok (Γ := D.s15Γ) (an := D.s15ann) ⟨D.Cok, mN, D.mixed⟩ Go.Proofs.Try.func44 rfl rfl (fun x y h => (D.s15eq x).trans h) (by decide)
def D.f17sig : Sig := ⟨⟨[D.hP, D.hL, D.hB, D.hB], []⟩, ⟨[.own 0], [.arr 3 (.int .i64)]⟩⟩
noncomputable def D.f17Γ : List Con := [D.f42con, D.f43con, D.s15con]
def D.f17ann : Ann := (.seq .leaf (.seq (.seq .leaf (.cond (.seq .leaf .leaf) .leaf)) (.seq .leaf .leaf)))
noncomputable def D.f17F : List (Int × List (Int × Int) × Int × Int) × List Int × Bool × Bool → Option (List Int) := fun (x : List (Int × List (Int × Int) × Int × Int) × List Int × Bool × Bool) => Option.bind (D.f42F x.1) fun v1 => if (!v1)
 = true then some [] else Option.bind (D.f43F (x.1, x.2.1, x.2.2.1, x.2.2.2)) fun v2 => Option.bind (D.s15F (v2.1, v2.2.1, v2.2.2.1, v2.2.2.2.2, v2.2.2.2.1)) fun v3 => some v3
theorem D.f17eq : ∀ x, runFn D.C D.f17Γ D.f17sig D.f17ann Go.Proofs.Try.f17 x = D.f17F x := by
  intro x
  kernel_rfl
noncomputable def D.f17con : Con := ⟨17, D.f17sig, D.f17F⟩
theorem D.f17ok : Con.Ok Go.Proofs.Try.prog D.C D.f17con :=
  runFn_ok (Γ := D.f17Γ) (an := D.f17ann) ⟨D.Cok, (mC D.f42ok (mC D.f43ok (mC D.s15ok mN))), D.mixed⟩ Go.Proofs.Try.func17 rfl rfl (fun x y h => (D.f17eq x).trans h) (by decide)
def D.f83sig : Sig := ⟨⟨[.ro (.st (.st (.pair (.sl D.tI) (.pair (.int .i64) (.pair (.sl D.tS) (.int .i64)))))), .hole D.tS, D.hB], []⟩, ⟨[.own 0], [.arr 3 (.int .i64)]⟩⟩
noncomputable def D.f83Γ : List Con := [D.f17con]
def D.f83ann : Ann := (.seq .leaf (.seq (.tail 10) .leaf))
noncomputable def D.f83F : (List (Int × List (Int × Int) × Int × Int) × Int × List (List Int × Bool × List (Int × Int)) × Int) × (List Int × Bool × List (Int × Int)) × Bool → Option (List Int) := fun (x : (List (Int × List (Int × Int) × Int
 × Int) × Int × List (List Int × Bool × List (Int × Int)) × Int) × (List Int × Bool × List (Int × Int)) × Bool) => Option.bind (D.f17F (x.1.1, x.2.1.1, x.2.1.2.1, x.2.2)) fun v1 => some v1
theorem D.f83eq : ∀ x, runFn D.C D.f83Γ D.f83sig D.f83ann Go.Proofs.Try.f83 x = D.f83F x := by
  intro x
  kernel_rfl
noncomputable def D.f83con : Con := ⟨83, D.f83sig, D.f83F⟩
theorem D.f83ok : Con.Ok Go.Proofs.Try.prog D.C D.f83con :=
  runFn_ok (Γ := D.f83Γ) (an := D.f83ann) ⟨D.Cok, (mC D.f17ok mN), D.mixed⟩ Go.Proofs.Try.func83 rfl rfl (fun x y h => (D.f83eq x).trans h) (by decide)
def D.f99sig : Sig := ⟨⟨[.hole D.tP, .ptr 0 0], [.cells [D.hI]]⟩, ⟨[D.hB], [.cells [D.hI]]⟩⟩
noncomputable def D.f99Γ : List Con := []
def D.f99ann : Ann := (.seq .leaf (.seq .leaf .leaf))
noncomputable def D.f99F : (Int × Int) × Int → Option (Bool × Int) := fun (x : (Int × Int) × Int) => if decide (x.1.1 ≤ x.2) = true then some (decide (x.2 ≤ x.1.2), x.2) else some (false, x.2)
theorem D.f99eq : ∀ x, runFn D.C D.f99Γ D.f99sig D.f99ann Go.Proofs.Try.f99 x = D.f99F x := by
  intro x
  kernel_rfl
noncomputable def D.f99con : Con := ⟨99, D.f99sig, D.f99F⟩
theorem D.f99ok : Con.Ok Go.Proofs.Try.prog D.C D.f99con :=
  runFn_ok (Γ := D.f99Γ) (an := D.f99ann) ⟨D.Cok, mN, D.mixed⟩ Go.Proofs.Try.func99 rfl rfl (fun x y h => (D.f99eq x).trans h) (by decide)
def D.s2sig : Sig := ⟨⟨[.hole (.sl D.tP), .fnc 99 1, .ptr 0 0], [.cells [D.hI]]⟩, ⟨[D.hI], [.cells [D.hI]]⟩⟩
noncomputable def D.s2Γ : List Con := [D.f99con]
def D.s2ann : Ann := (.seq .leaf (.seq (.seq .leaf (.block (.loop ⟨.normal, [(8, D.hI)], [.cells [D.hI]]⟩ [⟨(.exit 0), [], [.cells [D.hI]]⟩, ⟨.ret, [(4, D.hI)], [.cells [D.hI]]⟩] (.seq .leaf (.seq (.cond .leaf .leaf) (.seq (.block (.seq
 .leaf (.seq .leaf (.cond (.seq .leaf .leaf) .leaf)))) .leaf)))))) (.seq .leaf .leaf)))
noncomputable def D.s2F : List (Int × Int) × Int → Option (Int × Int) := fun (x : List (Int × Int) × Int) => Option.bind (iter (fun (s1 : Int × Int) => if decide (s1.1 < (x.1.length : Int)) = true then if (0 : Int) ≤ s1.1 ∧ s1.1 <
 (x.1.length : Int) then Option.bind (D.f99F (List.getD x.1 (Int.toNat s1.1) ((0 : Int), (0 : Int)), s1.2)) fun v2 => if v2.1 = true then some (Sum.inr (Sum.inr (s1.1, v2.2))) else some (Sum.inl (IntKind.i64.wrap (s1.1 + (1 : Int)), v2.2))
 else none else some (Sum.inr (Sum.inl s1.2))) ((0 : Int), x.2)) fun v1 => Sum.elim (fun (p2 : Int) => some ((-1 : Int), p2)) (fun (q2 : Int × Int) => some (q2.1, q2.2)) v1
theorem D.s2eq : ∀ x, runFn D.C D.s2Γ D.s2sig D.s2ann Go.Proofs.Try.f109 x = D.s2F x := by
  intro x
  kernel_rfl
noncomputable def D.s2con : Con := ⟨109, D.s2sig, D.s2F⟩
theorem D.s2ok : Con.Ok Go.Proofs.Try.prog D.C D.s2con :=
  runFn_ok (Γ := D.s2Γ) (an := D.s2ann) ⟨D.Cok, (mC D.f99ok mN), D.mixed⟩ Go.Proofs.Try.func109 rfl rfl (fun x y h => (D.s2eq x).trans h) (by decide)
def D.s3sig : Sig := ⟨⟨[.hole (.sl D.tP), .fnc 99 1, .ptr 0 0], [.cells [D.hI]]⟩, ⟨[D.hB], [.cells [D.hI]]⟩⟩
noncomputable def D.s3Γ : List Con := [D.s2con, D.f99con]
def D.s3ann : Ann := (.seq .leaf (.seq .leaf .leaf))
noncomputable def D.s3F : List (Int × Int) × Int → Option (Bool × Int) := fun (x : List (Int × Int) × Int) => Option.bind (D.s2F (x.1, x.2)) fun v1 => some (decide (v1.1 ≥ (0 : Int)), v1.2)
theorem D.s3eq : ∀ x, runFn D.C D.s3Γ D.s3sig D.s3ann Go.Proofs.Try.f98 x = D.s3F x := by
  intro x
  kernel_rfl
noncomputable def D.s3con : Con := ⟨98, D.s3sig, D.s3F⟩
theorem D.s3ok : Con.Ok Go.Proofs.Try.prog D.C D.s3con :=
  runFn_ok (Γ := D.s3Γ) (an := D.s3ann) ⟨D.Cok, (mC D.s2ok (mC D.f99ok mN)), D.mixed⟩ Go.Proofs.Try.func98 rfl rfl (fun x y h => (D.s3eq x).trans h) (by decide)
def D.f73sig : Sig := ⟨⟨[.hole (.sl D.tP), D.hI], []⟩, ⟨[D.hB], []⟩⟩
noncomputable def D.f73Γ : List Con := [D.s3con]
def D.f73ann : Ann := (.seq .leaf (.seq .leaf .leaf))
noncomputable def D.f73F : List (Int × Int) × Int → Option (Bool) := fun (x : List (Int × Int) × Int) => Option.bind (D.s3F (x.1, x.2)) fun v1 => some v1.1
theorem D.f73eq : ∀ x, runFn D.C D.f73Γ D.f73sig D.f73ann Go.Proofs.Try.f73 x = D.f73F x := by
  intro x
  kernel_rfl
noncomputable def D.f73con : Con := ⟨73, D.f73sig, D.f73F⟩
theorem D.f73ok : Con.Ok Go.Proofs.Try.prog D.C D.f73con :=
  runFn_ok (Γ := D.f73Γ) (an := D.f73ann) ⟨D.Cok, (mC D.s3ok mN), D.mixed⟩ Go.Proofs.Try.func73 rfl rfl (fun x y h => (D.f73eq x).trans h) (by decide)
def D.f118sig : Sig := ⟨⟨[.hole (.int .u32)], []⟩, ⟨[D.hI], []⟩⟩
noncomputable def D.f118Γ : List Con := []
def D.f118ann : Ann := (.seq .leaf (.seq (.join [⟨.normal, [(0, .hole (.int .u32)), (2, D.hI)], []⟩] (.seq .leaf (.cond (.seq .leaf .leaf) .leaf))) (.seq (.join [⟨.normal, [(0, .hole (.int .u32)), (2, D.hI)], []⟩] (.seq .leaf (.cond (.seq
 .leaf .leaf) .leaf))) (.seq .leaf .leaf))))
noncomputable def D.f118F : Int → Option (Int) := fun (x : Int) => Option.bind (if decide (x ≥ (65536 : Int)) = true then some (Int.fdiv x ((2 : Int) ^ Min.min (Int.toNat (16 : Int)) (IntKind.bits IntKind.u32)), (16 : Int)) else some (x, (0
 : Int))) fun v1 => Option.bind (if decide (v1.1 ≥ (256 : Int)) = true then some (Int.fdiv v1.1 ((2 : Int) ^ Min.min (Int.toNat (8 : Int)) (IntKind.bits IntKind.u32)), IntKind.i64.wrap (v1.2 + (8 : Int))) else some (v1.1, v1.2)) fun v2 => if
 (0 : Int) ≤ IntKind.wrap IntKind.u8 v2.1 ∧ IntKind.wrap IntKind.u8 v2.1 < (↑(ByteArray.size { data := List.toArray (List.append (List.append [(0 : UInt8), (1 : UInt8), (2 : UInt8), (2 : UInt8), (3 : UInt8), (3 : UInt8), (3 : UInt8), (3 :
 UInt8), (4 : UInt8), (4 : UInt8), (4 : UInt8), (4 : UInt8), (4 : UInt8), (4 : UInt8), (4 : UInt8), (4 : UInt8), (5 : UInt8), (5 : UInt8), (5 : UInt8), (5 : UInt8), (5 : UInt8), (5 : UInt8), (5 : UInt8), (5 : UInt8), (5 : UInt8), (5 :
 UInt8), (5 : UInt8), (5 : UInt8), (5 : UInt8), (5 : UInt8), (5 : UInt8), (5 : UInt8), (6 : UInt8), (6 : UInt8), (6 : UInt8), (6 : UInt8), (6 : UInt8), (6 : UInt8), (6 : UInt8), (6 : UInt8), (6 : UInt8), (6 : UInt8), (6 : UInt8), (6 :
 UInt8), (6 : UInt8), (6 : UInt8), (6 : UInt8), (6 : UInt8), (6 : UInt8), (6 : UInt8), (6 : UInt8), (6 : UInt8), (6 : UInt8), (6 : UInt8), (6 : UInt8), (6 : UInt8), (6 : UInt8), (6 : UInt8), (6 : UInt8), (6 : UInt8), (6 : UInt8), (6 :
 UInt8), (6 : UInt8), (6 : UInt8)] [(7 : UInt8), (7 : UInt8), (7 : UInt8), (7 : UInt8), (7 : UInt8), (7 : UInt8), (7 : UInt8), (7 : UInt8), (7 : UInt8), (7 : UInt8), (7 : UInt8), (7 : UInt8), (7 : UInt8), (7 : UInt8), (7 : UInt8), (7 :
 UInt8), (7 : UInt8), (7 : UInt8), (7 : UInt8), (7 : UInt8), (7 : UInt8), (7 : UInt8), (7 : UInt8), (7 : UInt8), (7 : UInt8), (7 : UInt8), (7 : UInt8), (7 : UInt8), (7 : UInt8), (7 : UInt8), (7 : UInt8), (7 : UInt8), (7 : UInt8), (7 :
 UInt8), (7 : UInt8), (7 : UInt8), (7 : UInt8), (7 : UInt8), (7 : UInt8), (7 : UInt8), (7 : UInt8), (7 : UInt8), (7 : UInt8), (7 : UInt8), (7 : UInt8), (7 : UInt8), (7 : UInt8), (7 : UInt8), (7 : UInt8), (7 : UInt8), (7 : UInt8), (7 :
 UInt8), (7 : UInt8), (7 : UInt8), (7 : UInt8), (7 : UInt8), (7 : UInt8), (7 : UInt8), (7 : UInt8), (7 : UInt8), (7 : UInt8), (7 : UInt8), (7 : UInt8), (7 : UInt8)]) (List.append [(8 : UInt8), (8 : UInt8), (8 : UInt8), (8 : UInt8), (8 :
 UInt8), (8 : UInt8), (8 : UInt8), (8 : UInt8), (8 : UInt8), (8 : UInt8), (8 : UInt8), (8 : UInt8), (8 : UInt8), (8 : UInt8), (8 : UInt8), (8 : UInt8), (8 : UInt8), (8 : UInt8), (8 : UInt8), (8 : UInt8), (8 : UInt8), (8 : UInt8), (8 :
 UInt8), (8 : UInt8), (8 : UInt8), (8 : UInt8), (8 : UInt8), (8 : UInt8), (8 : UInt8), (8 : UInt8), (8 : UInt8), (8 : UInt8), (8 : UInt8), (8 : UInt8), (8 : UInt8), (8 : UInt8), (8 : UInt8), (8 : UInt8), (8 : UInt8), (8 : UInt8), (8 :
 UInt8), (8 : UInt8), (8 : UInt8), (8 : UInt8), (8 : UInt8), (8 : UInt8), (8 : UInt8), (8 : UInt8), (8 : UInt8), (8 : UInt8), (8 : UInt8), (8 : UInt8), (8 : UInt8), (8 : UInt8), (8 : UInt8), (8 : UInt8), (8 : UInt8), (8 : UInt8), (8 :
 UInt8), (8 : UInt8), (8 : UInt8), (8 : UInt8), (8 : UInt8), (8 : UInt8)] [(8 : UInt8), (8 : UInt8), (8 : UInt8), (8 : UInt8), (8 : UInt8), (8 : UInt8), (8 : UInt8), (8 : UInt8), (8 : UInt8), (8 : UInt8), (8 : UInt8), (8 : UInt8), (8 :
 UInt8), (8 : UInt8), (8 : UInt8), (8 : UInt8), (8 : UInt8), (8 : UInt8), (8 : UInt8), (8 : UInt8), (8 : UInt8), (8 : UInt8), (8 : UInt8), (8 : UInt8), (8 : UInt8), (8 : UInt8), (8 : UInt8), (8 : UInt8), (8 : UInt8), (8 : UInt8), (8 :
 UInt8), (8 : UInt8), (8 : UInt8), (8 : UInt8), (8 : UInt8), (8 : UInt8), (8 : UInt8), (8 : UInt8), (8 : UInt8), (8 : UInt8), (8 : UInt8), (8 : UInt8), (8 : UInt8), (8 : UInt8), (8 : UInt8), (8 : UInt8), (8 : UInt8), (8 : UInt8), (8 :
 UInt8), (8 : UInt8), (8 : UInt8), (8 : UInt8), (8 : UInt8), (8 : UInt8), (8 : UInt8), (8 : UInt8), (8 : UInt8), (8 : UInt8), (8 : UInt8), (8 : UInt8), (8 : UInt8), (8 : UInt8), (8 : UInt8), (8 : UInt8)])) : ByteArray }) : Int) then some
 (IntKind.i64.wrap (v2.2 + IntKind.i64.wrap (↑(UInt8.toNat (List.getD { data := List.toArray (List.append (List.append [(0 : UInt8), (1 : UInt8), (2 : UInt8), (2 : UInt8), (3 : UInt8), (3 : UInt8), (3 : UInt8), (3 : UInt8), (4 : UInt8), (4 :
 UInt8), (4 : UInt8), (4 : UInt8), (4 : UInt8), (4 : UInt8), (4 : UInt8), (4 : UInt8), (5 : UInt8), (5 : UInt8), (5 : UInt8), (5 : UInt8), (5 : UInt8), (5 : UInt8), (5 : UInt8), (5 : UInt8), (5 : UInt8), (5 : UInt8), (5 : UInt8), (5 :
 UInt8), (5 : UInt8), (5 : UInt8), (5 : UInt8), (5 : UInt8), (6 : UInt8), (6 : UInt8), (6 : UInt8), (6 : UInt8), (6 : UInt8), (6 : UInt8), (6 : UInt8), (6 : UInt8), (6 : UInt8), (6 : UInt8), (6 : UInt8), (6 : UInt8), (6 : UInt8), (6 :
 UInt8), (6 : UInt8), (6 : UInt8), (6 : UInt8), (6 : UInt8), (6 : UInt8), (6 : UInt8), (6 : UInt8), (6 : UInt8), (6 : UInt8), (6 : UInt8), (6 : UInt8), (6 : UInt8), (6 : UInt8), (6 : UInt8), (6 : UInt8), (6 : UInt8), (6 : UInt8), (6 :
 UInt8)] [(7 : UInt8), (7 : UInt8), (7 : UInt8), (7 : UInt8), (7 : UInt8), (7 : UInt8), (7 : UInt8), (7 : UInt8), (7 : UInt8), (7 : UInt8), (7 : UInt8), (7 : UInt8), (7 : UInt8), (7 : UInt8), (7 : UInt8), (7 : UInt8), (7 : UInt8), (7 :
 UInt8), (7 : UInt8), (7 : UInt8), (7 : UInt8), (7 : UInt8), (7 : UInt8), (7 : UInt8), (7 : UInt8), (7 : UInt8), (7 : UInt8), (7 : UInt8), (7 : UInt8), (7 : UInt8), (7 : UInt8), (7 : UInt8), (7 : UInt8), (7 : UInt8), (7 : UInt8), (7 :
 UInt8), (7 : UInt8), (7 : UInt8), (7 : UInt8), (7 : UInt8), (7 : UInt8), (7 : UInt8), (7 : UInt8), (7 : UInt8), (7 : UInt8), (7 : UInt8), (7 : UInt8), (7 : UInt8), (7 : UInt8), (7 : UInt8), (7 : UInt8), (7 : UInt8), (7 : UInt8), (7 :
 UInt8), (7 : UInt8), (7 : UInt8), (7 : UInt8), (7 : UInt8), (7 : UInt8), (7 : UInt8), (7 : UInt8), (7 : UInt8), (7 : UInt8), (7 : UInt8)]) (List.append [(8 : UInt8), (8 : UInt8), (8 : UInt8), (8 : UInt8), (8 : UInt8), (8 : UInt8), (8 :
 UInt8), (8 : UInt8), (8 : UInt8), (8 : UInt8), (8 : UInt8), (8 : UInt8), (8 : UInt8), (8 : UInt8), (8 : UInt8), (8 : UInt8), (8 : UInt8), (8 : UInt8), (8 : UInt8), (8 : UInt8), (8 : UInt8), (8 : UInt8), (8 : UInt8), (8 : UInt8), (8 :
 UInt8), (8 : UInt8), (8 : UInt8), (8 : UInt8), (8 : UInt8), (8 : UInt8), (8 : UInt8), (8 : UInt8), (8 : UInt8), (8 : UInt8), (8 : UInt8), (8 : UInt8), (8 : UInt8), (8 : UInt8), (8 : UInt8), (8 : UInt8), (8 : UInt8), (8 : UInt8), (8 :
 UInt8), (8 : UInt8), (8 : UInt8), (8 : UInt8), (8 : UInt8), (8 : UInt8), (8 : UInt8), (8 : UInt8), (8 : UInt8), (8 : UInt8), (8 : UInt8), (8 : UInt8), (8 : UInt8), (8 : UInt8), (8 : UInt8), (8 : UInt8), (8 : UInt8), (8 : UInt8), (8 :
 UInt8), (8 : UInt8), (8 : UInt8), (8 : UInt8)] [(8 : UInt8), (8 : UInt8), (8 : UInt8), (8 : UInt8), (8 : UInt8), (8 : UInt8), (8 : UInt8), (8 : UInt8), (8 : UInt8), (8 : UInt8), (8 : UInt8), (8 : UInt8), (8 : UInt8), (8 : UInt8), (8 :
 UInt8), (8 : UInt8), (8 : UInt8), (8 : UInt8), (8 : UInt8), (8 : UInt8), (8 : UInt8), (8 : UInt8), (8 : UInt8), (8 : UInt8), (8 : UInt8), (8 : UInt8), (8 : UInt8), (8 : UInt8), (8 : UInt8), (8 : UInt8), (8 : UInt8), (8 : UInt8), (8 :
 UInt8), (8 : UInt8), (8 : UInt8), (8 : UInt8), (8 : UInt8), (8 : UInt8), (8 : UInt8), (8 : UInt8), (8 : UInt8), (8 : UInt8), (8 : UInt8), (8 : UInt8), (8 : UInt8), (8 : UInt8), (8 : UInt8), (8 : UInt8), (8 : UInt8), (8 : UInt8), (8 :
 UInt8), (8 : UInt8), (8 : UInt8), (8 : UInt8), (8 : UInt8), (8 : UInt8), (8 : UInt8), (8 : UInt8), (8 : UInt8), (8 : UInt8), (8 : UInt8), (8 : UInt8), (8 : UInt8), (8 : UInt8)])) : ByteArray }.data.toList (Int.toNat (IntKind.wrap IntKind.u8
 v2.1)) (0 : UInt8))) : Int))) else none
theorem D.f118eq : ∀ x, runFn D.C D.f118Γ D.f118sig D.f118ann Go.Proofs.Try.f118 x = D.f118F x := by
  intro x
  kernel_rfl
noncomputable def D.f118con : Con := ⟨118, D.f118sig, D.f118F⟩
theorem D.f118ok : Con.Ok Go.Proofs.Try.prog D.C D.f118con :=
  runFn_ok (Γ := D.f118Γ) (an := D.f118ann) ⟨D.Cok, mN, D.mixed⟩ Go.Proofs.Try.func118 rfl rfl (fun x y h => (D.f118eq x).trans h) (by decide)
def D.f119sig : Sig := ⟨⟨[.hole (.int .u64)], []⟩, ⟨[D.hI], []⟩⟩
noncomputable def D.f119Γ : List Con := []
def D.f119ann : Ann := (.seq .leaf (.seq (.join [⟨.normal, [(0, .hole (.int .u64)), (2, D.hI)], []⟩] (.seq .leaf (.cond (.seq .leaf .leaf) .leaf))) (.seq (.join [⟨.normal, [(0, .hole (.int .u64)), (2, D.hI)], []⟩] (.seq .leaf (.cond (.seq
 .leaf .leaf) .leaf))) (.seq (.join [⟨.normal, [(0, .hole (.int .u64)), (2, D.hI)], []⟩] (.seq .leaf (.cond (.seq .leaf .leaf) .leaf))) (.seq .leaf .leaf)))))
noncomputable def D.f119F : Int → Option (Int) := fun (x : Int) => Option.bind (if decide (x ≥ (4294967296 : Int)) = true then some (Int.fdiv x ((2 : Int) ^ Min.min (Int.toNat (32 : Int)) (IntKind.bits IntKind.u64)), (32 : Int)) else some
 (x, (0 : Int))) fun v1 => Option.bind (if decide (v1.1 ≥ (65536 : Int)) = true then some (Int.fdiv v1.1 ((2 : Int) ^ Min.min (Int.toNat (16 : Int)) (IntKind.bits IntKind.u64)), IntKind.i64.wrap (v1.2 + (16 : Int))) else some (v1.1, v1.2))
 fun v2 => Option.bind (if decide (v2.1 ≥ (256 : Int)) = true then some (Int.fdiv v2.1 ((2 : Int) ^ Min.min (Int.toNat (8 : Int)) (IntKind.bits IntKind.u64)), IntKind.i64.wrap (v2.2 + (8 : Int))) else some (v2.1, v2.2)) fun v3 => if (0 :
 Int) ≤ IntKind.wrap IntKind.u8 v3.1 ∧ IntKind.wrap IntKind.u8 v3.1 < (↑(ByteArray.size { data := List.toArray (List.append (List.append [(0 : UInt8), (1 : UInt8), (2 : UInt8), (2 : UInt8), (3 : UInt8), (3 : UInt8), (3 : UInt8), (3 : UInt8),
 (4 : UInt8), (4 : UInt8), (4 : UInt8), (4 : UInt8), (4 : UInt8), (4 : UInt8), (4 : UInt8), (4 : UInt8), (5 : UInt8), (5 : UInt8), (5 : UInt8), (5 : UInt8), (5 : UInt8), (5 : UInt8), (5 : UInt8), (5 : UInt8), (5 : UInt8), (5 : UInt8), (5 :
 UInt8), (5 : UInt8), (5 : UInt8), (5 : UInt8), (5 : UInt8), (5 : UInt8), (6 : UInt8), (6 : UInt8), (6 : UInt8), (6 : UInt8), (6 : UInt8), (6 : UInt8), (6 : UInt8), (6 : UInt8), (6 : UInt8), (6 : UInt8), (6 : UInt8), (6 : UInt8), (6 :
 UInt8), (6 : UInt8), (6 : UInt8), (6 : UInt8), (6 : UInt8), (6 : UInt8), (6 : UInt8), (6 : UInt8), (6 : UInt8), (6 : UInt8), (6 : UInt8), (6 : UInt8), (6 : UInt8), (6 : UInt8), (6 : UInt8), (6 : UInt8), (6 : UInt8), (6 : UInt8), (6 :
 UInt8), (6 : UInt8)] [(7 : UInt8), (7 : UInt8), (7 : UInt8), (7 : UInt8), (7 : UInt8), (7 : UInt8), (7 : UInt8), (7 : UInt8), (7 : UInt8), (7 : UInt8), (7 : UInt8), (7 : UInt8), (7 : UInt8), (7 : UInt8), (7 : UInt8), (7 : UInt8), (7 :
 UInt8), (7 : UInt8), (7 : UInt8), (7 : UInt8), (7 : UInt8), (7 : UInt8), (7 : UInt8), (7 : UInt8), (7 : UInt8), (7 : UInt8), (7 : UInt8), (7 : UInt8), (7 : UInt8), (7 : UInt8), (7 : UInt8), (7 : UInt8), (7 : UInt8), (7 : UInt8), (7 :
 UInt8), (7 : UInt8), (7 : UInt8), (7 : UInt8), (7 : UInt8), (7 : UInt8), (7 : UInt8), (7 : UInt8), (7 : UInt8), (7 : UInt8), (7 : UInt8), (7 : UInt8), (7 : UInt8), (7 : UInt8), (7 : UInt8), (7 : UInt8), (7 : UInt8), (7 : UInt8), (7 :
 UInt8), (7 : UInt8), (7 : UInt8), (7 : UInt8), (7 : UInt8), (7 : UInt8), (7 : UInt8), (7 : UInt8), (7 : UInt8), (7 : UInt8), (7 : UInt8), (7 : UInt8)]) (List.append [(8 : UInt8), (8 : UInt8), (8 : UInt8), (8 : UInt8), (8 : UInt8), (8 :
 UInt8), (8 : UInt8), (8 : UInt8), (8 : UInt8), (8 : UInt8), (8 : UInt8), (8 : UInt8), (8 : UInt8), (8 : UInt8), (8 : UInt8), (8 : UInt8), (8 : UInt8), (8 : UInt8), (8 : UInt8), (8 : UInt8), (8 : UInt8), (8 : UInt8), (8 : UInt8), (8 :
 UInt8), (8 : UInt8), (8 : UInt8), (8 : UInt8), (8 : UInt8), (8 : UInt8), (8 : UInt8), (8 : UInt8), (8 : UInt8), (8 : UInt8), (8 : UInt8), (8 : UInt8), (8 : UInt8), (8 : UInt8), (8 : UInt8), (8 : UInt8), (8 : UInt8), (8 : UInt8), (8 :
 UInt8), (8 : UInt8), (8 : UInt8), (8 : UInt8), (8 : UInt8), (8 : UInt8), (8 : UInt8), (8 : UInt8), (8 : UInt8), (8 : UInt8), (8 : UInt8), (8 : UInt8), (8 : UInt8), (8 : UInt8), (8 : UInt8), (8 : UInt8), (8 : UInt8), (8 : UInt8), (8 :
 UInt8), (8 : UInt8), (8 : UInt8), (8 : UInt8), (8 : UInt8)] [(8 : UInt8), (8 : UInt8), (8 : UInt8), (8 : UInt8), (8 : UInt8), (8 : UInt8), (8 : UInt8), (8 : UInt8), (8 : UInt8), (8 : UInt8), (8 : UInt8), (8 : UInt8), (8 : UInt8), (8 :
 UInt8), (8 : UInt8), (8 : UInt8), (8 : UInt8), (8 : UInt8), (8 : UInt8), (8 : UInt8), (8 : UInt8), (8 : UInt8), (8 : UInt8), (8 : UInt8), (8 : UInt8), (8 : UInt8), (8 : UInt8), (8 : UInt8), (8 : UInt8), (8 : UInt8), (8 : UInt8), (8 :
 UInt8), (8 : UInt8), (8 : UInt8), (8 : UInt8), (8 : UInt8), (8 : UInt8), (8 : UInt8), (8 : UInt8), (8 : UInt8), (8 : UInt8), (8 : UInt8), (8 : UInt8), (8 : UInt8), (8 : UInt8), (8 : UInt8), (8 : UInt8), (8 : UInt8), (8 : UInt8), (8 :
 UInt8), (8 : UInt8), (8 : UInt8), (8 : UInt8), (8 : UInt8), (8 : UInt8), (8 : UInt8), (8 : UInt8), (8 : UInt8), (8 : UInt8), (8 : UInt8), (8 : UInt8), (8 : UInt8), (8 : UInt8), (8 : UInt8)])) : ByteArray }) : Int) then some
 (IntKind.i64.wrap (v3.2 + IntKind.i64.wrap (↑(UInt8.toNat (List.getD { data := List.toArray (List.append (List.append [(0 : UInt8), (1 : UInt8), (2 : UInt8), (2 : UInt8), (3 : UInt8), (3 : UInt8), (3 : UInt8), (3 : UInt8), (4 : UInt8), (4 :
 UInt8), (4 : UInt8), (4 : UInt8), (4 : UInt8), (4 : UInt8), (4 : UInt8), (4 : UInt8), (5 : UInt8), (5 : UInt8), (5 : UInt8), (5 : UInt8), (5 : UInt8), (5 : UInt8), (5 : UInt8), (5 : UInt8), (5 : UInt8), (5 : UInt8), (5 : UInt8), (5 :
 UInt8), (5 : UInt8), (5 : UInt8), (5 : UInt8), (5 : UInt8), (6 : UInt8), (6 : UInt8), (6 : UInt8), (6 : UInt8), (6 : UInt8), (6 : UInt8), (6 : UInt8), (6 : UInt8), (6 : UInt8), (6 : UInt8), (6 : UInt8), (6 : UInt8), (6 : UInt8), (6 :
 UInt8), (6 : UInt8), (6 : UInt8), (6 : UInt8), (6 : UInt8), (6 : UInt8), (6 : UInt8), (6 : UInt8), (6 : UInt8), (6 : UInt8), (6 : UInt8), (6 : UInt8), (6 : UInt8), (6 : UInt8), (6 : UInt8), (6 : UInt8), (6 : UInt8), (6 : UInt8), (6 :
 UInt8)] [(7 : UInt8), (7 : UInt8), (7 : UInt8), (7 : UInt8), (7 : UInt8), (7 : UInt8), (7 : UInt8), (7 : UInt8), (7 : UInt8), (7 : UInt8), (7 : UInt8), (7 : UInt8), (7 : UInt8), (7 : UInt8), (7 : UInt8), (7 : UInt8), (7 : UInt8), (7 :
 UInt8), (7 : UInt8), (7 : UInt8), (7 : UInt8), (7 : UInt8), (7 : UInt8), (7 : UInt8), (7 : UInt8), (7 : UInt8), (7 : UInt8), (7 : UInt8), (7 : UInt8), (7 : UInt8), (7 : UInt8), (7 : UInt8), (7 : UInt8), (7 : UInt8), (7 : UInt8), (7 :
 UInt8), (7 : UInt8), (7 : UInt8), (7 : UInt8), (7 : UInt8), (7 : UInt8), (7 : UInt8), (7 : UInt8), (7 : UInt8), (7 : UInt8), (7 : UInt8), (7 : UInt8), (7 : UInt8), (7 : UInt8), (7 : UInt8), (7 : UInt8), (7 : UInt8), (7 : UInt8), (7 :
 UInt8), (7 : UInt8), (7 : UInt8), (7 : UInt8), (7 : UInt8), (7 : UInt8), (7 : UInt8), (7 : UInt8), (7 : UInt8), (7 : UInt8), (7 : UInt8)]) (List.append [(8 : UInt8), (8 : UInt8), (8 : UInt8), (8 : UInt8), (8 : UInt8), (8 : UInt8), (8 :
 UInt8), (8 : UInt8), (8 : UInt8), (8 : UInt8), (8 : UInt8), (8 : UInt8), (8 : UInt8), (8 : UInt8), (8 : UInt8), (8 : UInt8), (8 : UInt8), (8 : UInt8), (8 : UInt8), (8 : UInt8), (8 : UInt8), (8 : UInt8), (8 : UInt8), (8 : UInt8), (8 :
 UInt8), (8 : UInt8), (8 : UInt8), (8 : UInt8), (8 : UInt8), (8 : UInt8), (8 : UInt8), (8 : UInt8), (8 : UInt8), (8 : UInt8), (8 : UInt8), (8 : UInt8), (8 : UInt8), (8 : UInt8), (8 : UInt8), (8 : UInt8), (8 : UInt8), (8 : UInt8), (8 :
 UInt8), (8 : UInt8), (8 : UInt8), (8 : UInt8), (8 : UInt8), (8 : UInt8), (8 : UInt8), (8 : UInt8), (8 : UInt8), (8 : UInt8), (8 : UInt8), (8 : UInt8), (8 : UInt8), (8 : UInt8), (8 : UInt8), (8 : UInt8), (8 : UInt8), (8 : UInt8), (8 :
 UInt8), (8 : UInt8), (8 : UInt8), (8 : UInt8)] [(8 : UInt8), (8 : UInt8), (8 : UInt8), (8 : UInt8), (8 : UInt8), (8 : UInt8), (8 : UInt8), (8 : UInt8), (8 : UInt8), (8 : UInt8), (8 : UInt8), (8 : UInt8), (8 : UInt8), (8 : UInt8), (8 :
 UInt8), (8 : UInt8), (8 : UInt8), (8 : UInt8), (8 : UInt8), (8 : UInt8), (8 : UInt8), (8 : UInt8), (8 : UInt8), (8 : UInt8), (8 : UInt8), (8 : UInt8), (8 : UInt8), (8 : UInt8), (8 : UInt8), (8 : UInt8), (8 : UInt8), (8 : UInt8), (8 :
 UInt8), (8 : UInt8), (8 : UInt8), (8 : UInt8), (8 : UInt8), (8 : UInt8), (8 : UInt8), (8 : UInt8), (8 : UInt8), (8 : UInt8), (8 : UInt8), (8 : UInt8), (8 : UInt8), (8 : UInt8), (8 : UInt8), (8 : UInt8), (8 : UInt8), (8 : UInt8), (8 :
 UInt8), (8 : UInt8), (8 : UInt8), (8 : UInt8), (8 : UInt8), (8 : UInt8), (8 : UInt8), (8 : UInt8), (8 : UInt8), (8 : UInt8), (8 : UInt8), (8 : UInt8), (8 : UInt8), (8 : UInt8)])) : ByteArray }.data.toList (Int.toNat (IntKind.wrap IntKind.u8
 v3.1)) (0 : UInt8))) : Int))) else none
theorem D.f119eq : ∀ x, runFn D.C D.f119Γ D.f119sig D.f119ann Go.Proofs.Try.f119 x = D.f119F x := by
  intro x
  kernel_rfl
noncomputable def D.f119con : Con := ⟨119, D.f119sig, D.f119F⟩
theorem D.f119ok : Con.Ok Go.Proofs.Try.prog D.C D.f119con :=
  runFn_ok (Γ := D.f119Γ) (an := D.f119ann) ⟨D.Cok, mN, D.mixed⟩ Go.Proofs.Try.func119 rfl rfl (fun x y h => (D.f119eq x).trans h) (by decide)
def D.f101sig : Sig := ⟨⟨[.hole (.int .u64)], []⟩, ⟨[D.hI], []⟩⟩
noncomputable def D.f101Γ : List Con := [D.f118con, D.f119con]
def D.f101ann : Ann := (.seq .leaf (.seq (.cond .leaf .leaf) (.seq .leaf .leaf)))
noncomputable def D.f101F : Int → Option (Int) := fun (x : Int) => Option.bind (D.f119F x) fun v1 => some v1
theorem D.f101eq : ∀ x, runFn D.C D.f101Γ D.f101sig D.f101ann Go.Proofs.Try.f101 x = D.f101F x := by
  intro x
  kernel_rfl
noncomputable def D.f101con : Con := ⟨101, D.f101sig, D.f101F⟩
theorem D.f101ok : Con.Ok Go.Proofs.Try.prog D.C D.f101con :=
  runFn_ok (Γ := D.f101Γ) (an := D.f101ann) ⟨D.Cok, (mC D.f118ok (mC D.f119ok mN)), D.mixed⟩ Go.Proofs.Try.func101 rfl rfl (fun x y h => (D.f101eq x).trans h) (by decide)
def D.f110sig : Sig := ⟨⟨[.own 0, D.hI, D.hI], [.arr 3 (.int .i64)]⟩, ⟨[], [.arr 3 (.int .i64)]⟩⟩
noncomputable def D.f110Γ : List Con := [D.f105con]
def D.f110ann : Ann := (.seq .leaf (.block (.loop ⟨.normal, [(6, D.hI)], [.arr 3 (.int .i64)]⟩ [⟨(.exit 0), [], [.arr 3 (.int .i64)]⟩] (.seq (.seq .leaf (.cond .leaf .leaf)) (.seq (.block (.seq .leaf (.block (.loop ⟨.normal, [(7, D.hI)],
 [.arr 3 (.int .i64)]⟩ [⟨(.exit 2), [], [.arr 3 (.int .i64)]⟩] (.seq (.seq (.join [⟨.normal, [(30, D.hB)], [.arr 3 (.int .i64)]⟩] .leaf) (.cond .leaf .leaf)) (.seq (.block (.eff 1 [] [0, 0, 0, 0, 8, 0, 0, 64, 224, 480, 0, 0, 3072, 7168,
 16355, 32739, 65535, 131071])) .leaf)))))) .leaf)))))
noncomputable def D.f110F : Int × Int × List Int → Option (List Int) := fun (x : Int × Int × List Int) => Option.bind (iter (fun (s1 : Int × List Int) => if decide (s1.1 < x.2.1) = true then Option.bind (iter (fun (s2 : Int × List Int) =>
 Option.bind (if decide (s2.1 > x.1) = true then if (0 : Int) ≤ s2.1 ∧ s2.1 < (s2.2.length : Int) then if (0 : Int) ≤ IntKind.i64.wrap (s2.1 - (1 : Int)) ∧ IntKind.i64.wrap (s2.1 - (1 : Int)) < (s2.2.length : Int) then Option.bind (D.f105F
 (List.getD s2.2 (Int.toNat s2.1) (0 : Int), List.getD s2.2 (Int.toNat (IntKind.i64.wrap (s2.1 - (1 : Int)))) (0 : Int))) fun v3 => some (v3, s2.2) else none else none else some (false, s2.2)) fun (v3 : Bool × List Int) => if v3.1 = true
 then if (0 : Int) ≤ IntKind.i64.wrap (s2.1 - (1 : Int)) ∧ IntKind.i64.wrap (s2.1 - (1 : Int)) < (v3.2.length : Int) then if (0 : Int) ≤ s2.1 ∧ s2.1 < (v3.2.length : Int) then if (0 : Int) ≤ s2.1 ∧ s2.1 < (v3.2.length : Int) then if (0 :
 Int) ≤ IntKind.i64.wrap (s2.1 - (1 : Int)) ∧ IntKind.i64.wrap (s2.1 - (1 : Int)) < (↑(List.length (List.set v3.2 (Int.toNat s2.1) (List.getD v3.2 (Int.toNat (IntKind.i64.wrap (s2.1 - (1 : Int)))) (0 : Int)))) : Int) then some (Sum.inl
 (IntKind.i64.wrap (s2.1 - (1 : Int)), List.set (List.set v3.2 (Int.toNat s2.1) (List.getD v3.2 (Int.toNat (IntKind.i64.wrap (s2.1 - (1 : Int)))) (0 : Int))) (Int.toNat (IntKind.i64.wrap (s2.1 - (1 : Int)))) (List.getD v3.2 (Int.toNat s2.1)
 (0 : Int)))) else none else none else none else none else some (Sum.inr v3.2)) (s1.1, s1.2)) fun (v2 : List Int) => some (Sum.inl (IntKind.i64.wrap (s1.1 + (1 : Int)), v2)) else some (Sum.inr s1.2)) (IntKind.i64.wrap (x.1 + (1 : Int)),
 x.2.2)) fun (v1 : List Int) => some v1
theorem D.f110eq : ∀ x, runFn D.C D.f110Γ D.f110sig D.f110ann Go.Proofs.Try.f110 x = D.f110F x := by
  intro x
  kernel_rfl
noncomputable def D.f110con : Con := ⟨110, D.f110sig, D.f110F⟩
theorem D.f110ok : Con.Ok Go.Proofs.Try.prog D.C D.f110con :=
  runFn_ok (Γ := D.f110Γ) (an := D.f110ann) ⟨D.Cok, (mC D.f105ok mN), D.mixed⟩ Go.Proofs.Try.func110 rfl rfl (fun x y h => (D.f110eq x).trans h) (by decide)
def D.f121sig : Sig := ⟨⟨[.own 0, D.hI, D.hI, D.hI], [.arr 3 (.int .i64)]⟩, ⟨[], [.arr 3 (.int .i64)]⟩⟩
noncomputable def D.f121Γ : List Con := [D.f105con]
def D.f121ann : Ann := (.seq .leaf (.block (.loop ⟨.normal, [(8, D.hI)], [.arr 3 (.int .i64)]⟩ [⟨(.exit 0), [], [.arr 3 (.int .i64)]⟩, ⟨.ret, [], [.arr 3 (.int .i64)]⟩] (.block (.seq .leaf (.seq (.seq .leaf (.cond .leaf .leaf)) (.seq (.join
 [⟨.normal, [(9, D.hI)], [.arr 3 (.int .i64)]⟩] (.seq (.join [⟨.normal, [(36, D.hB)], [.arr 3 (.int .i64)]⟩] .leaf) (.cond .leaf .leaf))) (.seq (.seq .leaf (.cond .leaf .leaf)) (.seq (.eff 1 [] [0, 0, 0, 6, 0, 0, 0, 96, 0, 0, 0, 1536, 3840,
 7936, 0, 0, 0, 98304, 245760, 507904, 1048335, 2096911, 4194303, 8388607]) .leaf)))))))))
noncomputable def D.f121F : Int × Int × Int × List Int → Option (List Int) := fun (x : Int × Int × Int × List Int) => Option.bind (iter (fun (s1 : Int × List Int) => if decide (IntKind.i64.wrap (IntKind.i64.wrap ((2 : Int) * s1.1) + (1 :
 Int)) ≥ x.2.1) = true then some (Sum.inr (Sum.inl s1.2)) else Option.bind (Option.bind (if decide (IntKind.i64.wrap (IntKind.i64.wrap (IntKind.i64.wrap ((2 : Int) * s1.1) + (1 : Int)) + (1 : Int)) < x.2.1) = true then if (0 : Int) ≤
 IntKind.i64.wrap (x.2.2.1 + IntKind.i64.wrap (IntKind.i64.wrap ((2 : Int) * s1.1) + (1 : Int))) ∧ IntKind.i64.wrap (x.2.2.1 + IntKind.i64.wrap (IntKind.i64.wrap ((2 : Int) * s1.1) + (1 : Int))) < (s1.2.length : Int) then if (0 : Int) ≤
 IntKind.i64.wrap (IntKind.i64.wrap (x.2.2.1 + IntKind.i64.wrap (IntKind.i64.wrap ((2 : Int) * s1.1) + (1 : Int))) + (1 : Int)) ∧ IntKind.i64.wrap (IntKind.i64.wrap (x.2.2.1 + IntKind.i64.wrap (IntKind.i64.wrap ((2 : Int) * s1.1) + (1 :
 Int))) + (1 : Int)) < (s1.2.length : Int) then Option.bind (D.f105F (List.getD s1.2 (Int.toNat (IntKind.i64.wrap (x.2.2.1 + IntKind.i64.wrap (IntKind.i64.wrap ((2 : Int) * s1.1) + (1 : Int))))) (0 : Int), List.getD s1.2 (Int.toNat
 (IntKind.i64.wrap (IntKind.i64.wrap (x.2.2.1 + IntKind.i64.wrap (IntKind.i64.wrap ((2 : Int) * s1.1) + (1 : Int))) + (1 : Int)))) (0 : Int))) fun v2 => some (v2, s1.2) else none else none else some (false, s1.2)) fun (v2 : Bool × List Int)
 => if v2.1 = true then some (IntKind.i64.wrap (IntKind.i64.wrap (IntKind.i64.wrap ((2 : Int) * s1.1) + (1 : Int)) + (1 : Int)), v2.2) else some (IntKind.i64.wrap (IntKind.i64.wrap ((2 : Int) * s1.1) + (1 : Int)), v2.2)) fun (v2 : Int × List
 Int) => if (0 : Int) ≤ IntKind.i64.wrap (x.2.2.1 + s1.1) ∧ IntKind.i64.wrap (x.2.2.1 + s1.1) < (v2.2.length : Int) then if (0 : Int) ≤ IntKind.i64.wrap (x.2.2.1 + v2.1) ∧ IntKind.i64.wrap (x.2.2.1 + v2.1) < (v2.2.length : Int) then
 Option.bind (D.f105F (List.getD v2.2 (Int.toNat (IntKind.i64.wrap (x.2.2.1 + s1.1))) (0 : Int), List.getD v2.2 (Int.toNat (IntKind.i64.wrap (x.2.2.1 + v2.1))) (0 : Int))) fun v3 => if (!v3) = true then some (Sum.inr (Sum.inr v2.2)) else if
 (0 : Int) ≤ IntKind.i64.wrap (x.2.2.1 + v2.1) ∧ IntKind.i64.wrap (x.2.2.1 + v2.1) < (v2.2.length : Int) then if (0 : Int) ≤ IntKind.i64.wrap (x.2.2.1 + s1.1) ∧ IntKind.i64.wrap (x.2.2.1 + s1.1) < (v2.2.length : Int) then if (0 : Int) ≤
 IntKind.i64.wrap (x.2.2.1 + s1.1) ∧ IntKind.i64.wrap (x.2.2.1 + s1.1) < (v2.2.length : Int) then if (0 : Int) ≤ IntKind.i64.wrap (x.2.2.1 + v2.1) ∧ IntKind.i64.wrap (x.2.2.1 + v2.1) < (↑(List.length (List.set v2.2 (Int.toNat
 (IntKind.i64.wrap (x.2.2.1 + s1.1))) (List.getD v2.2 (Int.toNat (IntKind.i64.wrap (x.2.2.1 + v2.1))) (0 : Int)))) : Int) then some (Sum.inl (v2.1, List.set (List.set v2.2 (Int.toNat (IntKind.i64.wrap (x.2.2.1 + s1.1))) (List.getD v2.2
 (Int.toNat (IntKind.i64.wrap (x.2.2.1 + v2.1))) (0 : Int))) (Int.toNat (IntKind.i64.wrap (x.2.2.1 + v2.1))) (List.getD v2.2 (Int.toNat (IntKind.i64.wrap (x.2.2.1 + s1.1))) (0 : Int)))) else none else none else none else none else none else
 none) (x.1, x.2.2.2)) fun (v1 : List Int ⊕ List Int) => Sum.elim (fun (p2 : List Int) => some p2) (fun (q2 : List Int) => some q2) v1
theorem D.f121eq : ∀ x, runFn D.C D.f121Γ D.f121sig D.f121ann Go.Proofs.Try.f121 x = D.f121F x := by
  intro x
  kernel_rfl
noncomputable def D.f121con : Con := ⟨121, D.f121sig, D.f121F⟩
theorem D.f121ok : Con.Ok Go.Proofs.Try.prog D.C D.f121con :=
  runFn_ok (Γ := D.f121Γ) (an := D.f121ann) ⟨D.Cok, (mC D.f105ok mN), D.mixed⟩ Go.Proofs.Try.func121 rfl rfl (fun x y h => (D.f121eq x).trans h) (by decide)
def D.f111sig : Sig := ⟨⟨[.own 0, D.hI, D.hI], [.arr 3 (.int .i64)]⟩, ⟨[], [.arr 3 (.int .i64)]⟩⟩
noncomputable def D.f111Γ : List Con := [D.f121con]
def D.f111ann : Ann := (.seq .leaf (.seq .leaf (.seq .leaf (.seq (.seq .leaf (.block (.loop ⟨.normal, [(9, D.hI)], [.arr 3 (.int .i64)]⟩ [⟨(.exit 0), [], [.arr 3 (.int .i64)]⟩] (.seq (.seq .leaf (.cond .leaf .leaf)) (.seq (.block .leaf)
 .leaf))))) (.seq .leaf (.block (.loop ⟨.normal, [(10, D.hI)], [.arr 3 (.int .i64)]⟩ [⟨(.exit 2), [], [.arr 3 (.int .i64)]⟩] (.seq (.seq .leaf (.cond .leaf .leaf)) (.seq (.block (.seq (.eff 1 [] [0, 0, 0, 0, 0, 24, 0, 0, 0, 384, 960, 1984,
 0, 0, 12288, 28672, 65475, 131011, 262143, 524287]) .leaf)) .leaf)))))))))
noncomputable def D.f111F : Int × Int × List Int → Option (List Int) := fun (x : Int × Int × List Int) => Option.bind (iter (fun (s1 : Int × List Int) => if decide (s1.1 ≥ (0 : Int)) = true then Option.bind (D.f121F (s1.1, IntKind.i64.wrap
 (x.2.1 - x.1), x.1, s1.2)) fun v2 => some (Sum.inl (IntKind.i64.wrap (s1.1 - (1 : Int)), v2)) else some (Sum.inr s1.2)) (IntKind.i64.wrap (Int.tdiv (IntKind.i64.wrap (IntKind.i64.wrap (x.2.1 - x.1) - (1 : Int))) (2 : Int)), x.2.2)) fun (v1
 : List Int) => Option.bind (iter (fun (s2 : Int × List Int) => if decide (s2.1 ≥ (0 : Int)) = true then if (0 : Int) ≤ IntKind.i64.wrap (x.1 + s2.1) ∧ IntKind.i64.wrap (x.1 + s2.1) < (s2.2.length : Int) then if (0 : Int) ≤ x.1 ∧ x.1 <
 (s2.2.length : Int) then if (0 : Int) ≤ x.1 ∧ x.1 < (s2.2.length : Int) then if (0 : Int) ≤ IntKind.i64.wrap (x.1 + s2.1) ∧ IntKind.i64.wrap (x.1 + s2.1) < (↑(List.length (List.set s2.2 (Int.toNat x.1) (List.getD s2.2 (Int.toNat
 (IntKind.i64.wrap (x.1 + s2.1))) (0 : Int)))) : Int) then Option.bind (D.f121F ((0 : Int), s2.1, x.1, List.set (List.set s2.2 (Int.toNat x.1) (List.getD s2.2 (Int.toNat (IntKind.i64.wrap (x.1 + s2.1))) (0 : Int))) (Int.toNat
 (IntKind.i64.wrap (x.1 + s2.1))) (List.getD s2.2 (Int.toNat x.1) (0 : Int)))) fun v3 => some (Sum.inl (IntKind.i64.wrap (s2.1 - (1 : Int)), v3)) else none else none else none else none else some (Sum.inr s2.2)) (IntKind.i64.wrap
 (IntKind.i64.wrap (x.2.1 - x.1) - (1 : Int)), v1)) fun (v2 : List Int) => some v2
theorem D.f111eq : ∀ x, runFn D.C D.f111Γ D.f111sig D.f111ann Go.Proofs.Try.f111 x = D.f111F x := by
  intro x
  kernel_rfl
noncomputable def D.f111con : Con := ⟨111, D.f111sig, D.f111F⟩
theorem D.f111ok : Con.Ok Go.Proofs.Try.prog D.C D.f111con :=
  runFn_ok (Γ := D.f111Γ) (an := D.f111ann) ⟨D.Cok, (mC D.f121ok mN), D.mixed⟩ Go.Proofs.Try.func111 rfl rfl (fun x y h => (D.f111eq x).trans h) (by decide)
def D.f122sig : Sig := ⟨⟨[D.hI], []⟩, ⟨[.hole (.int .u64)], []⟩⟩
noncomputable def D.f122Γ : List Con := [D.f101con]
def D.f122ann : Ann := (.seq .leaf (.seq .leaf .leaf))
noncomputable def D.f122F : Int → Option (Int) := fun (x : Int) => Option.bind (D.f101F (IntKind.wrap IntKind.u64 x)) fun v1 => if v1 < (0 : Int) then none else some (IntKind.wrap IntKind.u64 ((1 : Int) * (2 : Int) ^ Min.min (Int.toNat v1)
 (IntKind.bits IntKind.u64)))
theorem D.f122eq : ∀ x, runFn D.C D.f122Γ D.f122sig D.f122ann Go.Proofs.Try.f122 x = D.f122F x := by
  intro x
  kernel_rfl
noncomputable def D.f122con : Con := ⟨122, D.f122sig, D.f122F⟩
theorem D.f122ok : Con.Ok Go.Proofs.Try.prog D.C D.f122con :=
  runFn_ok (Γ := D.f122Γ) (an := D.f122ann) ⟨D.Cok, (mC D.f101ok mN), D.mixed⟩ Go.Proofs.Try.func122 rfl rfl (fun x y h => (D.f122eq x).trans h) (by decide)
def D.f123sig : Sig := ⟨⟨[.ptr 0 0], [.cells [.hole (.int .u64)]]⟩, ⟨[.hole (.int .u64)], [.cells [.hole (.int .u64)]]⟩⟩
noncomputable def D.f123Γ : List Con := []
def D.f123ann : Ann := (.seq .leaf (.seq (.tail 9) (.seq (.tail 9) (.seq (.tail 9) (.seq .leaf .leaf)))))
noncomputable def D.f123F : Int → Option (Int × Int) := fun (x : Int) => some (IntKind.wrap IntKind.u64 (↑(BitVec.toNat (BitVec.ofInt (IntKind.bits IntKind.u64) (IntKind.wrap IntKind.u64 (↑(BitVec.toNat (BitVec.ofInt (IntKind.bits
 IntKind.u64) (IntKind.wrap IntKind.u64 (↑(BitVec.toNat (BitVec.ofInt (IntKind.bits IntKind.u64) x ^^^ BitVec.ofInt (IntKind.bits IntKind.u64) (IntKind.wrap IntKind.u64 (x * (2 : Int) ^ Min.min (Int.toNat (13 : Int)) (IntKind.bits
 IntKind.u64))))) : Int)) ^^^ BitVec.ofInt (IntKind.bits IntKind.u64) (Int.fdiv (IntKind.wrap IntKind.u64 (↑(BitVec.toNat (BitVec.ofInt (IntKind.bits IntKind.u64) x ^^^ BitVec.ofInt (IntKind.bits IntKind.u64) (IntKind.wrap IntKind.u64 (x *
 (2 : Int) ^ Min.min (Int.toNat (13 : Int)) (IntKind.bits IntKind.u64))))) : Int)) ((2 : Int) ^ Min.min (Int.toNat (7 : Int)) (IntKind.bits IntKind.u64))))) : Int)) ^^^ BitVec.ofInt (IntKind.bits IntKind.u64) (IntKind.wrap IntKind.u64
 (IntKind.wrap IntKind.u64 (↑(BitVec.toNat (BitVec.ofInt (IntKind.bits IntKind.u64) (IntKind.wrap IntKind.u64 (↑(BitVec.toNat (BitVec.ofInt (IntKind.bits IntKind.u64) x ^^^ BitVec.ofInt (IntKind.bits IntKind.u64) (IntKind.wrap IntKind.u64 (x
 * (2 : Int) ^ Min.min (Int.toNat (13 : Int)) (IntKind.bits IntKind.u64))))) : Int)) ^^^ BitVec.ofInt (IntKind.bits IntKind.u64) (Int.fdiv (IntKind.wrap IntKind.u64 (↑(BitVec.toNat (BitVec.ofInt (IntKind.bits IntKind.u64) x ^^^ BitVec.ofInt
 (IntKind.bits IntKind.u64) (IntKind.wrap IntKind.u64 (x * (2 : Int) ^ Min.min (Int.toNat (13 : Int)) (IntKind.bits IntKind.u64))))) : Int)) ((2 : Int) ^ Min.min (Int.toNat (7 : Int)) (IntKind.bits IntKind.u64))))) : Int) * (2 : Int) ^
 Min.min (Int.toNat (17 : Int)) (IntKind.bits IntKind.u64))))) : Int), IntKind.wrap IntKind.u64 (↑(BitVec.toNat (BitVec.ofInt (IntKind.bits IntKind.u64) (IntKind.wrap IntKind.u64 (↑(BitVec.toNat (BitVec.ofInt (IntKind.bits IntKind.u64)
 (IntKind.wrap IntKind.u64 (↑(BitVec.toNat (BitVec.ofInt (IntKind.bits IntKind.u64) x ^^^ BitVec.ofInt (IntKind.bits IntKind.u64) (IntKind.wrap IntKind.u64 (x * (2 : Int) ^ Min.min (Int.toNat (13 : Int)) (IntKind.bits IntKind.u64))))) :
 Int)) ^^^ BitVec.ofInt (IntKind.bits IntKind.u64) (Int.fdiv (IntKind.wrap IntKind.u64 (↑(BitVec.toNat (BitVec.ofInt (IntKind.bits IntKind.u64) x ^^^ BitVec.ofInt (IntKind.bits IntKind.u64) (IntKind.wrap IntKind.u64 (x * (2 : Int) ^ Min.min
 (Int.toNat (13 : Int)) (IntKind.bits IntKind.u64))))) : Int)) ((2 : Int) ^ Min.min (Int.toNat (7 : Int)) (IntKind.bits IntKind.u64))))) : Int)) ^^^ BitVec.ofInt (IntKind.bits IntKind.u64) (IntKind.wrap IntKind.u64 (IntKind.wrap IntKind.u64
 (↑(BitVec.toNat (BitVec.ofInt (IntKind.bits IntKind.u64) (IntKind.wrap IntKind.u64 (↑(BitVec.toNat (BitVec.ofInt (IntKind.bits IntKind.u64) x ^^^ BitVec.ofInt (IntKind.bits IntKind.u64) (IntKind.wrap IntKind.u64 (x * (2 : Int) ^ Min.min
 (Int.toNat (13 : Int)) (IntKind.bits IntKind.u64))))) : Int)) ^^^ BitVec.ofInt (IntKind.bits IntKind.u64) (Int.fdiv (IntKind.wrap IntKind.u64 (↑(BitVec.toNat (BitVec.ofInt (IntKind.bits IntKind.u64) x ^^^ BitVec.ofInt (IntKind.bits
 IntKind.u64) (IntKind.wrap IntKind.u64 (x * (2 : Int) ^ Min.min (Int.toNat (13 : Int)) (IntKind.bits IntKind.u64))))) : Int)) ((2 : Int) ^ Min.min (Int.toNat (7 : Int)) (IntKind.bits IntKind.u64))))) : Int) * (2 : Int) ^ Min.min (Int.toNat
 (17 : Int)) (IntKind.bits IntKind.u64))))) : Int))
theorem D.f123eq : ∀ x, runFn D.C D.f123Γ D.f123sig D.f123ann Go.Proofs.Try.f123 x = D.f123F x := by
  intro x
  kernel_rfl
noncomputable def D.f123con : Con := ⟨123, D.f123sig, D.f123F⟩
theorem D.f123ok : Con.Ok Go.Proofs.Try.prog D.C D.f123con :=
  runFn_ok (Γ := D.f123Γ) (an := D.f123ann) ⟨D.Cok, mN, D.mixed⟩ Go.Proofs.Try.func123 rfl rfl (fun x y h => (D.f123eq x).trans h) (by decide)
def D.f112sig : Sig := ⟨⟨[.own 0, D.hI, D.hI], [.arr 3 (.int .i64)]⟩, ⟨[], [.arr 3 (.int .i64)]⟩⟩
noncomputable def D.f112Γ : List Con := [D.f122con, D.f123con]
def D.f112ann : Ann := (.seq .leaf (.seq .leaf (.cond (.seq .leaf (.seq .leaf (.seq .leaf (.block (.loop ⟨.normal, [(9, D.hI)], [.arr 3 (.int .i64), .cells [.hole (.int .u64)]]⟩ [⟨(.exit 0), [], [.arr 3 (.int .i64), .gone]⟩] (.seq (.seq
 .leaf (.cond .leaf .leaf)) (.seq (.block (.seq .leaf (.seq (.join [⟨.normal, [(10, D.hI)], [.arr 3 (.int .i64), .cells [.hole (.int .u64)]]⟩] (.seq .leaf (.cond .leaf .leaf))) (.eff 2 [] [0, 0, 0, 0, 0, 24, 0, 0, 0, 384, 960, 1984, 0, 0,
 12288, 28672, 65475, 131011, 262143, 524287])))) .leaf))))))) .leaf)))
noncomputable def D.f112F : Int × Int × List Int → Option (List Int) := fun (x : Int × Int × List Int) => if decide (IntKind.i64.wrap (x.2.1 - x.1) ≥ (8 : Int)) = true then Option.bind (D.f122F (IntKind.i64.wrap (x.2.1 - x.1))) fun v1 =>
 Option.bind (iter (fun (s2 : Int × List Int × Int) => if decide (s2.1 ≤ IntKind.i64.wrap (IntKind.i64.wrap (x.1 + IntKind.i64.wrap (IntKind.i64.wrap (Int.tdiv (IntKind.i64.wrap (x.2.1 - x.1)) (4 : Int)) * (2 : Int))) + (1 : Int))) = true
 then Option.bind (D.f123F s2.2.2) fun v3 => Option.bind (if decide (IntKind.i64.wrap (IntKind.wrap IntKind.u64 (↑(BitVec.toNat (BitVec.ofInt (IntKind.bits IntKind.u64) v3.1 &&& BitVec.ofInt (IntKind.bits IntKind.u64) (IntKind.wrap
 IntKind.u64 (v1 - (1 : Int))))) : Int)) ≥ IntKind.i64.wrap (x.2.1 - x.1)) = true then some (IntKind.i64.wrap (IntKind.i64.wrap (IntKind.wrap IntKind.u64 (↑(BitVec.toNat (BitVec.ofInt (IntKind.bits IntKind.u64) v3.1 &&& BitVec.ofInt
 (IntKind.bits IntKind.u64) (IntKind.wrap IntKind.u64 (v1 - (1 : Int))))) : Int)) - IntKind.i64.wrap (x.2.1 - x.1)), s2.2.1, v3.2) else some (IntKind.i64.wrap (IntKind.wrap IntKind.u64 (↑(BitVec.toNat (BitVec.ofInt (IntKind.bits IntKind.u64)
 v3.1 &&& BitVec.ofInt (IntKind.bits IntKind.u64) (IntKind.wrap IntKind.u64 (v1 - (1 : Int))))) : Int)), s2.2.1, v3.2)) fun (v4 : Int × List Int × Int) => if (0 : Int) ≤ IntKind.i64.wrap (x.1 + v4.1) ∧ IntKind.i64.wrap (x.1 + v4.1) <
 (v4.2.1.length : Int) then if (0 : Int) ≤ s2.1 ∧ s2.1 < (v4.2.1.length : Int) then if (0 : Int) ≤ s2.1 ∧ s2.1 < (v4.2.1.length : Int) then if (0 : Int) ≤ IntKind.i64.wrap (x.1 + v4.1) ∧ IntKind.i64.wrap (x.1 + v4.1) < (↑(List.length
 (List.set v4.2.1 (Int.toNat s2.1) (List.getD v4.2.1 (Int.toNat (IntKind.i64.wrap (x.1 + v4.1))) (0 : Int)))) : Int) then some (Sum.inl (IntKind.i64.wrap (s2.1 + (1 : Int)), List.set (List.set v4.2.1 (Int.toNat s2.1) (List.getD v4.2.1
 (Int.toNat (IntKind.i64.wrap (x.1 + v4.1))) (0 : Int))) (Int.toNat (IntKind.i64.wrap (x.1 + v4.1))) (List.getD v4.2.1 (Int.toNat s2.1) (0 : Int)), v4.2.2)) else none else none else none else none else some (Sum.inr s2.2.1))
 (IntKind.i64.wrap (IntKind.i64.wrap (x.1 + IntKind.i64.wrap (IntKind.i64.wrap (Int.tdiv (IntKind.i64.wrap (x.2.1 - x.1)) (4 : Int)) * (2 : Int))) - (1 : Int)), x.2.2, IntKind.wrap IntKind.u64 (IntKind.i64.wrap (x.2.1 - x.1)))) fun (v2 :
 List Int) => some v2 else some x.2.2
theorem D.f112eq : ∀ x, runFn D.C D.f112Γ D.f112sig D.f112ann Go.Proofs.Try.f112 x = D.f112F x := by
  intro x
  kernel_rfl
noncomputable def D.f112con : Con := ⟨112, D.f112sig, D.f112F⟩
theorem D.f112ok : Con.Ok Go.Proofs.Try.prog D.C D.f112con :=
  runFn_ok (Γ := D.f112Γ) (an := D.f112ann) ⟨D.Cok, (mC D.f122ok (mC D.f123ok mN)), D.mixed⟩ Go.Proofs.Try.func112 rfl rfl (fun x y h => (D.f112eq x).trans h) (by decide)
def D.f126sig : Sig := ⟨⟨[.own 0, D.hI, D.hI, .ptr 1 0], [.arr 3 (.int .i64), .cells [D.hI]]⟩, ⟨[D.hI, D.hI], [.arr 3 (.int .i64), .cells [D.hI]]⟩⟩
noncomputable def D.f126Γ : List Con := [D.f105con]
def D.f126ann : Ann := (.seq .leaf (.seq (.seq .leaf (.cond (.seq .leaf (.seq .leaf .leaf)) .leaf)) (.seq .leaf .leaf)))
noncomputable def D.f126F : Int × Int × List Int × Int → Option (Int × Int × List Int × Int) := fun (x : Int × Int × List Int × Int) => if (0 : Int) ≤ x.2.1 ∧ x.2.1 < (x.2.2.1.length : Int) then if (0 : Int) ≤ x.1 ∧ x.1 < (x.2.2.1.length :
 Int) then Option.bind (D.f105F (List.getD x.2.2.1 (Int.toNat x.2.1) (0 : Int), List.getD x.2.2.1 (Int.toNat x.1) (0 : Int))) fun v1 => if v1 = true then some (x.2.1, x.1, x.2.2.1, IntKind.i64.wrap (x.2.2.2 + (1 : Int))) else some (x.1,
 x.2.1, x.2.2.1, x.2.2.2) else none else none
theorem D.f126eq : ∀ x, runFn D.C D.f126Γ D.f126sig D.f126ann Go.Proofs.Try.f126 x = D.f126F x := by
  intro x
  kernel_rfl
noncomputable def D.f126con : Con := ⟨126, D.f126sig, D.f126F⟩
theorem D.f126ok : Con.Ok Go.Proofs.Try.prog D.C D.f126con :=
  runFn_ok (Γ := D.f126Γ) (an := D.f126ann) ⟨D.Cok, (mC D.f105ok mN), D.mixed⟩ Go.Proofs.Try.func126 rfl rfl (fun x y h => (D.f126eq x).trans h) (by decide)
def D.f125sig : Sig := ⟨⟨[.own 0, D.hI, D.hI, D.hI, .ptr 1 0], [.arr 3 (.int .i64), .cells [D.hI]]⟩, ⟨[D.hI], [.arr 3 (.int .i64), .cells [D.hI]]⟩⟩
noncomputable def D.f125Γ : List Con := [D.f126con]
def D.f125ann : Ann := (.seq .leaf (.seq .leaf (.seq .leaf (.seq .leaf (.seq .leaf .leaf)))))
noncomputable def D.f125F : Int × Int × Int × List Int × Int → Option (Int × List Int × Int) := fun (x : Int × Int × Int × List Int × Int) => Option.bind (D.f126F (x.1, x.2.1, x.2.2.2.1, x.2.2.2.2)) fun v1 => Option.bind (D.f126F (v1.2.1,
 x.2.2.1, v1.2.2.1, v1.2.2.2)) fun v2 => Option.bind (D.f126F (v1.1, v2.1, v2.2.2.1, v2.2.2.2)) fun v3 => some (v3.2.1, v3.2.2.1, v3.2.2.2)
theorem D.f125eq : ∀ x, runFn D.C D.f125Γ D.f125sig D.f125ann Go.Proofs.Try.f125 x = D.f125F x := by
  intro x
  kernel_rfl
noncomputable def D.f125con : Con := ⟨125, D.f125sig, D.f125F⟩
theorem D.f125ok : Con.Ok Go.Proofs.Try.prog D.C D.f125con :=
  runFn_ok (Γ := D.f125Γ) (an := D.f125ann) ⟨D.Cok, (mC D.f126ok mN), D.mixed⟩ Go.Proofs.Try.func125 rfl rfl (fun x y h => (D.f125eq x).trans h) (by decide)
def D.f124sig : Sig := ⟨⟨[.own 0, D.hI, .ptr 1 0], [.arr 3 (.int .i64), .cells [D.hI]]⟩, ⟨[D.hI], [.arr 3 (.int .i64), .cells [D.hI]]⟩⟩
noncomputable def D.f124Γ : List Con := [D.f125con]
def D.f124ann : Ann := (.seq .leaf (.seq .leaf .leaf))
noncomputable def D.f124F : Int × List Int × Int → Option (Int × List Int × Int) := fun (x : Int × List Int × Int) => Option.bind (D.f125F (IntKind.i64.wrap (x.1 - (1 : Int)), x.1, IntKind.i64.wrap (x.1 + (1 : Int)), x.2.1, x.2.2)) fun v1
 => some (v1.1, v1.2.1, v1.2.2)
theorem D.f124eq : ∀ x, runFn D.C D.f124Γ D.f124sig D.f124ann Go.Proofs.Try.f124 x = D.f124F x := by
  intro x
  kernel_rfl
noncomputable def D.f124con : Con := ⟨124, D.f124sig, D.f124F⟩
theorem D.f124ok : Con.Ok Go.Proofs.Try.prog D.C D.f124con :=
  runFn_ok (Γ := D.f124Γ) (an := D.f124ann) ⟨D.Cok, (mC D.f125ok mN), D.mixed⟩ Go.Proofs.Try.func124 rfl rfl (fun x y h => (D.f124eq x).trans h) (by decide)
def D.f113sig : Sig := ⟨⟨[.own 0, D.hI, D.hI], [.arr 3 (.int .i64)]⟩, ⟨[D.hI, D.hI], [.arr 3 (.int .i64)]⟩⟩
noncomputable def D.f113Γ : List Con := [D.f124con, D.f125con]
def D.f113ann : Ann := (.seq .leaf (.seq .leaf (.seq .leaf (.seq .leaf (.seq .leaf (.seq .leaf (.seq (.join [⟨.normal, [(11, D.hI)], [.arr 3 (.int .i64), .cells [D.hI]]⟩] (.seq .leaf (.cond (.seq (.seq .leaf (.cond (.seq .leaf (.seq .leaf
 .leaf)) .leaf)) .leaf) .leaf))) (.seq .leaf (.block (.seq .leaf (.cond (.seq .leaf .leaf) (.seq .leaf (.cond (.seq .leaf .leaf) (.seq .leaf .leaf))))))))))))))
noncomputable def D.f113F : Int × Int × List Int → Option (Int × Int × List Int) := fun (x : Int × Int × List Int) => Option.bind (if decide (IntKind.i64.wrap (x.2.1 - x.1) ≥ (8 : Int)) = true then if decide (IntKind.i64.wrap (x.2.1 - x.1)
 ≥ (50 : Int)) = true then Option.bind (D.f124F (IntKind.i64.wrap (x.1 + IntKind.i64.wrap (IntKind.i64.wrap (Int.tdiv (IntKind.i64.wrap (x.2.1 - x.1)) (4 : Int)) * (1 : Int))), x.2.2, (0 : Int))) fun v1 => Option.bind (D.f124F
 (IntKind.i64.wrap (x.1 + IntKind.i64.wrap (IntKind.i64.wrap (Int.tdiv (IntKind.i64.wrap (x.2.1 - x.1)) (4 : Int)) * (2 : Int))), v1.2.1, v1.2.2)) fun v2 => Option.bind (D.f124F (IntKind.i64.wrap (x.1 + IntKind.i64.wrap (IntKind.i64.wrap
 (Int.tdiv (IntKind.i64.wrap (x.2.1 - x.1)) (4 : Int)) * (3 : Int))), v2.2.1, v2.2.2)) fun v3 => Option.bind (D.f125F (v1.1, v2.1, v3.1, v3.2.1, v3.2.2)) fun v4 => some (v4.1, v4.2.1, v4.2.2) else Option.bind (D.f125F (IntKind.i64.wrap (x.1
 + IntKind.i64.wrap (IntKind.i64.wrap (Int.tdiv (IntKind.i64.wrap (x.2.1 - x.1)) (4 : Int)) * (1 : Int))), IntKind.i64.wrap (x.1 + IntKind.i64.wrap (IntKind.i64.wrap (Int.tdiv (IntKind.i64.wrap (x.2.1 - x.1)) (4 : Int)) * (2 : Int))),
 IntKind.i64.wrap (x.1 + IntKind.i64.wrap (IntKind.i64.wrap (Int.tdiv (IntKind.i64.wrap (x.2.1 - x.1)) (4 : Int)) * (3 : Int))), x.2.2, (0 : Int))) fun v1 => some (v1.1, v1.2.1, v1.2.2) else some (IntKind.i64.wrap (x.1 + IntKind.i64.wrap
 (IntKind.i64.wrap (Int.tdiv (IntKind.i64.wrap (x.2.1 - x.1)) (4 : Int)) * (2 : Int))), x.2.2, (0 : Int))) fun (v1 : Int × List Int × Int) => if (v1.2.2 == (0 : Int)) = true then some (v1.1, (1 : Int), v1.2.1) else if (v1.2.2 == (12 : Int))
 = true then some (v1.1, (2 : Int), v1.2.1) else some (v1.1, (0 : Int), v1.2.1)
theorem D.f113eq : ∀ x, runFn D.C D.f113Γ D.f113sig D.f113ann Go.Proofs.Try.f113 x = D.f113F x := by
  intro x
  kernel_rfl
noncomputable def D.f113con : Con := ⟨113, D.f113sig, D.f113F⟩
theorem D.f113ok : Con.Ok Go.Proofs.Try.prog D.C D.f113con :=
  runFn_ok (Γ := D.f113Γ) (an := D.f113ann) ⟨D.Cok, (mC D.f124ok (mC D.f125ok mN)), D.mixed⟩ Go.Proofs.Try.func113 rfl rfl (fun x y h => (D.f113eq x).trans h) (by decide)
def D.f114sig : Sig := ⟨⟨[.own 0, D.hI, D.hI], [.arr 3 (.int .i64)]⟩, ⟨[], [.arr 3 (.int .i64)]⟩⟩
noncomputable def D.f114Γ : List Con := []
def D.f114ann : Ann := (.seq .leaf (.seq .leaf (.block (.loop ⟨.normal, [(6, D.hI), (7, D.hI)], [.arr 3 (.int .i64)]⟩ [⟨(.exit 0), [], [.arr 3 (.int .i64)]⟩] (.seq (.seq .leaf (.cond .leaf .leaf)) (.block (.seq (.eff 1 [] [0, 0, 0, 0, 0, 0,
 48, 112, 0, 0, 768, 1792, 4083, 8179, 16383, 32767]) (.seq .leaf .leaf))))))))
noncomputable def D.f114F : Int × Int × List Int → Option (List Int) := fun (x : Int × Int × List Int) => Option.bind (iter (fun (s1 : Int × Int × List Int) => if decide (s1.1 < s1.2.1) = true then if (0 : Int) ≤ s1.2.1 ∧ s1.2.1 <
 (s1.2.2.length : Int) then if (0 : Int) ≤ s1.1 ∧ s1.1 < (s1.2.2.length : Int) then if (0 : Int) ≤ s1.1 ∧ s1.1 < (s1.2.2.length : Int) then if (0 : Int) ≤ s1.2.1 ∧ s1.2.1 < (↑(List.length (List.set s1.2.2 (Int.toNat s1.1) (List.getD s1.2.2
 (Int.toNat s1.2.1) (0 : Int)))) : Int) then some (Sum.inl (IntKind.i64.wrap (s1.1 + (1 : Int)), IntKind.i64.wrap (s1.2.1 - (1 : Int)), List.set (List.set s1.2.2 (Int.toNat s1.1) (List.getD s1.2.2 (Int.toNat s1.2.1) (0 : Int))) (Int.toNat
 s1.2.1) (List.getD s1.2.2 (Int.toNat s1.1) (0 : Int)))) else none else none else none else none else some (Sum.inr s1.2.2)) (x.1, IntKind.i64.wrap (x.2.1 - (1 : Int)), x.2.2)) fun (v1 : List Int) => some v1
theorem D.f114eq : ∀ x, runFn D.C D.f114Γ D.f114sig D.f114ann Go.Proofs.Try.f114 x = D.f114F x := by
  intro x
  kernel_rfl
noncomputable def D.f114con : Con := ⟨114, D.f114sig, D.f114F⟩
theorem D.f114ok : Con.Ok Go.Proofs.Try.prog D.C D.f114con :=
  runFn_ok (Γ := D.f114Γ) (an := D.f114ann) ⟨D.Cok, mN, D.mixed⟩ Go.Proofs.Try.func114 rfl rfl (fun x y h => (D.f114eq x).trans h) (by decide)
def D.f115sig : Sig := ⟨⟨[.own 0, D.hI, D.hI], [.arr 3 (.int .i64)]⟩, ⟨[D.hB], [.arr 3 (.int .i64)]⟩⟩
noncomputable def D.f115Γ : List Con := [D.f105con]
def D.f115ann : Ann := (.seq .leaf (.seq .leaf (.seq (.seq .leaf (.block (.loop ⟨.normal, [(7, D.hI), (8, D.hI)], [.arr 3 (.int .i64)]⟩ [⟨(.exit 0), [], [.arr 3 (.int .i64)]⟩, ⟨.ret, [(6, D.hB)], [.arr 3 (.int .i64)]⟩] (.seq (.seq .leaf
 (.cond .leaf .leaf)) (.seq (.block (.seq (.block (.loop ⟨.normal, [(7, D.hI)], [.arr 3 (.int .i64)]⟩ [⟨(.exit 2), [(7, D.hI)], [.arr 3 (.int .i64)]⟩] (.seq (.seq (.join [⟨.normal, [(32, D.hB)], [.arr 3 (.int .i64)]⟩] .leaf) (.cond .leaf
 .leaf)) (.block .leaf)))) (.seq (.seq .leaf (.cond (.seq .leaf .leaf) .leaf)) (.seq (.seq .leaf (.cond (.seq .leaf .leaf) .leaf)) (.seq (.eff 1 [] [0, 0, 0, 0, 8, 0, 0, 64, 224, 480, 0, 0, 3072, 7168, 16355, 32739, 65535, 131071]) (.seq
 (.join [⟨.normal, [], [.arr 3 (.int .i64)]⟩] (.seq .leaf (.cond (.seq .leaf (.block (.loop ⟨.normal, [(9, D.hI)], [.arr 3 (.int .i64)]⟩ [⟨(.exit 4), [], [.arr 3 (.int .i64)]⟩] (.seq (.seq .leaf (.cond .leaf .leaf)) (.seq (.block (.seq (.seq
 .leaf (.cond .leaf .leaf)) (.eff 1 [] [0, 0, 0, 0, 8, 0, 0, 64, 224, 480, 0, 0, 3072, 7168, 16355, 32739, 65535, 131071]))) .leaf))))) .leaf))) (.seq .leaf (.cond (.seq .leaf (.block (.loop ⟨.normal, [(10, D.hI)], [.arr 3 (.int .i64)]⟩
 [⟨(.exit 6), [], [.arr 3 (.int .i64)]⟩] (.seq (.seq .leaf (.cond .leaf .leaf)) (.seq (.block (.seq (.seq .leaf (.cond .leaf .leaf)) (.eff 1 [] [0, 0, 0, 0, 8, 0, 0, 64, 224, 480, 0, 0, 3072, 7168, 16355, 32739, 65535, 131071]))) .leaf)))))
 .leaf)))))))) .leaf))))) (.seq .leaf .leaf))))
noncomputable def D.f115F : Int × Int × List Int → Option (Bool × List Int) := fun (x : Int × Int × List Int) => Option.bind (iter (fun (s1 : Int × Int × List Int) => if decide (s1.2.1 < (5 : Int)) = true then Option.bind (iter (fun (s2 :
 Int × List Int) => Option.bind (if decide (s2.1 < x.2.1) = true then if (0 : Int) ≤ s2.1 ∧ s2.1 < (s2.2.length : Int) then if (0 : Int) ≤ IntKind.i64.wrap (s2.1 - (1 : Int)) ∧ IntKind.i64.wrap (s2.1 - (1 : Int)) < (s2.2.length : Int) then
 Option.bind (D.f105F (List.getD s2.2 (Int.toNat s2.1) (0 : Int), List.getD s2.2 (Int.toNat (IntKind.i64.wrap (s2.1 - (1 : Int)))) (0 : Int))) fun v3 => some (!v3, s2.2) else none else none else some (false, s2.2)) fun (v3 : Bool × List Int)
 => if v3.1 = true then some (Sum.inl (IntKind.i64.wrap (s2.1 + (1 : Int)), v3.2)) else some (Sum.inr (s2.1, v3.2))) (s1.1, s1.2.2)) fun (v2 : Int × List Int) => if (v2.1 == x.2.1) = true then some (Sum.inr (Sum.inr (true, v2.2))) else if
 decide (IntKind.i64.wrap (x.2.1 - x.1) < (50 : Int)) = true then some (Sum.inr (Sum.inr (false, v2.2))) else if (0 : Int) ≤ IntKind.i64.wrap (v2.1 - (1 : Int)) ∧ IntKind.i64.wrap (v2.1 - (1 : Int)) < (v2.2.length : Int) then if (0 : Int) ≤
 v2.1 ∧ v2.1 < (v2.2.length : Int) then if (0 : Int) ≤ v2.1 ∧ v2.1 < (v2.2.length : Int) then if (0 : Int) ≤ IntKind.i64.wrap (v2.1 - (1 : Int)) ∧ IntKind.i64.wrap (v2.1 - (1 : Int)) < (↑(List.length (List.set v2.2 (Int.toNat v2.1)
 (List.getD v2.2 (Int.toNat (IntKind.i64.wrap (v2.1 - (1 : Int)))) (0 : Int)))) : Int) then Option.bind (if decide (IntKind.i64.wrap (v2.1 - x.1) ≥ (2 : Int)) = true then Option.bind (iter (fun (s3 : Int × List Int) => if decide (s3.1 ≥ (1 :
 Int)) = true then if (0 : Int) ≤ s3.1 ∧ s3.1 < (s3.2.length : Int) then if (0 : Int) ≤ IntKind.i64.wrap (s3.1 - (1 : Int)) ∧ IntKind.i64.wrap (s3.1 - (1 : Int)) < (s3.2.length : Int) then Option.bind (D.f105F (List.getD s3.2 (Int.toNat
 s3.1) (0 : Int), List.getD s3.2 (Int.toNat (IntKind.i64.wrap (s3.1 - (1 : Int)))) (0 : Int))) fun v4 => if (!v4) = true then some (Sum.inr s3.2) else if (0 : Int) ≤ IntKind.i64.wrap (s3.1 - (1 : Int)) ∧ IntKind.i64.wrap (s3.1 - (1 : Int)) <
 (s3.2.length : Int) then if (0 : Int) ≤ s3.1 ∧ s3.1 < (s3.2.length : Int) then if (0 : Int) ≤ s3.1 ∧ s3.1 < (s3.2.length : Int) then if (0 : Int) ≤ IntKind.i64.wrap (s3.1 - (1 : Int)) ∧ IntKind.i64.wrap (s3.1 - (1 : Int)) < (↑(List.length
 (List.set s3.2 (Int.toNat s3.1) (List.getD s3.2 (Int.toNat (IntKind.i64.wrap (s3.1 - (1 : Int)))) (0 : Int)))) : Int) then some (Sum.inl (IntKind.i64.wrap (s3.1 - (1 : Int)), List.set (List.set s3.2 (Int.toNat s3.1) (List.getD s3.2
 (Int.toNat (IntKind.i64.wrap (s3.1 - (1 : Int)))) (0 : Int))) (Int.toNat (IntKind.i64.wrap (s3.1 - (1 : Int)))) (List.getD s3.2 (Int.toNat s3.1) (0 : Int)))) else none else none else none else none else none else none else some (Sum.inr
 s3.2)) (IntKind.i64.wrap (v2.1 - (1 : Int)), List.set (List.set v2.2 (Int.toNat v2.1) (List.getD v2.2 (Int.toNat (IntKind.i64.wrap (v2.1 - (1 : Int)))) (0 : Int))) (Int.toNat (IntKind.i64.wrap (v2.1 - (1 : Int)))) (List.getD v2.2 (Int.toNat
 v2.1) (0 : Int)))) fun (v3 : List Int) => some v3 else some (List.set (List.set v2.2 (Int.toNat v2.1) (List.getD v2.2 (Int.toNat (IntKind.i64.wrap (v2.1 - (1 : Int)))) (0 : Int))) (Int.toNat (IntKind.i64.wrap (v2.1 - (1 : Int)))) (List.getD
 v2.2 (Int.toNat v2.1) (0 : Int)))) fun (v3 : List Int) => if decide (IntKind.i64.wrap (x.2.1 - v2.1) ≥ (2 : Int)) = true then Option.bind (iter (fun (s4 : Int × List Int) => if decide (s4.1 < x.2.1) = true then if (0 : Int) ≤ s4.1 ∧ s4.1 <
 (s4.2.length : Int) then if (0 : Int) ≤ IntKind.i64.wrap (s4.1 - (1 : Int)) ∧ IntKind.i64.wrap (s4.1 - (1 : Int)) < (s4.2.length : Int) then Option.bind (D.f105F (List.getD s4.2 (Int.toNat s4.1) (0 : Int), List.getD s4.2 (Int.toNat
 (IntKind.i64.wrap (s4.1 - (1 : Int)))) (0 : Int))) fun v5 => if (!v5) = true then some (Sum.inr s4.2) else if (0 : Int) ≤ IntKind.i64.wrap (s4.1 - (1 : Int)) ∧ IntKind.i64.wrap (s4.1 - (1 : Int)) < (s4.2.length : Int) then if (0 : Int) ≤
 s4.1 ∧ s4.1 < (s4.2.length : Int) then if (0 : Int) ≤ s4.1 ∧ s4.1 < (s4.2.length : Int) then if (0 : Int) ≤ IntKind.i64.wrap (s4.1 - (1 : Int)) ∧ IntKind.i64.wrap (s4.1 - (1 : Int)) < (↑(List.length (List.set s4.2 (Int.toNat s4.1)
 (List.getD s4.2 (Int.toNat (IntKind.i64.wrap (s4.1 - (1 : Int)))) (0 : Int)))) : Int) then some (Sum.inl (IntKind.i64.wrap (s4.1 + (1 : Int)), List.set (List.set s4.2 (Int.toNat s4.1) (List.getD s4.2 (Int.toNat (IntKind.i64.wrap (s4.1 - (1
 : Int)))) (0 : Int))) (Int.toNat (IntKind.i64.wrap (s4.1 - (1 : Int)))) (List.getD s4.2 (Int.toNat s4.1) (0 : Int)))) else none else none else none else none else none else none else some (Sum.inr s4.2)) (IntKind.i64.wrap (v2.1 + (1 :
 Int)), v3)) fun (v4 : List Int) => some (Sum.inl (v2.1, IntKind.i64.wrap (s1.2.1 + (1 : Int)), v4)) else some (Sum.inl (v2.1, IntKind.i64.wrap (s1.2.1 + (1 : Int)), v3)) else none else none else none else none else some (Sum.inr (Sum.inl
 s1.2.2))) (IntKind.i64.wrap (x.1 + (1 : Int)), (0 : Int), x.2.2)) fun (v1 : List Int ⊕ Bool × List Int) => Sum.elim (fun (p2 : List Int) => some (false, p2)) (fun (q2 : Bool × List Int) => some (q2.1, q2.2)) v1
theorem D.f115eq : ∀ x, runFn D.C D.f115Γ D.f115sig D.f115ann Go.Proofs.Try.f115 x = D.f115F x := by
  intro x
  kernel_rfl
noncomputable def D.f115con : Con := ⟨115, D.f115sig, D.f115F⟩
theorem D.f115ok : Con.Ok Go.Proofs.Try.prog D.C D.f115con :=
  runFn_ok (Γ := D.f115Γ) (an := D.f115ann) ⟨D.Cok, (mC D.f105ok mN), D.mixed⟩ Go.Proofs.Try.func115 rfl rfl (fun x y h => (D.f115eq x).trans h) (by decide)
def D.f116sig : Sig := ⟨⟨[.own 0, D.hI, D.hI, D.hI], [.arr 3 (.int .i64)]⟩, ⟨[D.hI], [.arr 3 (.int .i64)]⟩⟩
noncomputable def D.f116Γ : List Con := [D.f105con]
def D.f116ann : Ann := (.seq .leaf (.seq (.eff 1 [] [0, 0, 0, 0, 0, 0, 48, 112, 0, 0, 768, 1792, 4083, 8179, 16383, 32767]) (.seq .leaf (.seq (.block (.loop ⟨.normal, [(9, D.hI), (10, D.hI)], [.arr 3 (.int .i64)]⟩ [⟨(.exit 0), [(9, D.hI)],
 [.arr 3 (.int .i64)]⟩] (.block (.seq (.block (.loop ⟨.normal, [(9, D.hI)], [.arr 3 (.int .i64)]⟩ [⟨(.exit 2), [(9, D.hI)], [.arr 3 (.int .i64)]⟩] (.seq (.seq (.join [⟨.normal, [(43, D.hB)], [.arr 3 (.int .i64)]⟩] .leaf) (.cond .leaf .leaf))
 (.block .leaf)))) (.seq (.block (.loop ⟨.normal, [(10, D.hI)], [.arr 3 (.int .i64)]⟩ [⟨(.exit 4), [(10, D.hI)], [.arr 3 (.int .i64)]⟩] (.seq (.seq (.join [⟨.normal, [(59, D.hB)], [.arr 3 (.int .i64)]⟩] .leaf) (.cond .leaf .leaf)) (.block
 .leaf)))) (.seq (.seq .leaf (.cond .leaf .leaf)) (.seq (.eff 1 [] [0, 0, 0, 0, 0, 0, 48, 112, 0, 0, 768, 1792, 4083, 8179, 16383, 32767]) (.seq .leaf .leaf)))))))) (.seq .leaf .leaf)))))
noncomputable def D.f116F : Int × Int × Int × List Int → Option (Int × List Int) := fun (x : Int × Int × Int × List Int) => if (0 : Int) ≤ x.2.2.1 ∧ x.2.2.1 < (x.2.2.2.length : Int) then if (0 : Int) ≤ x.1 ∧ x.1 < (x.2.2.2.length : Int)
 then if (0 : Int) ≤ x.1 ∧ x.1 < (x.2.2.2.length : Int) then if (0 : Int) ≤ x.2.2.1 ∧ x.2.2.1 < (↑(List.length (List.set x.2.2.2 (Int.toNat x.1) (List.getD x.2.2.2 (Int.toNat x.2.2.1) (0 : Int)))) : Int) then Option.bind (iter (fun (s1 : Int
 × Int × List Int) => Option.bind (iter (fun (s2 : Int × List Int) => Option.bind (if decide (s2.1 ≤ s1.2.1) = true then if (0 : Int) ≤ x.1 ∧ x.1 < (s2.2.length : Int) then if (0 : Int) ≤ s2.1 ∧ s2.1 < (s2.2.length : Int) then Option.bind
 (D.f105F (List.getD s2.2 (Int.toNat x.1) (0 : Int), List.getD s2.2 (Int.toNat s2.1) (0 : Int))) fun v3 => some (!v3, s2.2) else none else none else some (false, s2.2)) fun (v3 : Bool × List Int) => if v3.1 = true then some (Sum.inl
 (IntKind.i64.wrap (s2.1 + (1 : Int)), v3.2)) else some (Sum.inr (s2.1, v3.2))) (s1.1, s1.2.2)) fun (v2 : Int × List Int) => Option.bind (iter (fun (s3 : Int × List Int) => Option.bind (if decide (v2.1 ≤ s3.1) = true then if (0 : Int) ≤ x.1
 ∧ x.1 < (s3.2.length : Int) then if (0 : Int) ≤ s3.1 ∧ s3.1 < (s3.2.length : Int) then Option.bind (D.f105F (List.getD s3.2 (Int.toNat x.1) (0 : Int), List.getD s3.2 (Int.toNat s3.1) (0 : Int))) fun v4 => some (v4, s3.2) else none else none
 else some (false, s3.2)) fun (v4 : Bool × List Int) => if v4.1 = true then some (Sum.inl (IntKind.i64.wrap (s3.1 - (1 : Int)), v4.2)) else some (Sum.inr (s3.1, v4.2))) (s1.2.1, v2.2)) fun (v3 : Int × List Int) => if decide (v2.1 > v3.1) =
 true then some (Sum.inr (v2.1, v3.2)) else if (0 : Int) ≤ v3.1 ∧ v3.1 < (v3.2.length : Int) then if (0 : Int) ≤ v2.1 ∧ v2.1 < (v3.2.length : Int) then if (0 : Int) ≤ v2.1 ∧ v2.1 < (v3.2.length : Int) then if (0 : Int) ≤ v3.1 ∧ v3.1 <
 (↑(List.length (List.set v3.2 (Int.toNat v2.1) (List.getD v3.2 (Int.toNat v3.1) (0 : Int)))) : Int) then some (Sum.inl (IntKind.i64.wrap (v2.1 + (1 : Int)), IntKind.i64.wrap (v3.1 - (1 : Int)), List.set (List.set v3.2 (Int.toNat v2.1)
 (List.getD v3.2 (Int.toNat v3.1) (0 : Int))) (Int.toNat v3.1) (List.getD v3.2 (Int.toNat v2.1) (0 : Int)))) else none else none else none else none) (IntKind.i64.wrap (x.1 + (1 : Int)), IntKind.i64.wrap (x.2.1 - (1 : Int)), List.set
 (List.set x.2.2.2 (Int.toNat x.1) (List.getD x.2.2.2 (Int.toNat x.2.2.1) (0 : Int))) (Int.toNat x.2.2.1) (List.getD x.2.2.2 (Int.toNat x.1) (0 : Int)))) fun (v1 : Int × List Int) => some (v1.1, v1.2) else none else none else none else none
theorem D.f116eq : ∀ x, runFn D.C D.f116Γ D.f116sig D.f116ann Go.Proofs.Try.f116 x = D.f116F x := by
  intro x
  kernel_rfl
noncomputable def D.f116con : Con := ⟨116, D.f116sig, D.f116F⟩
theorem D.f116ok : Con.Ok Go.Proofs.Try.prog D.C D.f116con :=
  runFn_ok (Γ := D.f116Γ) (an := D.f116ann) ⟨D.Cok, (mC D.f105ok mN), D.mixed⟩ Go.Proofs.Try.func116 rfl rfl (fun x y h => (D.f116eq x).trans h) (by decide)
def D.f117sig : Sig := ⟨⟨[.own 0, D.hI, D.hI, D.hI], [.arr 3 (.int .i64)]⟩, ⟨[D.hI, D.hB], [.arr 3 (.int .i64)]⟩⟩
noncomputable def D.f117Γ : List Con := [D.f105con]
def D.f117ann : Ann := (.seq .leaf (.seq (.eff 1 [] [0, 0, 0, 0, 0, 0, 48, 112, 0, 0, 768, 1792, 4083, 8179, 16383, 32767]) (.seq .leaf (.seq (.block (.loop ⟨.normal, [(10, D.hI)], [.arr 3 (.int .i64)]⟩ [⟨(.exit 0), [(10, D.hI)], [.arr 3
 (.int .i64)]⟩] (.seq (.seq (.join [⟨.normal, [(43, D.hB)], [.arr 3 (.int .i64)]⟩] .leaf) (.cond .leaf .leaf)) (.block .leaf)))) (.seq (.block (.loop ⟨.normal, [(11, D.hI)], [.arr 3 (.int .i64)]⟩ [⟨(.exit 2), [(11, D.hI)], [.arr 3 (.int
 .i64)]⟩] (.seq (.seq (.join [⟨.normal, [(60, D.hB)], [.arr 3 (.int .i64)]⟩] .leaf) (.cond .leaf .leaf)) (.block .leaf)))) (.seq (.seq .leaf (.cond (.seq (.eff 1 [] [0, 0, 0, 0, 0, 0, 48, 112, 0, 0, 768, 1792, 4083, 8179, 16383, 32767])
 (.seq .leaf .leaf)) .leaf)) (.seq (.eff 1 [] [0, 0, 0, 0, 0, 0, 48, 112, 0, 0, 768, 1792, 4083, 8179, 16383, 32767]) (.seq .leaf (.seq .leaf (.seq (.block (.loop ⟨.normal, [(10, D.hI), (11, D.hI)], [.arr 3 (.int .i64)]⟩ [⟨(.exit 4), [(11,
 D.hI)], [.arr 3 (.int .i64)]⟩] (.block (.seq (.block (.loop ⟨.normal, [(10, D.hI)], [.arr 3 (.int .i64)]⟩ [⟨(.exit 6), [(10, D.hI)], [.arr 3 (.int .i64)]⟩] (.seq (.seq (.join [⟨.normal, [(112, D.hB)], [.arr 3 (.int .i64)]⟩] .leaf) (.cond
 .leaf .leaf)) (.block .leaf)))) (.seq (.block (.loop ⟨.normal, [(11, D.hI)], [.arr 3 (.int .i64)]⟩ [⟨(.exit 8), [(11, D.hI)], [.arr 3 (.int .i64)]⟩] (.seq (.seq (.join [⟨.normal, [(129, D.hB)], [.arr 3 (.int .i64)]⟩] .leaf) (.cond .leaf
 .leaf)) (.block .leaf)))) (.seq (.seq .leaf (.cond .leaf .leaf)) (.seq (.eff 1 [] [0, 0, 0, 0, 0, 0, 48, 112, 0, 0, 768, 1792, 4083, 8179, 16383, 32767]) (.seq .leaf .leaf)))))))) (.seq (.eff 1 [] [0, 0, 0, 0, 0, 0, 48, 112, 0, 0, 768,
 1792, 4083, 8179, 16383, 32767]) (.seq .leaf .leaf))))))))))))
noncomputable def D.f117F : Int × Int × Int × List Int → Option (Int × Bool × List Int) := fun (x : Int × Int × Int × List Int) => if (0 : Int) ≤ x.2.2.1 ∧ x.2.2.1 < (x.2.2.2.length : Int) then if (0 : Int) ≤ x.1 ∧ x.1 < (x.2.2.2.length :
 Int) then if (0 : Int) ≤ x.1 ∧ x.1 < (x.2.2.2.length : Int) then if (0 : Int) ≤ x.2.2.1 ∧ x.2.2.1 < (↑(List.length (List.set x.2.2.2 (Int.toNat x.1) (List.getD x.2.2.2 (Int.toNat x.2.2.1) (0 : Int)))) : Int) then Option.bind (iter (fun (s1
 : Int × List Int) => Option.bind (if decide (s1.1 ≤ IntKind.i64.wrap (x.2.1 - (1 : Int))) = true then if (0 : Int) ≤ s1.1 ∧ s1.1 < (s1.2.length : Int) then if (0 : Int) ≤ x.1 ∧ x.1 < (s1.2.length : Int) then Option.bind (D.f105F (List.getD
 s1.2 (Int.toNat s1.1) (0 : Int), List.getD s1.2 (Int.toNat x.1) (0 : Int))) fun v2 => some (v2, s1.2) else none else none else some (false, s1.2)) fun (v2 : Bool × List Int) => if v2.1 = true then some (Sum.inl (IntKind.i64.wrap (s1.1 + (1
 : Int)), v2.2)) else some (Sum.inr (s1.1, v2.2))) (IntKind.i64.wrap (x.1 + (1 : Int)), List.set (List.set x.2.2.2 (Int.toNat x.1) (List.getD x.2.2.2 (Int.toNat x.2.2.1) (0 : Int))) (Int.toNat x.2.2.1) (List.getD x.2.2.2 (Int.toNat x.1) (0 :
 Int)))) fun (v1 : Int × List Int) => Option.bind (iter (fun (s2 : Int × List Int) => Option.bind (if decide (v1.1 ≤ s2.1) = true then if (0 : Int) ≤ s2.1 ∧ s2.1 < (s2.2.length : Int) then if (0 : Int) ≤ x.1 ∧ x.1 < (s2.2.length : Int) then
 Option.bind (D.f105F (List.getD s2.2 (Int.toNat s2.1) (0 : Int), List.getD s2.2 (Int.toNat x.1) (0 : Int))) fun v3 => some (!v3, s2.2) else none else none else some (false, s2.2)) fun (v3 : Bool × List Int) => if v3.1 = true then some
 (Sum.inl (IntKind.i64.wrap (s2.1 - (1 : Int)), v3.2)) else some (Sum.inr (s2.1, v3.2))) (IntKind.i64.wrap (x.2.1 - (1 : Int)), v1.2)) fun (v2 : Int × List Int) => if decide (v1.1 > v2.1) = true then if (0 : Int) ≤ x.1 ∧ x.1 < (v2.2.length :
 Int) then if (0 : Int) ≤ v2.1 ∧ v2.1 < (v2.2.length : Int) then if (0 : Int) ≤ v2.1 ∧ v2.1 < (v2.2.length : Int) then if (0 : Int) ≤ x.1 ∧ x.1 < (↑(List.length (List.set v2.2 (Int.toNat v2.1) (List.getD v2.2 (Int.toNat x.1) (0 : Int)))) :
 Int) then some (v2.1, true, List.set (List.set v2.2 (Int.toNat v2.1) (List.getD v2.2 (Int.toNat x.1) (0 : Int))) (Int.toNat x.1) (List.getD v2.2 (Int.toNat v2.1) (0 : Int))) else none else none else none else none else if (0 : Int) ≤ v2.1 ∧
 v2.1 < (v2.2.length : Int) then if (0 : Int) ≤ v1.1 ∧ v1.1 < (v2.2.length : Int) then if (0 : Int) ≤ v1.1 ∧ v1.1 < (v2.2.length : Int) then if (0 : Int) ≤ v2.1 ∧ v2.1 < (↑(List.length (List.set v2.2 (Int.toNat v1.1) (List.getD v2.2
 (Int.toNat v2.1) (0 : Int)))) : Int) then Option.bind (iter (fun (s3 : Int × Int × List Int) => Option.bind (iter (fun (s4 : Int × List Int) => Option.bind (if decide (s4.1 ≤ s3.2.1) = true then if (0 : Int) ≤ s4.1 ∧ s4.1 < (s4.2.length :
 Int) then if (0 : Int) ≤ x.1 ∧ x.1 < (s4.2.length : Int) then Option.bind (D.f105F (List.getD s4.2 (Int.toNat s4.1) (0 : Int), List.getD s4.2 (Int.toNat x.1) (0 : Int))) fun v5 => some (v5, s4.2) else none else none else some (false, s4.2))
 fun (v5 : Bool × List Int) => if v5.1 = true then some (Sum.inl (IntKind.i64.wrap (s4.1 + (1 : Int)), v5.2)) else some (Sum.inr (s4.1, v5.2))) (s3.1, s3.2.2)) fun (v4 : Int × List Int) => Option.bind (iter (fun (s5 : Int × List Int) =>
 Option.bind (if decide (v4.1 ≤ s5.1) = true then if (0 : Int) ≤ s5.1 ∧ s5.1 < (s5.2.length : Int) then if (0 : Int) ≤ x.1 ∧ x.1 < (s5.2.length : Int) then Option.bind (D.f105F (List.getD s5.2 (Int.toNat s5.1) (0 : Int), List.getD s5.2
 (Int.toNat x.1) (0 : Int))) fun v6 => some (!v6, s5.2) else none else none else some (false, s5.2)) fun (v6 : Bool × List Int) => if v6.1 = true then some (Sum.inl (IntKind.i64.wrap (s5.1 - (1 : Int)), v6.2)) else some (Sum.inr (s5.1,
 v6.2))) (s3.2.1, v4.2)) fun (v5 : Int × List Int) => if decide (v4.1 > v5.1) = true then some (Sum.inr (v5.1, v5.2)) else if (0 : Int) ≤ v5.1 ∧ v5.1 < (v5.2.length : Int) then if (0 : Int) ≤ v4.1 ∧ v4.1 < (v5.2.length : Int) then if (0 :
 Int) ≤ v4.1 ∧ v4.1 < (v5.2.length : Int) then if (0 : Int) ≤ v5.1 ∧ v5.1 < (↑(List.length (List.set v5.2 (Int.toNat v4.1) (List.getD v5.2 (Int.toNat v5.1) (0 : Int)))) : Int) then some (Sum.inl (IntKind.i64.wrap (v4.1 + (1 : Int)),
 IntKind.i64.wrap (v5.1 - (1 : Int)), List.set (List.set v5.2 (Int.toNat v4.1) (List.getD v5.2 (Int.toNat v5.1) (0 : Int))) (Int.toNat v5.1) (List.getD v5.2 (Int.toNat v4.1) (0 : Int)))) else none else none else none else none)
 (IntKind.i64.wrap (v1.1 + (1 : Int)), IntKind.i64.wrap (v2.1 - (1 : Int)), List.set (List.set v2.2 (Int.toNat v1.1) (List.getD v2.2 (Int.toNat v2.1) (0 : Int))) (Int.toNat v2.1) (List.getD v2.2 (Int.toNat v1.1) (0 : Int)))) fun (v3 : Int ×
 List Int) => if (0 : Int) ≤ x.1 ∧ x.1 < (v3.2.length : Int) then if (0 : Int) ≤ v3.1 ∧ v3.1 < (v3.2.length : Int) then if (0 : Int) ≤ v3.1 ∧ v3.1 < (v3.2.length : Int) then if (0 : Int) ≤ x.1 ∧ x.1 < (↑(List.length (List.set v3.2 (Int.toNat
 v3.1) (List.getD v3.2 (Int.toNat x.1) (0 : Int)))) : Int) then some (v3.1, false, List.set (List.set v3.2 (Int.toNat v3.1) (List.getD v3.2 (Int.toNat x.1) (0 : Int))) (Int.toNat x.1) (List.getD v3.2 (Int.toNat v3.1) (0 : Int))) else none
 else none else none else none else none else none else none else none else none else none else none else none
theorem D.f117eq : ∀ x, runFn D.C D.f117Γ D.f117sig D.f117ann Go.Proofs.Try.f117 x = D.f117F x := by
  intro x
  kernel_rfl
noncomputable def D.f117con : Con := ⟨117, D.f117sig, D.f117F⟩
theorem D.f117ok : Con.Ok Go.Proofs.Try.prog D.C D.f117con :=
  runFn_ok (Γ := D.f117Γ) (an := D.f117ann) ⟨D.Cok, (mC D.f105ok mN), D.mixed⟩ Go.Proofs.Try.func117 rfl rfl (fun x y h => (D.f117eq x).trans h) (by decide)
def D.f100sig : Sig := ⟨⟨[.own 0, D.hI, D.hI, D.hI], [.arr 3 (.int .i64)]⟩, ⟨[], [.arr 3 (.int .i64)]⟩⟩
noncomputable def D.f100Γ (r100 : Int × Int × Int × List Int → Option (List Int)) : List Con := [D.f110con, D.f111con, D.f112con, D.f113con, D.f114con, D.f115con, D.f105con, D.f116con, D.f117con, ⟨100, D.f100sig, r100⟩]
def D.f100ann : Ann := (.seq .leaf (.seq .leaf (.block (.loop ⟨.normal, [(3, D.hI), (1, D.hI), (9, D.hB), (8, D.hB), (2, D.hI)], [.arr 3 (.int .i64)]⟩ [⟨.ret, [], [.arr 3 (.int .i64)]⟩] (.block (.seq .leaf (.seq (.seq .leaf (.cond (.seq
 .leaf .leaf) .leaf)) (.seq (.seq .leaf (.cond (.seq .leaf .leaf) .leaf)) (.seq (.join [⟨.normal, [(3, D.hI)], [.arr 3 (.int .i64)]⟩] (.seq .leaf (.cond (.seq .leaf .leaf) .leaf))) (.seq .leaf (.seq (.join [⟨.normal, [(11, D.hI), (12,
 D.hI)], [.arr 3 (.int .i64)]⟩] (.seq .leaf (.cond (.seq .leaf (.seq .leaf .leaf)) .leaf))) (.seq (.join [⟨.ret, [], [.arr 3 (.int .i64)]⟩, ⟨.normal, [], [.arr 3 (.int .i64)]⟩] (.seq (.join [⟨.normal, [(68, D.hB)], [.arr 3 (.int .i64)]⟩]
 .leaf) (.cond (.seq .leaf (.cond .leaf .leaf)) .leaf))) (.seq (.seq (.join [⟨.normal, [(87, D.hB)], [.arr 3 (.int .i64)]⟩] .leaf) (.cond (.seq .leaf (.seq .leaf .leaf)) .leaf)) (.seq .leaf (.seq .leaf (.seq .leaf (.seq .leaf (.seq .leaf
 (.cond (.seq .leaf (.seq .leaf .leaf)) (.seq .leaf (.seq .leaf .leaf)))))))))))))))))))))
noncomputable def D.f100S (r100 : Int × Int × Int × List Int → Option (List Int)) : Int × Int × Int × List Int → Option (List Int) := fun (x : Int × Int × Int × List Int) => Option.bind (iter (fun (s1 : Int × Int × Bool × Bool × Int × List
 Int) => if decide (IntKind.i64.wrap (s1.2.2.2.2.1 - s1.2.1) ≤ (12 : Int)) = true then Option.bind (D.f110F (s1.2.1, s1.2.2.2.2.1, s1.2.2.2.2.2)) fun v2 => some (Sum.inr v2) else if (s1.1 == (0 : Int)) = true then Option.bind (D.f111F
 (s1.2.1, s1.2.2.2.2.1, s1.2.2.2.2.2)) fun v2 => some (Sum.inr v2) else Option.bind (if (!s1.2.2.2.1) = true then Option.bind (D.f112F (s1.2.1, s1.2.2.2.2.1, s1.2.2.2.2.2)) fun v2 => some (IntKind.i64.wrap (s1.1 - (1 : Int)), v2) else some
 (s1.1, s1.2.2.2.2.2)) fun (v2 : Int × List Int) => Option.bind (D.f113F (s1.2.1, s1.2.2.2.2.1, v2.2)) fun v3 => Option.bind (if (v3.2.1 == (2 : Int)) = true then Option.bind (D.f114F (s1.2.1, s1.2.2.2.2.1, v3.2.2)) fun v4 => some
 (IntKind.i64.wrap (IntKind.i64.wrap (s1.2.2.2.2.1 - (1 : Int)) - IntKind.i64.wrap (v3.1 - s1.2.1)), (1 : Int), v4) else some (v3.1, v3.2.1, v3.2.2)) fun (v4 : Int × Int × List Int) => Option.bind (Option.bind (if s1.2.2.2.1 = true then if
 s1.2.2.1 = true then some (v4.2.1 == (1 : Int), v4.2.2) else some (false, v4.2.2) else some (false, v4.2.2)) fun (v5 : Bool × List Int) => if v5.1 = true then Option.bind (D.f115F (s1.2.1, s1.2.2.2.2.1, v5.2)) fun v6 => if v6.1 = true then
 some (Sum.inl v6.2) else some (Sum.inr v6.2) else some (Sum.inr v5.2)) fun (v5 : List Int ⊕ List Int) => Sum.elim (fun (p6 : List Int) => some (Sum.inr p6)) (fun (q6 : List Int) => Option.bind (if decide (s1.2.1 > (0 : Int)) = true then if
 (0 : Int) ≤ IntKind.i64.wrap (s1.2.1 - (1 : Int)) ∧ IntKind.i64.wrap (s1.2.1 - (1 : Int)) < (q6.length : Int) then if (0 : Int) ≤ v4.1 ∧ v4.1 < (q6.length : Int) then Option.bind (D.f105F (List.getD q6 (Int.toNat (IntKind.i64.wrap (s1.2.1 -
 (1 : Int)))) (0 : Int), List.getD q6 (Int.toNat v4.1) (0 : Int))) fun v7 => some (!v7, q6) else none else none else some (false, q6)) fun (v7 : Bool × List Int) => if v7.1 = true then Option.bind (D.f116F (s1.2.1, s1.2.2.2.2.1, v4.1, v7.2))
 fun v8 => some (Sum.inl (v2.1, v8.1, s1.2.2.1, s1.2.2.2.1, s1.2.2.2.2.1, v8.2)) else Option.bind (D.f117F (s1.2.1, s1.2.2.2.2.1, v4.1, v7.2)) fun v8 => if decide (IntKind.i64.wrap (v8.1 - s1.2.1) < IntKind.i64.wrap (s1.2.2.2.2.1 - v8.1)) =
 true then Option.bind (r100 (s1.2.1, v8.1, v2.1, v8.2.2)) fun (v9 : List Int) => some (Sum.inl (v2.1, IntKind.i64.wrap (v8.1 + (1 : Int)), v8.2.1, decide (IntKind.i64.wrap (v8.1 - s1.2.1) ≥ IntKind.i64.wrap (Int.tdiv (IntKind.i64.wrap
 (s1.2.2.2.2.1 - s1.2.1)) (8 : Int))), s1.2.2.2.2.1, v9)) else Option.bind (r100 (IntKind.i64.wrap (v8.1 + (1 : Int)), s1.2.2.2.2.1, v2.1, v8.2.2)) fun (v9 : List Int) => some (Sum.inl (v2.1, s1.2.1, v8.2.1, decide (IntKind.i64.wrap
 (s1.2.2.2.2.1 - v8.1) ≥ IntKind.i64.wrap (Int.tdiv (IntKind.i64.wrap (s1.2.2.2.2.1 - s1.2.1)) (8 : Int))), v8.1, v9))) v5) (x.2.2.1, x.1, true, true, x.2.1, x.2.2.2)) fun (v1 : List Int) => some v1
theorem D.f100eq (r100 : Int × Int × Int × List Int → Option (List Int)) : ∀ x, runFn D.C (D.f100Γ r100) D.f100sig D.f100ann Go.Proofs.Try.f100 x = D.f100S r100 x := by
  intro x
  kernel_rfl
noncomputable def D.f100N : Nat → (Int × Int × Int × List Int → Option (List Int))
  | 0 => fun _ => none
  | n + 1 => D.f100S ((D.f100N n))
noncomputable def D.f100F : Int × Int × Int × List Int → Option (List Int) := (D.f100N D.fuel)
noncomputable def D.f100con : Con := ⟨100, D.f100sig, D.f100F⟩
theorem D.f100Nok : ∀ n, Con.Ok Go.Proofs.Try.prog D.C ⟨100, D.f100sig, (D.f100N n)⟩
  | 0 => runFn_ok (Γ := []) (an := .leaf) ⟨D.Cok, mN, D.mixed⟩ Go.Proofs.Try.func100 rfl rfl (fun x y h => nomatch h) (by decide)
  | n + 1 => have h := D.f100Nok n
    runFn_ok (Γ := D.f100Γ ((D.f100N n))) (an := D.f100ann) ⟨D.Cok, (mC D.f110ok (mC D.f111ok (mC D.f112ok (mC D.f113ok (mC D.f114ok (mC D.f115ok (mC D.f105ok (mC D.f116ok (mC D.f117ok (mC h mN)))))))))), D.mixed⟩ Go.Proofs.Try.func100 rfl rfl (fun x y h => (D.f100eq _ x).trans h) (by decide)
theorem D.f100ok : Con.Ok Go.Proofs.Try.prog D.C D.f100con := (D.f100Nok D.fuel)
def D.f74sig : Sig := ⟨⟨[.own 0], [.arr 3 (.int .i64)]⟩, ⟨[], [.arr 3 (.int .i64)]⟩⟩
noncomputable def D.f74Γ : List Con := [D.f101con, D.f100con]
def D.f74ann : Ann := (.seq .leaf .leaf)
noncomputable def D.f74F : List Int → Option (List Int) := fun (x : List Int) => Option.bind (D.f101F (IntKind.wrap IntKind.u64 (x.length : Int))) fun v1 => Option.bind (D.f100F ((0 : Int), (x.length : Int), v1, x)) fun v2 => some v2
theorem D.f74eq : ∀ x, runFn D.C D.f74Γ D.f74sig D.f74ann Go.Proofs.Try.f74 x = D.f74F x := by
  intro x
  kernel_rfl
noncomputable def D.f74con : Con := ⟨74, D.f74sig, D.f74F⟩
theorem D.f74ok : Con.Ok Go.Proofs.Try.prog D.C D.f74con :=
  runFn_ok (Γ := D.f74Γ) (an := D.f74ann) ⟨D.Cok, (mC D.f101ok (mC D.f100ok mN)), D.mixed⟩ Go.Proofs.Try.func74 rfl rfl (fun x y h => (D.f74eq x).trans h) (by decide)
def D.s16sig : Sig := ⟨⟨[D.hP, D.hL, D.hI], []⟩, ⟨[.own 0], [.arr 3 (.int .i64)]⟩⟩
noncomputable def D.s16Γ : List Con := [D.f73con, D.f74con, D.f75con]
def D.s16ann : Ann := (.seq .leaf (.seq .leaf (.seq (.seq .leaf (.block (.loop ⟨.normal, [(7, .own 0), (12, D.hI)], [.arr 3 (.int .i64)]⟩ [⟨(.exit 0), [(7, .own 0)], [.arr 3 (.int .i64)]⟩] (.seq .leaf (.seq (.cond .leaf .leaf) (.seq (.block
 (.seq .leaf (.seq (.join [⟨.normal, [(40, D.hB)], [.arr 3 (.int .i64)]⟩] .leaf) (.cond .leaf .leaf)))) .leaf)))))) (.seq .leaf (.seq .leaf .leaf)))))
noncomputable def D.s16F : List (Int × List (Int × Int) × Int × Int) × List Int × Int → Option (List Int) := fun (x : List (Int × List (Int × Int) × Int × Int) × List Int × Int) => Option.bind (iter (fun (s1 : Int × List Int) => if decide
 (s1.1 < (x.2.1.length : Int)) = true then if (0 : Int) ≤ s1.1 ∧ s1.1 < (x.2.1.length : Int) then Option.bind (if decide (List.getD x.2.1 (Int.toNat s1.1) (0 : Int) ≥ (0 : Int)) = true then if decide (List.getD x.2.1 (Int.toNat s1.1) (0 :
 Int) < (x.1.length : Int)) = true then if (0 : Int) ≤ List.getD x.2.1 (Int.toNat s1.1) (0 : Int) ∧ List.getD x.2.1 (Int.toNat s1.1) (0 : Int) < (x.1.length : Int) then if ((List.getD x.1 (Int.toNat (List.getD x.2.1 (Int.toNat s1.1) (0 :
 Int))) ((0 : Int), [], (0 : Int), (0 : Int))).1 == (1 : Int)) = true then if (0 : Int) ≤ List.getD x.2.1 (Int.toNat s1.1) (0 : Int) ∧ List.getD x.2.1 (Int.toNat s1.1) (0 : Int) < (x.1.length : Int) then Option.bind (D.f73F ((List.getD x.1
 (Int.toNat (List.getD x.2.1 (Int.toNat s1.1) (0 : Int))) ((0 : Int), [], (0 : Int), (0 : Int))).2.1, x.2.2)) fun v2 => some (v2, s1.2) else none else some (false, s1.2) else none else some (false, s1.2) else some (false, s1.2)) fun (v2 :
 Bool × List Int) => if v2.1 = true then if roomOk (List.length v2.2 + (1 : Nat)) (8 : Nat) then some (Sum.inl (IntKind.i64.wrap (s1.1 + (1 : Int)), v2.2 ++ [IntKind.i64.wrap (List.getD x.2.1 (Int.toNat s1.1) (0 : Int) + (1 : Int))])) else
 none else some (Sum.inl (IntKind.i64.wrap (s1.1 + (1 : Int)), v2.2)) else none else some (Sum.inr s1.2)) ((0 : Int), [])) fun (v1 : List Int) => Option.bind (D.f74F v1) fun v2 => Option.bind (D.f75F v2) fun v3 => some v3
theorem D.s16eq : ∀ x, runFn D.C D.s16Γ D.s16sig D.s16ann Go.Proofs.Try.f46 x = D.s16F x := by
  intro x
  kernel_rfl
noncomputable def D.s16con : Con := ⟨46, D.s16sig, D.s16F⟩
theorem D.s16ok : Con.Ok Go.Proofs.Try.prog D.C D.s16con :=
  runFn_ok (Γ := D.s16Γ) (an := D.s16ann) ⟨D.Cok, (mC D.f73ok (mC D.f74ok (mC D.f75ok mN))), D.mixed⟩ Go.Proofs.Try.func46 rfl rfl (fun x y h => (D.s16eq x).trans h) (by decide)
def D.f19sig : Sig := ⟨⟨[D.hP, D.hL, D.hI], []⟩, ⟨[.own 0], [.arr 3 (.int .i64)]⟩⟩
noncomputable def D.f19Γ : List Con := [D.f42con, D.s16con]
def D.f19ann : Ann := (.seq .leaf (.seq (.seq .leaf (.cond (.seq .leaf .leaf) .leaf)) (.seq .leaf .leaf)))
noncomputable def D.f19F : List (Int × List (Int × Int) × Int × Int) × List Int × Int → Option (List Int) := fun (x : List (Int × List (Int × Int) × Int × Int) × List Int × Int) => Option.bind (D.f42F x.1) fun v1 => if (!v1) = true then
 some [] else Option.bind (D.s16F (x.1, x.2.1, x.2.2)) fun v2 => some v2
theorem D.f19eq : ∀ x, runFn D.C D.f19Γ D.f19sig D.f19ann Go.Proofs.Try.f19 x = D.f19F x := by
  intro x
  kernel_rfl
noncomputable def D.f19con : Con := ⟨19, D.f19sig, D.f19F⟩
theorem D.f19ok : Con.Ok Go.Proofs.Try.prog D.C D.f19con :=
  runFn_ok (Γ := D.f19Γ) (an := D.f19ann) ⟨D.Cok, (mC D.f42ok (mC D.s16ok mN)), D.mixed⟩ Go.Proofs.Try.func19 rfl rfl (fun x y h => (D.f19eq x).trans h) (by decide)
def D.f87sig : Sig := ⟨⟨[.ro (.st (.st (.pair (.sl D.tI) (.pair (.int .i64) (.pair (.sl D.tS) (.int .i64)))))), .hole D.tS, D.hI], []⟩, ⟨[.own 0], [.arr 3 (.int .i64)]⟩⟩
noncomputable def D.f87Γ : List Con := [D.f83con, D.f19con]
def D.f87ann : Ann := (.seq .leaf (.seq (.eff 3 [] [0, 1, 3, 7, 15, 0, 0, 96, 0, 511, 1023]) .leaf))
noncomputable def D.f87F : (List (Int × List (Int × Int) × Int × Int) × Int × List (List Int × Bool × List (Int × Int)) × Int) × (List Int × Bool × List (Int × Int)) × Int → Option (List Int) := fun (x : (List (Int × List (Int × Int) × Int
 × Int) × Int × List (List Int × Bool × List (Int × Int)) × Int) × (List Int × Bool × List (Int × Int)) × Int) => Option.bind (D.f83F (x.1, (x.2.1.1, x.2.1.2.1, x.2.1.2.2), false)) fun v1 => Option.bind (D.f19F (x.1.1, v1, x.2.2)) fun v2 =>
 some v2
theorem D.f87eq : ∀ x, runFn D.C D.f87Γ D.f87sig D.f87ann Go.Proofs.Try.f87 x = D.f87F x := by
  intro x
  kernel_rfl
noncomputable def D.f87con : Con := ⟨87, D.f87sig, D.f87F⟩
theorem D.f87ok : Con.Ok Go.Proofs.Try.prog D.C D.f87con :=
  runFn_ok (Γ := D.f87Γ) (an := D.f87ann) ⟨D.Cok, (mC D.f83ok (mC D.f19ok mN)), D.mixed⟩ Go.Proofs.Try.func87 rfl rfl (fun x y h => (D.f87eq x).trans h) (by decide)
def D.f88sig : Sig := ⟨⟨[.ro (.st (.st (.pair (.sl D.tI) (.pair (.int .i64) (.pair (.sl D.tS) (.int .i64)))))), .hole D.tS, .hole D.tP], []⟩, ⟨[D.hB], []⟩⟩
noncomputable def D.f88Γ : List Con := [D.f87con, D.f82con]
def D.f88ann : Ann := (.seq .leaf (.seq .leaf (.seq (.seq .leaf (.cond (.seq .leaf .leaf) .leaf)) (.seq .leaf .leaf))))
noncomputable def D.f88F : (List (Int × List (Int × Int) × Int × Int) × Int × List (List Int × Bool × List (Int × Int)) × Int) × (List Int × Bool × List (Int × Int)) × Int × Int → Option (Bool) := fun (x : (List (Int × List (Int × Int) ×
 Int × Int) × Int × List (List Int × Bool × List (Int × Int)) × Int) × (List Int × Bool × List (Int × Int)) × Int × Int) => Option.bind (D.f87F (x.1, (x.2.1.1, x.2.1.2.1, x.2.1.2.2), x.2.2.1)) fun v1 => if ((v1.length : Int) == (0 : Int)) =
 true then some (x.2.2.2 == (-1 : Int)) else if (x.2.2.2 != (-1 : Int)) = true then Option.bind (D.f82F (x.1, v1, false)) fun v2 => some (x.2.2.2 == v2) else some false
theorem D.f88eq : ∀ x, runFn D.C D.f88Γ D.f88sig D.f88ann Go.Proofs.Try.f88 x = D.f88F x := by
  intro x
  kernel_rfl
noncomputable def D.f88con : Con := ⟨88, D.f88sig, D.f88F⟩
theorem D.f88ok : Con.Ok Go.Proofs.Try.prog D.C D.f88con :=
  runFn_ok (Γ := D.f88Γ) (an := D.f88ann) ⟨D.Cok, (mC D.f87ok (mC D.f82ok mN)), D.mixed⟩ Go.Proofs.Try.func88 rfl rfl (fun x y h => (D.f88eq x).trans h) (by decide)
def D.f56sig : Sig := ⟨⟨[.ro (.st (.st (.pair (.sl D.tI) (.pair (.int .i64) (.pair (.sl D.tS) (.int .i64)))))), D.hI], []⟩, ⟨[D.hB], []⟩⟩
noncomputable def D.f56Γ : List Con := [D.f57con, D.f82con, D.f88con]
def D.f56ann : Ann := (.seq .leaf (.seq .leaf (.seq (.seq (.join [⟨.normal, [(36, D.hB)], [.cells [D.hL, D.hB, .hole (.sl D.tP)]]⟩] .leaf) (.cond (.seq .leaf .leaf) .leaf)) (.seq .leaf (.seq (.seq .leaf (.block (.loop ⟨.normal, [(41,
 D.hI)], [.cells [D.hL, D.hB, .hole (.sl D.tP)], .map (.int .i64) .bool]⟩ [⟨(.exit 0), [], [.gone, .gone]⟩, ⟨.ret, [(4, D.hB)], [.gone, .gone]⟩] (.seq .leaf (.seq (.cond .leaf .leaf) (.seq (.block (.seq .leaf (.seq (.seq (.join [⟨.normal,
 [(55, D.hB)], [.cells [D.hL, D.hB, .hole (.sl D.tP)], .map (.int .i64) .bool, .cells [D.hI, D.hI]]⟩] .leaf) (.cond (.seq .leaf .leaf) .leaf)) .leaf))) .leaf)))))) (.seq .leaf .leaf))))))
noncomputable def D.f56F : (List (Int × List (Int × Int) × Int × Int) × Int × List (List Int × Bool × List (Int × Int)) × Int) × Int → Option (Bool) := fun (x : (List (Int × List (Int × Int) × Int × Int) × Int × List (List Int × Bool × List
 (Int × Int)) × Int) × Int) => if (0 : Int) ≤ x.2 ∧ x.2 < (x.1.2.2.1.length : Int) then Option.bind (Option.bind (D.f57F ((List.getD x.1.2.2.1 (Int.toNat x.2) ([], false, [])).1, (x.1.1.length : Int))) fun v1 => if (!v1) = true then some
 (true, (List.getD x.1.2.2.1 (Int.toNat x.2) ([], false, [])).1, (List.getD x.1.2.2.1 (Int.toNat x.2) ([], false, [])).2.1, (List.getD x.1.2.2.1 (Int.toNat x.2) ([], false, [])).2.2) else Option.bind (D.f82F (x.1, (List.getD x.1.2.2.1
 (Int.toNat x.2) ([], false, [])).1, (List.getD x.1.2.2.1 (Int.toNat x.2) ([], false, [])).2.1)) fun v2 => some (v2 != x.2, (List.getD x.1.2.2.1 (Int.toNat x.2) ([], false, [])).1, (List.getD x.1.2.2.1 (Int.toNat x.2) ([], false, [])).2.1,
 (List.getD x.1.2.2.1 (Int.toNat x.2) ([], false, [])).2.2)) fun (v1 : Bool × List Int × Bool × List (Int × Int)) => if v1.1 = true then some false else Option.bind (iter (fun (s2 : Int × List Int × Bool × List (Int × Int) × List (Int ×
 Bool)) => if decide (s2.1 < (v1.2.2.2.length : Int)) = true then if (0 : Int) ≤ s2.1 ∧ s2.1 < (v1.2.2.2.length : Int) then Option.bind (if Option.getD (mgetX (Ty.int IntKind.i64) Ty.bool s2.2.2.2.2 (List.getD v1.2.2.2 (Int.toNat s2.1) ((0 :
 Int), (0 : Int))).1) false = true then some (true, s2.2.1, s2.2.2.1, s2.2.2.2.1, s2.2.2.2.2, (List.getD v1.2.2.2 (Int.toNat s2.1) ((0 : Int), (0 : Int))).1, (List.getD v1.2.2.2 (Int.toNat s2.1) ((0 : Int), (0 : Int))).2) else Option.bind
 (D.f88F (x.1, (s2.2.1, s2.2.2.1, s2.2.2.2.1), (List.getD v1.2.2.2 (Int.toNat s2.1) ((0 : Int), (0 : Int))).1, (List.getD v1.2.2.2 (Int.toNat s2.1) ((0 : Int), (0 : Int))).2)) fun v3 => some (!v3, s2.2.1, s2.2.2.1, s2.2.2.2.1, s2.2.2.2.2,
 (List.getD v1.2.2.2 (Int.toNat s2.1) ((0 : Int), (0 : Int))).1, (List.getD v1.2.2.2 (Int.toNat s2.1) ((0 : Int), (0 : Int))).2)) fun (v3 : Bool × List Int × Bool × List (Int × Int) × List (Int × Bool) × Int × Int) => if v3.1 = true then
 some (Sum.inr (Sum.inr false)) else some (Sum.inl (IntKind.i64.wrap (s2.1 + (1 : Int)), v3.2.1, v3.2.2.1, v3.2.2.2.1, mputX (Ty.int IntKind.i64) Ty.bool v3.2.2.2.2.1 v3.2.2.2.2.2.1 true)) else none else some (Sum.inr (Sum.inl ()))) ((0 :
 Int), v1.2.1, v1.2.2.1, v1.2.2.2, [])) fun v2 => Sum.elim (fun (p3 : PUnit) => some true) (fun (q3 : Bool) => some q3) v2 else none
theorem D.f56eq : ∀ x, runFn D.C D.f56Γ D.f56sig D.f56ann Go.Proofs.Try.f56 x = D.f56F x := by
  intro x
  kernel_rfl
noncomputable def D.f56con : Con := ⟨56, D.f56sig, D.f56F⟩
theorem D.f56ok : Con.Ok Go.Proofs.Try.prog D.C D.f56con :=
  runFn_ok (Γ := D.f56Γ) (an := D.f56ann) ⟨D.Cok, (mC D.f57ok (mC D.f82ok (mC D.f88ok mN))), D.mixed⟩ Go.Proofs.Try.func56 rfl rfl (fun x y h => (D.f56eq x).trans h) (by decide)
def D.f30sig : Sig := ⟨⟨[.hole (.st (.pair (.sl D.tI) (.pair (.int .i64) (.pair (.sl D.tS) (.int .i64)))))], []⟩, ⟨[D.hB], []⟩⟩
noncomputable def D.f30Γ : List Con := [D.f42con, D.f56con]
def D.f30ann : Ann := (.seq .leaf (.seq (.seq (.join [⟨.normal, [(31, D.hB)], [.cells [D.hP, D.hI, .hole (.sl D.tS), D.hI]]⟩] .leaf) (.cond (.seq .leaf .leaf) .leaf)) (.seq .leaf (.seq (.seq .leaf (.block (.loop ⟨.normal, [(38, D.hI)],
 [.gone, .cells [D.hP, D.hI, .hole (.sl D.tS), D.hI]]⟩ [⟨(.exit 0), [], [.gone, .gone]⟩, ⟨.ret, [(2, D.hB)], [.gone, .gone]⟩] (.seq .leaf (.seq (.cond .leaf .leaf) (.seq (.block (.seq .leaf (.seq .leaf (.cond (.seq .leaf .leaf) .leaf))))
 .leaf)))))) (.seq .leaf .leaf)))))
noncomputable def D.f30F : List (Int × List (Int × Int) × Int × Int) × Int × List (List Int × Bool × List (Int × Int)) × Int → Option (Bool) := fun (x : List (Int × List (Int × Int) × Int × Int) × Int × List (List Int × Bool × List (Int ×
 Int)) × Int) => Option.bind (Option.bind (D.f42F x.1) fun v1 => if (!v1) = true then some (true, x.1, x.2.1, x.2.2.1, x.2.2.2) else if decide (x.2.1 < (2 : Int)) = true then some (true, x.1, x.2.1, x.2.2.1, x.2.2.2) else if decide (x.2.1 >
 (1000 : Int)) = true then some (true, x.1, x.2.1, x.2.2.1, x.2.2.2) else if decide (x.2.2.2 < (0 : Int)) = true then some (true, x.1, x.2.1, x.2.2.1, x.2.2.2) else some (decide ((x.2.2.1.length : Int) > x.2.1), x.1, x.2.1, x.2.2.1,
 x.2.2.2)) fun (v1 : Bool × List (Int × List (Int × Int) × Int × Int) × Int × List (List Int × Bool × List (Int × Int)) × Int) => if v1.1 = true then some false else Option.bind (iter (fun (s2 : Int × List (Int × List (Int × Int) × Int ×
 Int) × Int × List (List Int × Bool × List (Int × Int)) × Int) => if decide (s2.1 < (v1.2.2.2.1.length : Int)) = true then Option.bind (D.f56F ((s2.2.1, s2.2.2.1, s2.2.2.2.1, s2.2.2.2.2), s2.1)) fun v3 => if (!v3) = true then some (Sum.inr
 (Sum.inr false)) else some (Sum.inl (IntKind.i64.wrap (s2.1 + (1 : Int)), s2.2.1, s2.2.2.1, s2.2.2.2.1, s2.2.2.2.2)) else some (Sum.inr (Sum.inl ()))) ((0 : Int), v1.2.1, v1.2.2.1, v1.2.2.2.1, v1.2.2.2.2)) fun v2 => Sum.elim (fun (p3 :
 PUnit) => some true) (fun (q3 : Bool) => some q3) v2
theorem D.f30eq : ∀ x, runFn D.C D.f30Γ D.f30sig D.f30ann Go.Proofs.Try.f30 x = D.f30F x := by
  intro x
  kernel_rfl
noncomputable def D.f30con : Con := ⟨30, D.f30sig, D.f30F⟩
theorem D.f30ok : Con.Ok Go.Proofs.Try.prog D.C D.f30con :=
  runFn_ok (Γ := D.f30Γ) (an := D.f30ann) ⟨D.Cok, (mC D.f42ok (mC D.f56ok mN)), D.mixed⟩ Go.Proofs.Try.func30 rfl rfl (fun x y h => (D.f30eq x).trans h) (by decide)
def D.f79sig : Sig := ⟨⟨[.hole (.sl D.tS)], []⟩, ⟨[.own 0], [.arr 85 D.tO]⟩⟩
noncomputable def D.f79Γ : List Con := []
def D.f79ann : Ann := (.seq .leaf (.seq (.seq .leaf (.cond (.seq .leaf .leaf) .leaf)) (.seq .leaf .leaf)))
noncomputable def D.f79F : List (List Int × Bool × List (Int × Int)) → Option (List (List Int × Bool × Bool × List (Int × Int))) := fun (x : List (List Int × Bool × List (Int × Int))) => if Nat.beq (List.length x) (0 : Nat) = true then
 agree (some []) (if roomOk ((0 : Nat) + List.length (List.map (Ty.lift (Ty.st (Ty.pair (Ty.sl (Ty.int IntKind.i64)) (Ty.pair Ty.bool (Ty.osl (Ty.st (Ty.pair (Ty.int IntKind.i64) (Ty.int IntKind.i64)))))))) x)) (56 : Nat) then some ([] ++
 List.map (Ty.lift (Ty.st (Ty.pair (Ty.sl (Ty.int IntKind.i64)) (Ty.pair Ty.bool (Ty.osl (Ty.st (Ty.pair (Ty.int IntKind.i64) (Ty.int IntKind.i64)))))))) x) else none) else if roomOk ((0 : Nat) + List.length (List.map (Ty.lift (Ty.st
 (Ty.pair (Ty.sl (Ty.int IntKind.i64)) (Ty.pair Ty.bool (Ty.osl (Ty.st (Ty.pair (Ty.int IntKind.i64) (Ty.int IntKind.i64)))))))) x)) (56 : Nat) then some ([] ++ List.map (Ty.lift (Ty.st (Ty.pair (Ty.sl (Ty.int IntKind.i64)) (Ty.pair Ty.bool
 (Ty.osl (Ty.st (Ty.pair (Ty.int IntKind.i64) (Ty.int IntKind.i64)))))))) x) else none
theorem D.f79eq : ∀ x, runFn D.C D.f79Γ D.f79sig D.f79ann Go.Proofs.Try.f79 x = D.f79F x := by
  intro x
  kernel_rfl
noncomputable def D.f79con : Con := ⟨79, D.f79sig, D.f79F⟩
theorem D.f79ok : Con.Ok Go.Proofs.Try.prog D.C D.f79con :=
  runFn_ok (Γ := D.f79Γ) (an := D.f79ann) ⟨D.Cok, mN, D.mixed⟩ Go.Proofs.Try.func79 rfl rfl (fun x y h => (D.f79eq x).trans h) (by decide)
def D.f81sig : Sig := ⟨⟨[.hole (.sl D.tP)], []⟩, ⟨[.own 0], [.arr 87 D.tP]⟩⟩
noncomputable def D.f81Γ : List Con := []
def D.f81ann : Ann := (.seq .leaf (.seq (.seq .leaf (.cond (.seq .leaf .leaf) .leaf)) (.seq .leaf .leaf)))
noncomputable def D.f81F : List (Int × Int) → Option (List (Int × Int)) := fun (x : List (Int × Int)) => if Nat.beq (List.length x) (0 : Nat) = true then agree (some []) (if roomOk ((0 : Nat) + List.length x) (16 : Nat) then some ([] ++ x)
 else none) else if roomOk ((0 : Nat) + List.length x) (16 : Nat) then some ([] ++ x) else none
theorem D.f81eq : ∀ x, runFn D.C D.f81Γ D.f81sig D.f81ann Go.Proofs.Try.f81 x = D.f81F x := by
  intro x
  kernel_rfl
noncomputable def D.f81con : Con := ⟨81, D.f81sig, D.f81F⟩
theorem D.f81ok : Con.Ok Go.Proofs.Try.prog D.C D.f81con :=
  runFn_ok (Γ := D.f81Γ) (an := D.f81ann) ⟨D.Cok, mN, D.mixed⟩ Go.Proofs.Try.func81 rfl rfl (fun x y h => (D.f81eq x).trans h) (by decide)
def D.f52sig : Sig := ⟨⟨[.hole (.st (.pair (.sl D.tI) (.pair (.int .i64) (.pair (.sl D.tS) (.int .i64)))))], []⟩, ⟨[.ptr 0 0], [.cells [D.hP, D.hI, .own 1, D.hI], .arr 85 D.tO]⟩⟩
noncomputable def D.f52Γ : List Con := [D.f79con, D.f80con, D.f81con]
def D.f52ann : Ann := (.seq .leaf (.seq .leaf (.seq (.seq .leaf (.block (.loop ⟨.normal, [(12, D.hI)], [.cells [D.hP, D.hI, .own 1, D.hI], .arr 85 D.tO]⟩ [⟨(.exit 0), [], [.cells [D.hP, D.hI, .own 1, D.hI], .arr 85 D.tO]⟩] (.seq .leaf (.seq
 (.cond .leaf .leaf) (.seq (.block (.seq .leaf (.eff 5 [] [0, 1, 0, 0, 8, 0, 0, 64, 192, 0, 512, 1984, 4039, 8135, 16327, 32767, 65535, 131071]))) .leaf)))))) (.seq .leaf .leaf))))
noncomputable def D.f52F : List (Int × List (Int × Int) × Int × Int) × Int × List (List Int × Bool × List (Int × Int)) × Int → Option (List (Int × List (Int × Int) × Int × Int) × Int × Int × List (List Int × Bool × Bool × List (Int × Int)))
 := fun (x : List (Int × List (Int × Int) × Int × Int) × Int × List (List Int × Bool × List (Int × Int)) × Int) => Option.bind (D.f79F x.2.2.1) fun v1 => Option.bind (iter (fun (s2 : Int × List (Int × List (Int × Int) × Int × Int) × Int ×
 Int × List (List Int × Bool × Bool × List (Int × Int))) => if decide (s2.1 < (v1.length : Int)) = true then if (0 : Int) ≤ s2.1 ∧ s2.1 < (s2.2.2.2.2.length : Int) then Option.bind (D.f80F (List.getD s2.2.2.2.2 (Int.toNat s2.1) ([], false,
 false, [])).1) fun v3 => Option.bind (D.f81F (List.getD s2.2.2.2.2 (Int.toNat s2.1) ([], false, false, [])).2.2.2) fun v4 => if (0 : Int) ≤ s2.1 ∧ s2.1 < (↑(List.length (List.map (Ty.weak (Ty.st (Ty.pair (Ty.sl (Ty.int IntKind.i64))
 (Ty.pair Ty.bool (Ty.osl (Ty.st (Ty.pair (Ty.int IntKind.i64) (Ty.int IntKind.i64)))))))) s2.2.2.2.2)) : Int) then if (0 : Int) ≤ s2.1 ∧ s2.1 < (↑(List.length (List.map (Ty.weak (Ty.st (Ty.pair (Ty.sl (Ty.int IntKind.i64)) (Ty.pair Ty.bool
 (Ty.osl (Ty.st (Ty.pair (Ty.int IntKind.i64) (Ty.int IntKind.i64)))))))) (List.set s2.2.2.2.2 (Int.toNat s2.1) (v3, (List.getD s2.2.2.2.2 (Int.toNat s2.1) ([], false, false, [])).2)))) : Int) then some (Sum.inl (IntKind.i64.wrap (s2.1 + (1
 : Int)), s2.2.1, s2.2.2.1, s2.2.2.2.1, List.set (List.set s2.2.2.2.2 (Int.toNat s2.1) (v3, (List.getD s2.2.2.2.2 (Int.toNat s2.1) ([], false, false, [])).2)) (Int.toNat s2.1) ((List.getD (List.set s2.2.2.2.2 (Int.toNat s2.1) (v3, (List.getD
 s2.2.2.2.2 (Int.toNat s2.1) ([], false, false, [])).2)) (Int.toNat s2.1) ([], false, false, [])).1, (List.getD (List.set s2.2.2.2.2 (Int.toNat s2.1) (v3, (List.getD s2.2.2.2.2 (Int.toNat s2.1) ([], false, false, [])).2)) (Int.toNat s2.1)
 ([], false, false, [])).2.1, true, v4))) else none else none else none else some (Sum.inr (s2.2.1, s2.2.2.1, s2.2.2.2.1, s2.2.2.2.2))) ((0 : Int), x.1, x.2.1, x.2.2.2, v1)) fun (v2 : List (Int × List (Int × Int) × Int × Int) × Int × Int ×
 List (List Int × Bool × Bool × List (Int × Int))) => some (v2.1, v2.2.1, v2.2.2.1, v2.2.2.2)
theorem D.f52eq : ∀ x, runFn D.C D.f52Γ D.f52sig D.f52ann Go.Proofs.Try.f52 x = D.f52F x := by
  intro x
  kernel_rfl
noncomputable def D.f52con : Con := ⟨52, D.f52sig, D.f52F⟩
theorem D.f52ok : Con.Ok Go.Proofs.Try.prog D.C D.f52con :=
  runFn_ok (Γ := D.f52Γ) (an := D.f52ann) ⟨D.Cok, (mC D.f79ok (mC D.f80ok (mC D.f81ok mN))), D.mixed⟩ Go.Proofs.Try.func52 rfl rfl (fun x y h => (D.f52eq x).trans h) (by decide)
def D.f53sig : Sig := ⟨⟨[.ptr 0 0, D.hL, D.hB], [.cells [D.hP, D.hI, .own 1, D.hI], .arr 85 D.tO]⟩, ⟨[D.hI, D.hB], [.cells [D.hP, D.hI, .own 2, D.hI], .gone, .arr 85 D.tO]⟩⟩
noncomputable def D.f53Γ : List Con := [D.f82con, D.f80con]
def D.f53ann : Ann := (.seq .leaf (.seq (.seq .leaf (.seq .leaf (.cond (.seq .leaf .leaf) .leaf))) (.seq (.join [⟨.normal, [(7, D.hB)], [.cells [D.hP, D.hI, .own 2, D.hI], .gone, .arr 85 D.tO]⟩] (.seq .leaf (.seq .leaf (.cond (.seq .leaf
 (.seq .leaf .leaf)) .leaf)))) (.seq (.eff 6 [] [0, 0, 2, 6, 14, 30, 0, 64, 0, 448, 960, 2046, 4095, 8191, 16383, 32767]) (.seq .leaf .leaf)))))
noncomputable def D.f53F : List Int × Bool × List (Int × List (Int × Int) × Int × Int) × Int × Int × List (List Int × Bool × Bool × List (Int × Int)) → Option (Int × Bool × List (Int × List (Int × Int) × Int × Int) × Int × Int × List (List
 Int × Bool × Bool × List (Int × Int))) := fun (x : List Int × Bool × List (Int × List (Int × Int) × Int × Int) × Int × Int × List (List Int × Bool × Bool × List (Int × Int))) => Option.bind (D.f82F ((x.2.2.1, x.2.2.2.1, List.map (Ty.erD
 (Ty.st (Ty.pair (Ty.sl (Ty.int IntKind.i64)) (Ty.pair Ty.bool (Ty.osl (Ty.st (Ty.pair (Ty.int IntKind.i64) (Ty.int IntKind.i64)))))))) x.2.2.2.2.2, x.2.2.2.2.1), x.1, x.2.1)) fun v1 => if (v1 != (-1 : Int)) = true then some (v1, false,
 x.2.2.1, x.2.2.2.1, x.2.2.2.2.1, x.2.2.2.2.2) else Option.bind (if ((x.2.2.2.2.2.length : Int) == x.2.2.2.1) = true then if (0 : Int) ≤ (0 : Int) ∧ (0 : Int) ≤ (↑(List.length (List.replicate (List.length x.2.2.2.2.2) ([], false, false, [])
 ++ List.drop (List.length x.2.2.2.2.2) x.2.2.2.2.2)) : Int) then some ((x.2.2.2.2.2.length : Int) == x.2.2.2.1, x.2.2.1, x.2.2.2.1, IntKind.i64.wrap (x.2.2.2.2.1 + (1 : Int)), List.take (Int.toNat (0 : Int)) (List.replicate (List.length
 x.2.2.2.2.2) ([], false, false, []) ++ List.drop (List.length x.2.2.2.2.2) x.2.2.2.2.2)) else none else some ((x.2.2.2.2.2.length : Int) == x.2.2.2.1, x.2.2.1, x.2.2.2.1, x.2.2.2.2.1, x.2.2.2.2.2)) fun (v2 : Bool × List (Int × List (Int ×
 Int) × Int × Int) × Int × Int × List (List Int × Bool × Bool × List (Int × Int))) => Option.bind (D.f80F x.1) fun v3 => if roomOk (List.length v2.2.2.2.2 + (1 : Nat)) (56 : Nat) then some (IntKind.i64.wrap ((↑(List.length (v2.2.2.2.2 ++
 [(v3, x.2.1, true, [])])) : Int) - (1 : Int)), v2.1, v2.2.1, v2.2.2.1, v2.2.2.2.1, v2.2.2.2.2 ++ [(v3, x.2.1, true, [])]) else none
theorem D.f53eq : ∀ x, runFn D.C D.f53Γ D.f53sig D.f53ann Go.Proofs.Try.f53 x = D.f53F x := by
  intro x
  kernel_rfl
noncomputable def D.f53con : Con := ⟨53, D.f53sig, D.f53F⟩
theorem D.f53ok : Con.Ok Go.Proofs.Try.prog D.C D.f53con :=
  runFn_ok (Γ := D.f53Γ) (an := D.f53ann) ⟨D.Cok, (mC D.f82ok (mC D.f80ok mN)), D.mixed⟩ Go.Proofs.Try.func53 rfl rfl (fun x y h => (D.f53eq x).trans h) (by decide)
def D.f84sig : Sig := ⟨⟨[D.hI, .ptr 0 0], [.cells [.ptr 1 0], .cells [D.hP, D.hI, .own 2, D.hI], .arr 85 D.tO]⟩, ⟨[D.hB], [.cells [.ptr 1 0], .cells [D.hP, D.hI, .own 2, D.hI], .arr 85 D.tO]⟩⟩
noncomputable def D.f84Γ : List Con := []
def D.f84ann : Ann := (.seq .leaf (.seq .leaf .leaf))
noncomputable def D.f84F : Int × List (Int × List (Int × Int) × Int × Int) × Int × Int × List (List Int × Bool × Bool × List (Int × Int)) → Option (Bool × List (Int × List (Int × Int) × Int × Int) × Int × Int × List (List Int × Bool × Bool
 × List (Int × Int))) := fun (x : Int × List (Int × List (Int × Int) × Int × Int) × Int × Int × List (List Int × Bool × Bool × List (Int × Int))) => if (0 : Int) ≤ x.1 ∧ x.1 < (x.2.1.length : Int) then some ((List.getD x.2.1 (Int.toNat x.1)
 ((0 : Int), [], (0 : Int), (0 : Int))).1 == (0 : Int), x.2.1, x.2.2.1, x.2.2.2.1, x.2.2.2.2) else none
theorem D.f84eq : ∀ x, runFn D.C D.f84Γ D.f84sig D.f84ann Go.Proofs.Try.f84 x = D.f84F x := by
  intro x
  kernel_rfl
noncomputable def D.f84con : Con := ⟨84, D.f84sig, D.f84F⟩
theorem D.f84ok : Con.Ok Go.Proofs.Try.prog D.C D.f84con :=
  runFn_ok (Γ := D.f84Γ) (an := D.f84ann) ⟨D.Cok, mN, D.mixed⟩ Go.Proofs.Try.func84 rfl rfl (fun x y h => (D.f84eq x).trans h) (by decide)
def D.s13sig : Sig := ⟨⟨[D.hL, .fnc 84 1, .ptr 0 0], [.cells [.ptr 1 0], .cells [D.hP, D.hI, .own 2, D.hI], .arr 85 D.tO]⟩, ⟨[D.hI], [.cells [.ptr 1 0], .cells [D.hP, D.hI, .own 2, D.hI], .arr 85 D.tO]⟩⟩
noncomputable def D.s13Γ : List Con := [D.f84con]
def D.s13ann : Ann := (.seq .leaf (.seq (.seq .leaf (.block (.loop ⟨.normal, [(8, D.hI)], [.cells [.ptr 1 0], .cells [D.hP, D.hI, .own 2, D.hI], .arr 85 D.tO]⟩ [⟨(.exit 0), [], [.cells [.ptr 1 0], .cells [D.hP, D.hI, .own 2, D.hI], .arr 85
 D.tO]⟩, ⟨.ret, [(4, D.hI)], [.cells [.ptr 1 0], .cells [D.hP, D.hI, .own 2, D.hI], .arr 85 D.tO]⟩] (.seq .leaf (.seq (.cond .leaf .leaf) (.seq (.block (.seq .leaf (.seq .leaf (.cond (.seq .leaf .leaf) .leaf)))) .leaf)))))) (.seq .leaf
 .leaf)))
noncomputable def D.s13F : List Int × List (Int × List (Int × Int) × Int × Int) × Int × Int × List (List Int × Bool × Bool × List (Int × Int)) → Option (Int × List (Int × List (Int × Int) × Int × Int) × Int × Int × List (List Int × Bool ×
 Bool × List (Int × Int))) := fun (x : List Int × List (Int × List (Int × Int) × Int × Int) × Int × Int × List (List Int × Bool × Bool × List (Int × Int))) => Option.bind (iter (fun (s1 : Int × List (Int × List (Int × Int) × Int × Int) × Int
 × Int × List (List Int × Bool × Bool × List (Int × Int))) => if decide (s1.1 < (x.1.length : Int)) = true then if (0 : Int) ≤ s1.1 ∧ s1.1 < (x.1.length : Int) then Option.bind (D.f84F (List.getD x.1 (Int.toNat s1.1) (0 : Int), s1.2.1,
 s1.2.2.1, s1.2.2.2.1, s1.2.2.2.2)) fun v2 => if v2.1 = true then some (Sum.inr (Sum.inr (s1.1, v2.2.1, v2.2.2.1, v2.2.2.2.1, v2.2.2.2.2))) else some (Sum.inl (IntKind.i64.wrap (s1.1 + (1 : Int)), v2.2.1, v2.2.2.1, v2.2.2.2.1, v2.2.2.2.2))
 else none else some (Sum.inr (Sum.inl (s1.2.1, s1.2.2.1, s1.2.2.2.1, s1.2.2.2.2)))) ((0 : Int), x.2.1, x.2.2.1, x.2.2.2.1, x.2.2.2.2)) fun (v1 : List (Int × List (Int × Int) × Int × Int) × Int × Int × List (List Int × Bool × Bool × List
 (Int × Int)) ⊕ Int × List (Int × List (Int × Int) × Int × Int) × Int × Int × List (List Int × Bool × Bool × List (Int × Int))) => Sum.elim (fun (p2 : List (Int × List (Int × Int) × Int × Int) × Int × Int × List (List Int × Bool × Bool ×
 List (Int × Int))) => some ((-1 : Int), p2.1, p2.2.1, p2.2.2.1, p2.2.2.2)) (fun (q2 : Int × List (Int × List (Int × Int) × Int × Int) × Int × Int × List (List Int × Bool × Bool × List (Int × Int))) => some (q2.1, q2.2.1, q2.2.2.1,
 q2.2.2.2.1, q2.2.2.2.2)) v1
theorem D.s13eq : ∀ x, runFn D.C D.s13Γ D.s13sig D.s13ann Go.Proofs.Try.f102 x = D.s13F x := by
  intro x
  kernel_rfl
noncomputable def D.s13con : Con := ⟨102, D.s13sig, D.s13F⟩
theorem D.s13ok : Con.Ok Go.Proofs.Try.prog D.C D.s13con :=
  runFn_ok (Γ := D.s13Γ) (an := D.s13ann) ⟨D.Cok, (mC D.f84ok mN), D.mixed⟩ Go.Proofs.Try.func102 rfl rfl (fun x y h => (D.s13eq x).trans h) (by decide)
def D.s14sig : Sig := ⟨⟨[D.hL, .fnc 84 1, .ptr 0 0], [.cells [.ptr 1 0], .cells [D.hP, D.hI, .own 2, D.hI], .arr 85 D.tO]⟩, ⟨[D.hB], [.cells [.ptr 1 0], .cells [D.hP, D.hI, .own 2, D.hI], .arr 85 D.tO]⟩⟩
noncomputable def D.s14Γ : List Con := [D.s13con, D.f84con]
def D.s14ann : Ann := (.seq .leaf (.seq .leaf .leaf))
noncomputable def D.s14F : List Int × List (Int × List (Int × Int) × Int × Int) × Int × Int × List (List Int × Bool × Bool × List (Int × Int)) → Option (Bool × List (Int × List (Int × Int) × Int × Int) × Int × Int × List (List Int × Bool ×
 Bool × List (Int × Int))) := fun (x : List Int × List (Int × List (Int × Int) × Int × Int) × Int × Int × List (List Int × Bool × Bool × List (Int × Int))) => Option.bind (D.s13F (x.1, x.2.1, x.2.2.1, x.2.2.2.1, x.2.2.2.2)) fun v1 => some
 (decide (v1.1 ≥ (0 : Int)), v1.2.1, v1.2.2.1, v1.2.2.2.1, v1.2.2.2.2)
theorem D.s14eq : ∀ x, runFn D.C D.s14Γ D.s14sig D.s14ann Go.Proofs.Try.f77 x = D.s14F x := by
  intro x
  kernel_rfl
noncomputable def D.s14con : Con := ⟨77, D.s14sig, D.s14F⟩
theorem D.s14ok : Con.Ok Go.Proofs.Try.prog D.C D.s14con :=
  runFn_ok (Γ := D.s14Γ) (an := D.s14ann) ⟨D.Cok, (mC D.s13ok (mC D.f84ok mN)), D.mixed⟩ Go.Proofs.Try.func77 rfl rfl (fun x y h => (D.s14eq x).trans h) (by decide)
def D.f54sig : Sig := ⟨⟨[.ptr 0 0, .hole D.tS, D.hB], [.cells [D.hP, D.hI, .own 1, D.hI], .arr 85 D.tO]⟩, ⟨[D.hB], [.cells [D.hP, D.hI, .own 2, D.hI], .gone, .arr 85 D.tO]⟩⟩
noncomputable def D.f54Γ : List Con := [D.f83con, D.s14con]
def D.f54ann : Ann := (.seq .leaf (.seq .leaf .leaf))
noncomputable def D.f54F : (List Int × Bool × List (Int × Int)) × Bool × List (Int × List (Int × Int) × Int × Int) × Int × Int × List (List Int × Bool × Bool × List (Int × Int)) → Option (Bool × List (Int × List (Int × Int) × Int × Int) ×
 Int × Int × List (List Int × Bool × Bool × List (Int × Int))) := fun (x : (List Int × Bool × List (Int × Int)) × Bool × List (Int × List (Int × Int) × Int × Int) × Int × Int × List (List Int × Bool × Bool × List (Int × Int))) => Option.bind
 (D.f83F ((x.2.2.1, x.2.2.2.1, List.map (Ty.erD (Ty.st (Ty.pair (Ty.sl (Ty.int IntKind.i64)) (Ty.pair Ty.bool (Ty.osl (Ty.st (Ty.pair (Ty.int IntKind.i64) (Ty.int IntKind.i64)))))))) x.2.2.2.2.2, x.2.2.2.2.1), (x.1.1, x.1.2.1, x.1.2.2),
 x.2.1)) fun v1 => Option.bind (D.s14F (v1, x.2.2.1, x.2.2.2.1, x.2.2.2.2.1, x.2.2.2.2.2)) fun v2 => some (v2.1, v2.2.1, v2.2.2.1, v2.2.2.2.1, v2.2.2.2.2)
theorem D.f54eq : ∀ x, runFn D.C D.f54Γ D.f54sig D.f54ann Go.Proofs.Try.f54 x = D.f54F x := by
  intro x
  kernel_rfl
noncomputable def D.f54con : Con := ⟨54, D.f54sig, D.f54F⟩
theorem D.f54ok : Con.Ok Go.Proofs.Try.prog D.C D.f54con :=
  runFn_ok (Γ := D.f54Γ) (an := D.f54ann) ⟨D.Cok, (mC D.f83ok (mC D.s14ok mN)), D.mixed⟩ Go.Proofs.Try.func54 rfl rfl (fun x y h => (D.f54eq x).trans h) (by decide)
def D.f86sig : Sig := ⟨⟨[.hole D.tP, .ptr 0 0], [.cells [D.hI]]⟩, ⟨[D.hB], [.cells [D.hI]]⟩⟩
noncomputable def D.f86Γ : List Con := []
def D.f86ann : Ann := (.seq .leaf (.seq .leaf .leaf))
noncomputable def D.f86F : (Int × Int) × Int → Option (Bool × Int) := fun (x : (Int × Int) × Int) => some (x.1.1 == x.2, x.2)
theorem D.f86eq : ∀ x, runFn D.C D.f86Γ D.f86sig D.f86ann Go.Proofs.Try.f86 x = D.f86F x := by
  intro x
  kernel_rfl
noncomputable def D.f86con : Con := ⟨86, D.f86sig, D.f86F⟩
theorem D.f86ok : Con.Ok Go.Proofs.Try.prog D.C D.f86con :=
  runFn_ok (Γ := D.f86Γ) (an := D.f86ann) ⟨D.Cok, mN, D.mixed⟩ Go.Proofs.Try.func86 rfl rfl (fun x y h => (D.f86eq x).trans h) (by decide)
def D.s11sig : Sig := ⟨⟨[.hole (.sl D.tP), .fnc 86 1, .ptr 0 0], [.cells [D.hI]]⟩, ⟨[D.hI], [.cells [D.hI]]⟩⟩
noncomputable def D.s11Γ : List Con := [D.f86con]
def D.s11ann : Ann := (.seq .leaf (.seq (.seq .leaf (.block (.loop ⟨.normal, [(8, D.hI)], [.cells [D.hI]]⟩ [⟨(.exit 0), [], [.cells [D.hI]]⟩, ⟨.ret, [(4, D.hI)], [.cells [D.hI]]⟩] (.seq .leaf (.seq (.cond .leaf .leaf) (.seq (.block (.seq
 .leaf (.seq .leaf (.cond (.seq .leaf .leaf) .leaf)))) .leaf)))))) (.seq .leaf .leaf)))
noncomputable def D.s11F : List (Int × Int) × Int → Option (Int × Int) := fun (x : List (Int × Int) × Int) => Option.bind (iter (fun (s1 : Int × Int) => if decide (s1.1 < (x.1.length : Int)) = true then if (0 : Int) ≤ s1.1 ∧ s1.1 <
 (x.1.length : Int) then Option.bind (D.f86F (List.getD x.1 (Int.toNat s1.1) ((0 : Int), (0 : Int)), s1.2)) fun v2 => if v2.1 = true then some (Sum.inr (Sum.inr (s1.1, v2.2))) else some (Sum.inl (IntKind.i64.wrap (s1.1 + (1 : Int)), v2.2))
 else none else some (Sum.inr (Sum.inl s1.2))) ((0 : Int), x.2)) fun v1 => Sum.elim (fun (p2 : Int) => some ((-1 : Int), p2)) (fun (q2 : Int × Int) => some (q2.1, q2.2)) v1
theorem D.s11eq : ∀ x, runFn D.C D.s11Γ D.s11sig D.s11ann Go.Proofs.Try.f85 x = D.s11F x := by
  intro x
  kernel_rfl
noncomputable def D.s11con : Con := ⟨85, D.s11sig, D.s11F⟩
theorem D.s11ok : Con.Ok Go.Proofs.Try.prog D.C D.s11con :=
  runFn_ok (Γ := D.s11Γ) (an := D.s11ann) ⟨D.Cok, (mC D.f86ok mN), D.mixed⟩ Go.Proofs.Try.func85 rfl rfl (fun x y h => (D.s11eq x).trans h) (by decide)
def D.f55sig : Sig := ⟨⟨[.ptr 0 0, D.hI, D.hI], [.cells [D.hP, D.hI, .own 1, D.hI], .arr 85 D.tO]⟩, ⟨[D.hI], [.cells [D.hP, D.hI, .own 2, D.hI], .gone, .arr 85 D.tO]⟩⟩
noncomputable def D.f55Γ : List Con := [D.s11con, D.f87con, D.f53con]
def D.f55ann : Ann := (.seq .leaf (.seq .leaf (.seq (.seq .leaf (.seq .leaf (.cond (.seq .leaf .leaf) .leaf))) (.seq .leaf (.seq (.join [⟨.normal, [(9, D.hI), (10, D.hB)], [.cells [D.hP, D.hI, .own 4, D.hI], .gone, .cells [D.hI], .gone,
 .arr 85 D.tO]⟩] (.seq .leaf (.seq .leaf (.cond .leaf .leaf)))) (.seq (.seq .leaf (.cond (.seq .leaf (.eff 7 [7] [0, 0, 2, 6, 0, 0, 48, 112, 254, 511, 1023])) .leaf)) (.seq .leaf .leaf)))))))
end Go.Sx
