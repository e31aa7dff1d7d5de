import Derived.Test.YtjmmbgjdfmceeaaSxP
import Derived.Test.YtjmmbgjdfmceeaaProg
import Derived.KernelRfl
set_option linter.unusedVariables false
set_option linter.unusedSimpArgs false
namespace Go.Sx
open Go.Proofs

def S.TT : List (TypeId × TI) := [
  (3, ⟨(.int .i64), 1, 8, some (.int .i64), [.val (.int .i64) (0 : Int)]⟩),
  (4, ⟨.bool, 1, 1, some .bool, [.bit false]⟩),
  (5, ⟨(.int .u8), 1, 1, some (.int .u8), [.val (.int .u8) (0 : Int)]⟩),
  (9, ⟨.str, 1, 16, some .str, [.val .str ByteArray.empty]⟩),
  (22, ⟨(.slice 72), 1, 24, some (.sl (.st (.pair (.int .i64) (.pair (.sl (.st (.pair (.int .i64) (.int .i64)))) (.pair (.int .i64) (.int .i64)))))), [.nils]⟩),
  (23, ⟨(.slice 3), 1, 24, some (.sl (.int .i64)), [.nils]⟩),
  (30, ⟨(.array 2 3), 2, 16, some (.arr 2 (.int .i64)), [.val (.int .i64) (0 : Int), .val (.int .i64) (0 : Int)]⟩),
  (31, ⟨.other, 1, 0, none, [.und]⟩),
  (69, ⟨(.struct [(3, 0, 1, false), (3, 1, 1, false)]), 2, 16, some (.st (.pair (.int .i64) (.int .i64))), [.val (.int .i64) (0 : Int), .val (.int .i64) (0 : Int)]⟩),
  (70, ⟨(.slice 69), 1, 24, some (.sl (.st (.pair (.int .i64) (.int .i64)))), [.nils]⟩),
  (72, ⟨(.struct [(3, 0, 1, false), (70, 1, 1, false), (3, 2, 1, false), (3, 3, 1, false)]), 4, 48, some (.st (.pair (.int .i64) (.pair (.sl (.st (.pair (.int .i64) (.int .i64)))) (.pair (.int .i64) (.int .i64))))), [.val (.int .i64) (0 : Int), .nils, .val (.int .i64) (0 : Int), .val (.int .i64) (0 : Int)]⟩),
  (73, ⟨(.ptr 108), 1, 8, none, [.nilp]⟩),
  (76, ⟨(.slice 4), 1, 24, some (.sl .bool), [.nils]⟩),
  (80, ⟨.other, 1, 8, none, [.und]⟩),
  (81, ⟨.other, 1, 0, none, [.und]⟩),
  (90, ⟨.other, 1, 0, none, [.und]⟩),
  (106, ⟨.other, 1, 8, none, [.und]⟩),
  (108, ⟨(.struct [(22, 0, 1, false), (4, 1, 1, false), (4, 2, 1, false), (76, 3, 1, false), (3, 4, 1, false)]), 5, 64, some (.st (.pair (.sl (.st (.pair (.int .i64) (.pair (.sl (.st (.pair (.int .i64) (.int .i64)))) (.pair (.int .i64) (.int .i64)))))) (.pair .bool (.pair .bool (.pair (.sl .bool) (.int .i64)))))), [.nils, .bit false, .bit false, .nils, .val (.int .i64) (0 : Int)]⟩),
  (132, ⟨.other, 1, 8, none, [.und]⟩),
  (135, ⟨(.int .u64), 1, 8, some (.int .u64), [.val (.int .u64) (0 : Int)]⟩),
  (144, ⟨(.int .i64), 1, 8, some (.int .i64), [.val (.int .i64) (0 : Int)]⟩),
  (145, ⟨.other, 1, 0, none, [.und]⟩),
  (151, ⟨(.int .u32), 1, 4, some (.int .u32), [.val (.int .u32) (0 : Int)]⟩),
  (153, ⟨(.int .u64), 1, 8, some (.int .u64), [.val (.int .u64) (0 : Int)]⟩),
  (154, ⟨(.int .u64), 1, 8, some (.int .u64), [.val (.int .u64) (0 : Int)]⟩),
  (158, ⟨(.ptr 3), 1, 8, none, [.nilp]⟩),
  (160, ⟨(.ptr 154), 1, 8, none, [.nilp]⟩)]
noncomputable def S.C : Ctx := ⟨S.TT, []⟩
theorem S.Cok : S.C.ok Go.Proofs.Try.prog := checkTT_ok (by kernel_rfl)
theorem S.mixed : Go.Proofs.Try.prog.follows .mixedOrders = true := by kernel_rfl
def S.fuel : Nat := 1000000000
def S.f69sig : Sig := ⟨⟨[.hole (.int .i64), .ptr 0 0], [.cells [.hole (.int .i64)]]⟩, ⟨[.hole .bool], [.cells [.hole (.int .i64)]]⟩⟩
noncomputable def S.f69Γ : List Con := []
def S.f69ann : Ann :=
  (.seq .leaf (.seq .leaf .leaf))
/- ductus/nfa.Right$1 -/
noncomputable def S.f69F : Int × Int → Option (Bool × Int) :=
  fun (x : Int × Int) => if Decidable.decide (x.fst ≥ (0 : Int)) = Bool.true then Option.some (Decidable.decide (x.fst < x.snd), x.2) else Option.some (Bool.false, x.2)
theorem S.f69eq : ∀ x, runFn S.C S.f69Γ S.f69sig S.f69ann Go.Proofs.Try.f69 x = S.f69F x := by
  intro x
  kernel_rfl
noncomputable def S.f69con : Con := ⟨69, S.f69sig, S.f69F⟩
theorem S.f69ok : Con.Ok Go.Proofs.Try.prog S.C S.f69con :=
  runFn_ok (Γ := S.f69Γ) (an := S.f69ann) ⟨S.Cok, (fun _ h => nomatch h), S.mixed⟩ Go.Proofs.Try.func69 rfl rfl (fun x y h => (S.f69eq x).trans h) (by decide)
def S.f71sig : Sig := ⟨⟨[.hole (.st (.pair (.int .i64) (.pair (.sl (.st (.pair (.int .i64) (.int .i64)))) (.pair (.int .i64) (.int .i64))))), .ptr 0 0], [.cells [.fnc 69 1, .ptr 1 0], .cells [.hole (.int .i64)]]⟩, ⟨[.hole .bool], [.cells [.fnc 69 1, .ptr 1 0], .cells [.hole (.int .i64)]]⟩⟩
noncomputable def S.f71Γ : List Con := [S.f69con]
def S.f71ann : Ann :=
  (.seq .leaf (.seq (.seq .leaf (.block (.seq (.join [⟨.normal, [(6, .hole .bool)], [.cells [.fnc 69 1, .ptr 1 0], .cells [.hole (.int .i64)], .cells [.hole (.int .i64), .hole (.sl (.st (.pair (.int .i64) (.int .i64)))), .hole (.int .i64), .hole (.int .i64)]]⟩] (.seq .leaf (.cond .leaf (.seq .leaf (.cond .leaf (.seq .leaf (.cond .leaf .leaf))))))) (.cond (.seq .leaf .leaf) (.seq .leaf (.cond (.seq .leaf .leaf) (.seq .leaf (.cond (.seq .leaf .leaf) .leaf)))))))) (.seq .leaf .leaf)))
/- ductus/nfa.Right$2 -/
noncomputable def S.f71F : (Int × List (Int × Int) × Int × Int) × Int → Option (Bool × Int) :=
  fun (x : (Int × List (Int × Int) × Int × Int) × Int) =>
  Option.bind
    (if (x.fst.fst == (0 : Int)) = Bool.true then Option.some (Bool.true, x.2, x.fst.1, x.fst.snd.1, x.fst.snd.snd.1, x.fst.snd.snd.2)
    else
      if (x.fst.fst == (1 : Int)) = Bool.true then Option.some (Bool.true, x.2, x.fst.1, x.fst.snd.1, x.fst.snd.snd.1, x.fst.snd.snd.2)
      else
        if (x.fst.fst == (4 : Int)) = Bool.true then Option.some (Bool.true, x.2, x.fst.1, x.fst.snd.1, x.fst.snd.snd.1, x.fst.snd.snd.2)
        else Option.some (x.fst.fst == (5 : Int), x.2, x.fst.1, x.fst.snd.1, x.fst.snd.snd.1, x.fst.snd.snd.2))
    fun (v1 : Bool × Int × Int × List (Int × Int) × Int × Int) =>
    if v1.fst = Bool.true then Option.some (Bool.false, v1.snd.1)
    else
      if (x.fst.fst == (2 : Int)) = Bool.true then
        Option.bind (Go.Sx.S.f69F (v1.snd.snd.snd.snd.1, v1.snd.1)) fun (v2 : Bool × Int) =>
          if (!v2.fst) = Bool.true then Option.some (Bool.true, v2.2) else Option.bind (Go.Sx.S.f69F (v1.snd.snd.snd.snd.2, v2.2)) fun (v3 : Bool × Int) => Option.some (!v3.fst, v3.2)
      else
        if (x.fst.fst == (3 : Int)) = Bool.true then Option.bind (Go.Sx.S.f69F (v1.snd.snd.snd.snd.1, v1.snd.1)) fun (v2 : Bool × Int) => Option.some (!v2.fst, v2.2)
        else Option.some (Bool.true, v1.snd.1)
theorem S.f71eq : ∀ x, runFn S.C S.f71Γ S.f71sig S.f71ann Go.Proofs.Try.f71 x = S.f71F x := by
  intro x
  kernel_rfl
noncomputable def S.f71con : Con := ⟨71, S.f71sig, S.f71F⟩
theorem S.f71ok : Con.Ok Go.Proofs.Try.prog S.C S.f71con :=
  runFn_ok (Γ := S.f71Γ) (an := S.f71ann) ⟨S.Cok, (List.forall_mem_cons.2 ⟨S.f69ok, (fun _ h => nomatch h)⟩), S.mixed⟩ Go.Proofs.Try.func71 rfl rfl (fun x y h => (S.f71eq x).trans h) (by decide)
def S.s0sig : Sig := ⟨⟨[.hole (.sl (.st (.pair (.int .i64) (.pair (.sl (.st (.pair (.int .i64) (.int .i64)))) (.pair (.int .i64) (.int .i64)))))), .fnc 71 1, .ptr 0 0], [.cells [.fnc 69 1, .ptr 1 0], .cells [.hole (.int .i64)]]⟩, ⟨[.hole (.int .i64)], [.cells [.fnc 69 1, .ptr 1 0], .cells [.hole (.int .i64)]]⟩⟩
noncomputable def S.s0Γ : List Con := [S.f71con]
def S.s0ann : Ann :=
  (.seq .leaf (.seq (.seq .leaf (.block (.loop ⟨.normal, [(8, .hole (.int .i64))], [.cells [.fnc 69 1, .ptr 1 0], .cells [.hole (.int .i64)]]⟩ [⟨(.exit 0), [], [.cells [.fnc 69 1, .ptr 1 0], .cells [.hole (.int .i64)]]⟩, ⟨.ret, [(4, .hole (.int .i64))], [.cells [.fnc 69 1, .ptr 1 0], .cells [.hole (.int .i64)]]⟩] (.seq .leaf (.seq (.cond .leaf .leaf) (.seq (.block (.seq .leaf (.seq .leaf (.cond (.seq .leaf .leaf) .leaf)))) .leaf)))))) (.seq .leaf .leaf)))
/- slices.IndexFunc[[]ductus/api.Inst,ductus/api.Inst] -/
noncomputable def S.s0F : List (Int × List (Int × Int) × Int × Int) × Int → Option (Int × Int) :=
  fun (x : List (Int × List (Int × Int) × Int × Int) × Int) =>
  Option.bind
    (Go.Sx.iter
      (fun (s1 : Int × Int) =>
        if Decidable.decide (s1.fst < (↑(List.length x.fst) : Int)) = Bool.true then
          if (0 : Int) ≤ s1.fst ∧ s1.fst < (↑(List.length x.fst) : Int) then
            Option.bind (Go.Sx.S.f71F (List.getD x.fst (Int.toNat s1.fst) ((0 : Int), [], (0 : Int), (0 : Int)), s1.2)) fun (v2 : Bool × Int) =>
              if v2.fst = Bool.true then Option.some (Sum.inr (Sum.inr (s1.1, v2.2))) else Option.some (Sum.inl (Go.IntKind.wrap Go.IntKind.i64 (s1.fst + (1 : Int)), v2.2))
          else Option.none
        else Option.some (Sum.inr (Sum.inl s1.2)))
      ((0 : Int), x.2))
    fun (v1 : Int ⊕ Int × Int) => Sum.elim (fun (p2 : Int) => Option.some ((-1 : Int), p2)) (fun (q2 : Int × Int) => Option.some (q2.1, q2.2)) v1
theorem S.s0eq : ∀ x, runFn S.C S.s0Γ S.s0sig S.s0ann Go.Proofs.Try.f97 x = S.s0F x := by
  intro x
  kernel_rfl
noncomputable def S.s0con : Con := ⟨97, S.s0sig, S.s0F⟩
theorem S.s0ok : Con.Ok Go.Proofs.Try.prog S.C S.s0con :=
  runFn_ok (Γ := S.s0Γ) (an := S.s0ann) ⟨S.Cok, (List.forall_mem_cons.2 ⟨S.f71ok, (fun _ h => nomatch h)⟩), S.mixed⟩ Go.Proofs.Try.func97 rfl rfl (fun x y h => (S.s0eq x).trans h) (by decide)
def S.s1sig : Sig := ⟨⟨[.hole (.sl (.st (.pair (.int .i64) (.pair (.sl (.st (.pair (.int .i64) (.int .i64)))) (.pair (.int .i64) (.int .i64)))))), .fnc 71 1, .ptr 0 0], [.cells [.fnc 69 1, .ptr 1 0], .cells [.hole (.int .i64)]]⟩, ⟨[.hole .bool], [.cells [.fnc 69 1, .ptr 1 0], .cells [.hole (.int .i64)]]⟩⟩
noncomputable def S.s1Γ : List Con := [S.s0con, S.f71con]
def S.s1ann : Ann :=
  (.seq .leaf (.seq .leaf .leaf))
/- slices.ContainsFunc[[]ductus/api.Inst,ductus/api.Inst] -/
noncomputable def S.s1F : List (Int × List (Int × Int) × Int × Int) × Int → Option (Bool × Int) :=
  fun (x : List (Int × List (Int × Int) × Int × Int) × Int) => Option.bind (Go.Sx.S.s0F (x.1, x.2)) fun (v1 : Int × Int) => Option.some (Decidable.decide (v1.fst ≥ (0 : Int)), v1.2)
theorem S.s1eq : ∀ x, runFn S.C S.s1Γ S.s1sig S.s1ann Go.Proofs.Try.f70 x = S.s1F x := by
  intro x
  kernel_rfl
noncomputable def S.s1con : Con := ⟨70, S.s1sig, S.s1F⟩
theorem S.s1ok : Con.Ok Go.Proofs.Try.prog S.C S.s1con :=
  runFn_ok (Γ := S.s1Γ) (an := S.s1ann) ⟨S.Cok, (List.forall_mem_cons.2 ⟨S.s0ok, (List.forall_mem_cons.2 ⟨S.f71ok, (fun _ h => nomatch h)⟩)⟩), S.mixed⟩ Go.Proofs.Try.func70 rfl rfl (fun x y h => (S.s1eq x).trans h) (by decide)
def S.f42sig : Sig := ⟨⟨[.hole (.sl (.st (.pair (.int .i64) (.pair (.sl (.st (.pair (.int .i64) (.int .i64)))) (.pair (.int .i64) (.int .i64))))))], []⟩, ⟨[.hole .bool], []⟩⟩
noncomputable def S.f42Γ : List Con := [S.s1con]
def S.f42ann : Ann :=
  (.seq .leaf (.seq .leaf (.seq (.seq (.join [⟨.normal, [(21, .hole .bool)], [.cells [.hole (.int .i64)]]⟩] .leaf) (.cond (.seq .leaf .leaf) .leaf)) (.seq .leaf (.seq .leaf .leaf)))))
/- ductus/nfa.Right -/
noncomputable def S.f42F : List (Int × List (Int × Int) × Int × Int) → Option (Bool) :=
  fun (x : List (Int × List (Int × Int) × Int × Int)) =>
  Option.bind
    (if ((↑(List.length x) : Int) == (0 : Int)) = Bool.true then Option.some (Bool.true, (↑(List.length x) : Int))
    else
      if Decidable.decide ((↑(List.length x) : Int) > (1000 : Int)) = Bool.true then Option.some (Bool.true, (↑(List.length x) : Int))
      else
        if (0 : Int) ≤ Go.IntKind.wrap Go.IntKind.i64 ((↑(List.length x) : Int) - (1 : Int)) ∧ Go.IntKind.wrap Go.IntKind.i64 ((↑(List.length x) : Int) - (1 : Int)) < (↑(List.length x) : Int) then
          Option.some
            ((List.getD x (Int.toNat (Go.IntKind.wrap Go.IntKind.i64 ((↑(List.length x) : Int) - (1 : Int)))) ((0 : Int), [], (0 : Int), (0 : Int))).fst != (0 : Int), (↑(List.length x) : Int))
        else Option.none)
    fun (v1 : Bool × Int) => if v1.fst = Bool.true then Option.some Bool.false else Option.bind (Go.Sx.S.s1F (x, v1.2)) fun (v2 : Bool × Int) => Option.some !v2.fst
theorem S.f42eq : ∀ x, runFn S.C S.f42Γ S.f42sig S.f42ann Go.Proofs.Try.f42 x = S.f42F x := by
  intro x
  kernel_rfl
noncomputable def S.f42con : Con := ⟨42, S.f42sig, S.f42F⟩
theorem S.f42ok : Con.Ok Go.Proofs.Try.prog S.C S.f42con :=
  runFn_ok (Γ := S.f42Γ) (an := S.f42ann) ⟨S.Cok, (List.forall_mem_cons.2 ⟨S.s1ok, (fun _ h => nomatch h)⟩), S.mixed⟩ Go.Proofs.Try.func42 rfl rfl (fun x y h => (S.f42eq x).trans h) (by decide)
def S.f72sig : Sig := ⟨⟨[.ptr 0 0, .hole (.int .i64)], [.cells [.hole (.sl (.st (.pair (.int .i64) (.pair (.sl (.st (.pair (.int .i64) (.int .i64)))) (.pair (.int .i64) (.int .i64)))))), .hole .bool, .hole .bool, .own 1, .hole (.int .i64)], .arr 4 .bool]⟩, ⟨[], [.cells [.hole (.sl (.st (.pair (.int .i64) (.pair (.sl (.st (.pair (.int .i64) (.int .i64)))) (.pair (.int .i64) (.int .i64)))))), .hole .bool, .hole .bool, .own 2, .hole (.int .i64)], .gone, .arr 4 .bool]⟩⟩
noncomputable def S.f72Γ (r72 : Int × List (Int × List (Int × Int) × Int × Int) × Bool × Bool × Int × List Bool → Option (List (Int × List (Int × Int) × Int × Int) × Bool × Bool × Int × List Bool)) : List Con := [⟨72, S.f72sig, r72⟩]
def S.f72ann : Ann :=
  (.block (.loop ⟨.normal, [(1, .hole (.int .i64))], [.cells [.hole (.sl (.st (.pair (.int .i64) (.pair (.sl (.st (.pair (.int .i64) (.int .i64)))) (.pair (.int .i64) (.int .i64)))))), .hole .bool, .hole .bool, .own 2, .hole (.int .i64)], .gone, .arr 4 .bool]⟩ [⟨(.exit 0), [], [.cells [.hole (.sl (.st (.pair (.int .i64) (.pair (.sl (.st (.pair (.int .i64) (.int .i64)))) (.pair (.int .i64) (.int .i64)))))), .hole .bool, .hole .bool, .own 2, .hole (.int .i64)], .gone, .arr 4 .bool]⟩] (.seq (.seq (.join [⟨.normal, [(25, .hole .bool)], [.cells [.hole (.sl (.st (.pair (.int .i64) (.pair (.sl (.st (.pair (.int .i64) (.int .i64)))) (.pair (.int .i64) (.int .i64)))))), .hole .bool, .hole .bool, .own 2, .hole (.int .i64)], .gone, .arr 4 .bool]⟩] .leaf) (.cond .leaf .leaf)) (.block (.seq .leaf (.seq .leaf (.seq .leaf (.block (.seq .leaf (.cond (.seq .leaf .leaf) (.seq .leaf (.cond .leaf (.seq (.join [⟨.normal, [(62, .hole .bool)], [.cells [.hole (.sl (.st (.pair (.int .i64) (.pair (.sl (.st (.pair (.int .i64) (.int .i64)))) (.pair (.int .i64) (.int .i64)))))), .hole .bool, .hole .bool, .own 2, .hole (.int .i64)], .gone, .arr 4 .bool, .gone]⟩] (.seq (.join [⟨.normal, [(62, .hole .bool)], [.cells [.hole (.sl (.st (.pair (.int .i64) (.pair (.sl (.st (.pair (.int .i64) (.int .i64)))) (.pair (.int .i64) (.int .i64)))))), .hole .bool, .hole .bool, .own 2, .hole (.int .i64)], .gone, .arr 4 .bool, .cells [.hole (.int .i64), .hole (.sl (.st (.pair (.int .i64) (.int .i64)))), .hole (.int .i64), .hole (.int .i64)]]⟩] .leaf) (.cond .leaf .leaf))) (.cond .leaf .leaf))))))))))))))
/- (*ductus/sim.reach).add -/
noncomputable def S.f72S (r72 : Int × List (Int × List (Int × Int) × Int × Int) × Bool × Bool × Int × List Bool → Option (List (Int × List (Int × Int) × Int × Int) × Bool × Bool × Int × List Bool)) : Int × List (Int × List (Int × Int) × Int × Int) × Bool × Bool × Int × List Bool → Option (List (Int × List (Int × Int) × Int × Int) × Bool × Bool × Int × List Bool) :=
  fun (x : Int × List (Int × List (Int × Int) × Int × Int) × Bool × Bool × Int × List Bool) =>
  Option.bind
    (Go.Sx.iter
      (fun (s1 : Int × List (Int × List (Int × Int) × Int × Int) × Bool × Bool × Int × List Bool) =>
        Option.bind
          (if Decidable.decide (s1.fst ≥ (0 : Int)) = Bool.true then
            if Decidable.decide (s1.fst < (↑(List.length s1.snd.fst) : Int)) = Bool.true then
              if (0 : Int) ≤ s1.fst ∧ s1.fst < (↑(List.length s1.snd.snd.snd.snd.snd) : Int) then
                Option.some (!List.getD s1.snd.snd.snd.snd.2 (Int.toNat s1.fst) Bool.false, s1.snd.1, s1.snd.snd.1, s1.snd.snd.snd.1, s1.snd.snd.snd.snd.1, s1.snd.snd.snd.snd.2)
              else Option.none
            else Option.some (Bool.false, s1.snd.1, s1.snd.snd.1, s1.snd.snd.snd.1, s1.snd.snd.snd.snd.1, s1.snd.snd.snd.snd.2)
          else Option.some (Bool.false, s1.snd.1, s1.snd.snd.1, s1.snd.snd.snd.1, s1.snd.snd.snd.snd.1, s1.snd.snd.snd.snd.2))
          fun (v2 : Bool × List (Int × List (Int × Int) × Int × Int) × Bool × Bool × Int × List Bool) =>
          if v2.fst = Bool.true then
            if (0 : Int) ≤ s1.fst ∧ s1.fst < (↑(List.length v2.snd.snd.snd.snd.snd) : Int) then
              if (0 : Int) ≤ s1.fst ∧ s1.fst < (↑(List.length v2.snd.fst) : Int) then
                if ((List.getD v2.snd.fst (Int.toNat s1.fst) ((0 : Int), [], (0 : Int), (0 : Int))).fst == (2 : Int)) = Bool.true then
                  Option.bind
                    (r72
                      ((List.getD v2.snd.fst (Int.toNat s1.fst) ((0 : Int), [], (0 : Int), (0 : Int))).snd.snd.1, v2.snd.1, v2.snd.snd.1, v2.snd.snd.snd.1,
                        Go.IntKind.wrap Go.IntKind.i64 (v2.snd.snd.snd.snd.fst + (1 : Int)), List.set v2.snd.snd.snd.snd.2 (Int.toNat s1.fst) Bool.true))
                    fun (v3 : List (Int × List (Int × Int) × Int × Int) × Bool × Bool × Int × List Bool) =>
                    Option.some (Sum.inl ((List.getD v2.snd.fst (Int.toNat s1.fst) ((0 : Int), [], (0 : Int), (0 : Int))).snd.snd.2, v3.1, v3.snd.1, v3.snd.snd.1, v3.snd.snd.snd.1, v3.snd.snd.snd.2))
                else
                  if ((List.getD v2.snd.fst (Int.toNat s1.fst) ((0 : Int), [], (0 : Int), (0 : Int))).fst == (3 : Int)) = Bool.true then
                    Option.some
                      (Sum.inl
                        ((List.getD v2.snd.fst (Int.toNat s1.fst) ((0 : Int), [], (0 : Int), (0 : Int))).snd.snd.1, v2.snd.1, v2.snd.snd.1, v2.snd.snd.snd.1,
                          Go.IntKind.wrap Go.IntKind.i64 (v2.snd.snd.snd.snd.fst + (1 : Int)), List.set v2.snd.snd.snd.snd.2 (Int.toNat s1.fst) Bool.true))
                  else
                    Option.bind
                      (Option.bind
                        (if ((List.getD v2.snd.fst (Int.toNat s1.fst) ((0 : Int), [], (0 : Int), (0 : Int))).fst == (4 : Int)) = Bool.true then
                          Option.some
                            (v2.snd.snd.1, v2.snd.1, v2.snd.snd.1, v2.snd.snd.snd.1, Go.IntKind.wrap Go.IntKind.i64 (v2.snd.snd.snd.snd.fst + (1 : Int)),
                              List.set v2.snd.snd.snd.snd.2 (Int.toNat s1.fst) Bool.true, (List.getD v2.snd.fst (Int.toNat s1.fst) ((0 : Int), [], (0 : Int), (0 : Int))).1,
                              (List.getD v2.snd.fst (Int.toNat s1.fst) ((0 : Int), [], (0 : Int), (0 : Int))).snd.1,
                              (List.getD v2.snd.fst (Int.toNat s1.fst) ((0 : Int), [], (0 : Int), (0 : Int))).snd.snd.1,
                              (List.getD v2.snd.fst (Int.toNat s1.fst) ((0 : Int), [], (0 : Int), (0 : Int))).snd.snd.2)
                        else
                          Option.some
                            (Bool.false, v2.snd.1, v2.snd.snd.1, v2.snd.snd.snd.1, Go.IntKind.wrap Go.IntKind.i64 (v2.snd.snd.snd.snd.fst + (1 : Int)),
                              List.set v2.snd.snd.snd.snd.2 (Int.toNat s1.fst) Bool.true, (List.getD v2.snd.fst (Int.toNat s1.fst) ((0 : Int), [], (0 : Int), (0 : Int))).1,
                              (List.getD v2.snd.fst (Int.toNat s1.fst) ((0 : Int), [], (0 : Int), (0 : Int))).snd.1,
                              (List.getD v2.snd.fst (Int.toNat s1.fst) ((0 : Int), [], (0 : Int), (0 : Int))).snd.snd.1,
                              (List.getD v2.snd.fst (Int.toNat s1.fst) ((0 : Int), [], (0 : Int), (0 : Int))).snd.snd.2))
                        fun (v3 : Bool × List (Int × List (Int × Int) × Int × Int) × Bool × Bool × Int × List Bool × Int × List (Int × Int) × Int × Int) =>
                        if v3.fst = Bool.true then Option.some (Bool.true, v3.snd.1, v3.snd.snd.1, v3.snd.snd.snd.1, v3.snd.snd.snd.snd.1, v3.snd.snd.snd.snd.snd.1)
                        else
                          if (v3.snd.snd.snd.snd.snd.snd.fst == (5 : Int)) = Bool.true then
                            Option.some (v3.snd.snd.snd.1, v3.snd.1, v3.snd.snd.1, v3.snd.snd.snd.1, v3.snd.snd.snd.snd.1, v3.snd.snd.snd.snd.snd.1)
                          else Option.some (Bool.false, v3.snd.1, v3.snd.snd.1, v3.snd.snd.snd.1, v3.snd.snd.snd.snd.1, v3.snd.snd.snd.snd.snd.1))
                      fun (v3 : Bool × List (Int × List (Int × Int) × Int × Int) × Bool × Bool × Int × List Bool) =>
                      if v3.fst = Bool.true then
                        Option.some (Sum.inl (Go.IntKind.wrap Go.IntKind.i64 (s1.fst + (1 : Int)), v3.snd.1, v3.snd.snd.1, v3.snd.snd.snd.1, v3.snd.snd.snd.snd.1, v3.snd.snd.snd.snd.2))
                      else Option.some (Sum.inl (s1.1, v3.snd.1, v3.snd.snd.1, v3.snd.snd.snd.1, v3.snd.snd.snd.snd.1, v3.snd.snd.snd.snd.2))
              else Option.none
            else Option.none
          else Option.some (Sum.inr (v2.snd.1, v2.snd.snd.1, v2.snd.snd.snd.1, v2.snd.snd.snd.snd.1, v2.snd.snd.snd.snd.2)))
      (x.1, x.snd.1, x.snd.snd.1, x.snd.snd.snd.1, x.snd.snd.snd.snd.1, x.snd.snd.snd.snd.2))
    fun (v1 : List (Int × List (Int × Int) × Int × Int) × Bool × Bool × Int × List Bool) => Option.some (v1.1, v1.snd.1, v1.snd.snd.1, v1.snd.snd.snd.1, v1.snd.snd.snd.2)
theorem S.f72eq (r72 : Int × List (Int × List (Int × Int) × Int × Int) × Bool × Bool × Int × List Bool → Option (List (Int × List (Int × Int) × Int × Int) × Bool × Bool × Int × List Bool)) : ∀ x, runFn S.C (S.f72Γ r72) S.f72sig S.f72ann Go.Proofs.Try.f72 x = S.f72S r72 x := by
  intro x
  kernel_rfl
noncomputable def S.f72N : Nat → (Int × List (Int × List (Int × Int) × Int × Int) × Bool × Bool × Int × List Bool → Option (List (Int × List (Int × Int) × Int × Int) × Bool × Bool × Int × List Bool))
  | 0 => fun _ => none
  | n + 1 => S.f72S ((S.f72N n))
noncomputable def S.f72F : Int × List (Int × List (Int × Int) × Int × Int) × Bool × Bool × Int × List Bool → Option (List (Int × List (Int × Int) × Int × Int) × Bool × Bool × Int × List Bool) := (S.f72N S.fuel)
noncomputable def S.f72con : Con := ⟨72, S.f72sig, S.f72F⟩
theorem S.f72Nok : ∀ n, Con.Ok Go.Proofs.Try.prog S.C ⟨72, S.f72sig, (S.f72N n)⟩
  | 0 => runFn_ok (Γ := []) (an := .leaf) ⟨S.Cok, (fun _ h => nomatch h), S.mixed⟩ Go.Proofs.Try.func72 rfl rfl (fun x y h => nomatch h) (by decide)
  | n + 1 => have h := S.f72Nok n
    runFn_ok (Γ := S.f72Γ ((S.f72N n))) (an := S.f72ann) ⟨S.Cok, (List.forall_mem_cons.2 ⟨h, (fun _ h => nomatch h)⟩), S.mixed⟩ Go.Proofs.Try.func72 rfl rfl (fun x y h => (S.f72eq _ x).trans h) (by decide)
theorem S.f72ok : Con.Ok Go.Proofs.Try.prog S.C S.f72con := (S.f72Nok S.fuel)
def S.f43sig : Sig := ⟨⟨[.hole (.sl (.st (.pair (.int .i64) (.pair (.sl (.st (.pair (.int .i64) (.int .i64)))) (.pair (.int .i64) (.int .i64)))))), .hole (.sl (.int .i64)), .hole .bool, .hole .bool], []⟩, ⟨[.ptr 0 0], [.cells [.hole (.sl (.st (.pair (.int .i64) (.pair (.sl (.st (.pair (.int .i64) (.int .i64)))) (.pair (.int .i64) (.int .i64)))))), .hole .bool, .hole .bool, .own 1, .hole (.int .i64)], .arr 4 .bool]⟩⟩
noncomputable def S.f43Γ : List Con := [S.f72con]
def S.f43ann : Ann :=
  (.seq .leaf (.seq .leaf (.seq (.seq .leaf (.block (.loop ⟨.normal, [(22, .hole (.int .i64))], [.gone, .cells [.hole (.sl (.st (.pair (.int .i64) (.pair (.sl (.st (.pair (.int .i64) (.int .i64)))) (.pair (.int .i64) (.int .i64)))))), .hole .bool, .hole .bool, .own 2, .hole (.int .i64)], .arr 4 .bool]⟩ [⟨(.exit 0), [], [.gone, .cells [.hole (.sl (.st (.pair (.int .i64) (.pair (.sl (.st (.pair (.int .i64) (.int .i64)))) (.pair (.int .i64) (.int .i64)))))), .hole .bool, .hole .bool, .own 2, .hole (.int .i64)], .arr 4 .bool]⟩] (.seq .leaf (.seq (.cond .leaf .leaf) (.seq (.block (.seq .leaf .leaf)) .leaf)))))) (.seq .leaf .leaf))))
/- ductus/sim.from -/
noncomputable def S.f43F : List (Int × List (Int × Int) × Int × Int) × List Int × Bool × Bool → Option (List (Int × List (Int × Int) × Int × Int) × Bool × Bool × Int × List Bool) :=
  fun (x : List (Int × List (Int × Int) × Int × Int) × List Int × Bool × Bool) =>
  if
      (0 : Int) ≤ (↑(List.length x.fst) : Int) ∧
        (↑(List.length x.fst) : Int) ≤ (↑(List.length x.fst) : Int) ∧
          Go.Sx.roomOk (Int.toNat (↑(List.length x.fst) : Int))
            { kind := Go.Sx.TK.bool, size := (1 : Nat), bytes := (1 : Nat), ty := Option.some Go.Sx.Ty.bool, zero := [Go.Sx.SV.bit Bool.false] : Go.Sx.TI }.bytes then
    Option.bind
      (Go.Sx.iter
        (fun (s1 : Int × List (Int × List (Int × Int) × Int × Int) × Bool × Bool × Int × List Bool) =>
          if Decidable.decide (s1.fst < (↑(List.length x.snd.fst) : Int)) = Bool.true then
            if (0 : Int) ≤ s1.fst ∧ s1.fst < (↑(List.length x.snd.fst) : Int) then
              Option.bind (Go.Sx.S.f72F (List.getD x.snd.fst (Int.toNat s1.fst) (0 : Int), s1.snd.1, s1.snd.snd.1, s1.snd.snd.snd.1, s1.snd.snd.snd.snd.1, s1.snd.snd.snd.snd.2))
                fun (v2 : List (Int × List (Int × Int) × Int × Int) × Bool × Bool × Int × List Bool) =>
                Option.some (Sum.inl (Go.IntKind.wrap Go.IntKind.i64 (s1.fst + (1 : Int)), v2.1, v2.snd.1, v2.snd.snd.1, v2.snd.snd.snd.1, v2.snd.snd.snd.2))
            else Option.none
          else Option.some (Sum.inr (s1.snd.1, s1.snd.snd.1, s1.snd.snd.snd.1, s1.snd.snd.snd.snd.1, s1.snd.snd.snd.snd.2)))
        ((0 : Int), x.1, x.snd.snd.1, x.snd.snd.2, (0 : Int), List.replicate (Int.toNat (↑(List.length x.fst) : Int)) Bool.false))
      fun (v1 : List (Int × List (Int × Int) × Int × Int) × Bool × Bool × Int × List Bool) => Option.some (v1.1, v1.snd.1, v1.snd.snd.1, v1.snd.snd.snd.1, v1.snd.snd.snd.2)
  else Option.none
theorem S.f43eq : ∀ x, runFn S.C S.f43Γ S.f43sig S.f43ann Go.Proofs.Try.f43 x = S.f43F x := by
  intro x
  kernel_rfl
noncomputable def S.f43con : Con := ⟨43, S.f43sig, S.f43F⟩
theorem S.f43ok : Con.Ok Go.Proofs.Try.prog S.C S.f43con :=
  runFn_ok (Γ := S.f43Γ) (an := S.f43ann) ⟨S.Cok, (List.forall_mem_cons.2 ⟨S.f72ok, (fun _ h => nomatch h)⟩), S.mixed⟩ Go.Proofs.Try.func43 rfl rfl (fun x y h => (S.f43eq x).trans h) (by decide)
def S.f44sig : Sig := ⟨⟨[.ptr 0 0], [.cells [.hole (.sl (.st (.pair (.int .i64) (.pair (.sl (.st (.pair (.int .i64) (.int .i64)))) (.pair (.int .i64) (.int .i64)))))), .hole .bool, .hole .bool, .own 1, .hole (.int .i64)], .arr 4 .bool]⟩, ⟨[.hole (.sl (.int .i64))], [.cells [.hole (.sl (.st (.pair (.int .i64) (.pair (.sl (.st (.pair (.int .i64) (.int .i64)))) (.pair (.int .i64) (.int .i64)))))), .hole .bool, .hole .bool, .own 2, .hole (.int .i64)], .gone, .arr 4 .bool]⟩⟩
noncomputable def S.f44Γ : List Con := []
def S.f44ann : Ann :=
  (.seq .leaf (.seq .leaf (.seq (.seq .leaf (.block (.loop ⟨.normal, [(3, .own 2), (11, .hole (.int .i64))], [.cells [.hole (.sl (.st (.pair (.int .i64) (.pair (.sl (.st (.pair (.int .i64) (.int .i64)))) (.pair (.int .i64) (.int .i64)))))), .hole .bool, .hole .bool, .own 1, .hole (.int .i64)], .arr 4 .bool, .arr 3 (.int .i64)]⟩ [⟨(.exit 0), [(3, .own 2)], [.cells [.hole (.sl (.st (.pair (.int .i64) (.pair (.sl (.st (.pair (.int .i64) (.int .i64)))) (.pair (.int .i64) (.int .i64)))))), .hole .bool, .hole .bool, .own 1, .hole (.int .i64)], .arr 4 .bool, .arr 3 (.int .i64)]⟩] (.seq .leaf (.seq (.cond .leaf .leaf) (.seq (.block (.seq .leaf (.seq .leaf (.cond .leaf .leaf)))) .leaf)))))) (.seq .leaf .leaf))))
/- (*ductus/sim.reach).all -/
noncomputable def S.f44F : List (Int × List (Int × Int) × Int × Int) × Bool × Bool × Int × List Bool → Option (List Int × List (Int × List (Int × Int) × Int × Int) × Bool × Bool × Int × List Bool) :=
  fun (x : List (Int × List (Int × Int) × Int × Int) × Bool × Bool × Int × List Bool) =>
  Option.bind
    (Go.Sx.iter
      (fun (s1 : Int × List (Int × List (Int × Int) × Int × Int) × Bool × Bool × Int × List Bool × List Int) =>
        if Decidable.decide (s1.fst < (↑(List.length x.snd.snd.snd.snd) : Int)) = Bool.true then
          if (0 : Int) ≤ s1.fst ∧ s1.fst < (↑(List.length s1.snd.snd.snd.snd.snd.fst) : Int) then
            if List.getD s1.snd.snd.snd.snd.snd.1 (Int.toNat s1.fst) Bool.false = Bool.true then
              if
                  Go.Sx.roomOk (List.length s1.snd.snd.snd.snd.snd.snd + List.length [s1.1])
                    { kind := Go.Sx.TK.int Go.IntKind.i64, size := (1 : Nat), bytes := (8 : Nat), ty := Option.some (Go.Sx.Ty.int Go.IntKind.i64),
                        zero := [Go.Sx.SV.val (Go.Sx.Ty.int Go.IntKind.i64) (0 : Int)] : Go.Sx.TI }.bytes then
                Option.some
                  (Sum.inl
                    (Go.IntKind.wrap Go.IntKind.i64 (s1.fst + (1 : Int)), s1.snd.1, s1.snd.snd.1, s1.snd.snd.snd.1, s1.snd.snd.snd.snd.1, s1.snd.snd.snd.snd.snd.1, s1.snd.snd.snd.snd.snd.2 ++ [s1.1]))
              else Option.none
            else
              Option.some
                (Sum.inl (Go.IntKind.wrap Go.IntKind.i64 (s1.fst + (1 : Int)), s1.snd.1, s1.snd.snd.1, s1.snd.snd.snd.1, s1.snd.snd.snd.snd.1, s1.snd.snd.snd.snd.snd.1, s1.snd.snd.snd.snd.snd.2))
          else Option.none
        else Option.some (Sum.inr (s1.snd.1, s1.snd.snd.1, s1.snd.snd.snd.1, s1.snd.snd.snd.snd.1, s1.snd.snd.snd.snd.snd.1, s1.snd.snd.snd.snd.snd.2)))
      ((0 : Int), x.1, x.snd.1, x.snd.snd.1, x.snd.snd.snd.1, x.snd.snd.snd.2, []))
    fun (v1 : List (Int × List (Int × Int) × Int × Int) × Bool × Bool × Int × List Bool × List Int) =>
    Option.some (v1.snd.snd.snd.snd.2, v1.1, v1.snd.1, v1.snd.snd.1, v1.snd.snd.snd.1, v1.snd.snd.snd.snd.1)
theorem S.f44eq : ∀ x, runFn S.C S.f44Γ S.f44sig S.f44ann Go.Proofs.Try.f44 x = S.f44F x := by
  intro x
  kernel_rfl
noncomputable def S.f44con : Con := ⟨44, S.f44sig, S.f44F⟩
theorem S.f44ok : Con.Ok Go.Proofs.Try.prog S.C S.f44con :=
  runFn_ok (Γ := S.f44Γ) (an := S.f44ann) ⟨S.Cok, (fun _ h => nomatch h), S.mixed⟩ Go.Proofs.Try.func44 rfl rfl (fun x y h => (S.f44eq x).trans h) (by decide)
def S.f76sig : Sig := ⟨⟨[.hole (.int .i64), .ptr 0 0], [.cells [.hole (.sl (.st (.pair (.int .i64) (.pair (.sl (.st (.pair (.int .i64) (.int .i64)))) (.pair (.int .i64) (.int .i64))))))]]⟩, ⟨[.hole .bool], [.cells [.hole (.sl (.st (.pair (.int .i64) (.pair (.sl (.st (.pair (.int .i64) (.int .i64)))) (.pair (.int .i64) (.int .i64))))))]]⟩⟩
noncomputable def S.f76Γ : List Con := []
def S.f76ann : Ann :=
  (.seq .leaf (.seq .leaf .leaf))
/- ductus/sim.run$1 -/
noncomputable def S.f76F : Int × List (Int × List (Int × Int) × Int × Int) → Option (Bool × List (Int × List (Int × Int) × Int × Int)) :=
  fun (x : Int × List (Int × List (Int × Int) × Int × Int)) =>
  if (0 : Int) ≤ x.fst ∧ x.fst < (↑(List.length x.snd) : Int) then Option.some ((List.getD x.snd (Int.toNat x.fst) ((0 : Int), [], (0 : Int), (0 : Int))).fst == (0 : Int), x.2) else Option.none
theorem S.f76eq : ∀ x, runFn S.C S.f76Γ S.f76sig S.f76ann Go.Proofs.Try.f76 x = S.f76F x := by
  intro x
  kernel_rfl
noncomputable def S.f76con : Con := ⟨76, S.f76sig, S.f76F⟩
theorem S.f76ok : Con.Ok Go.Proofs.Try.prog S.C S.f76con :=
  runFn_ok (Γ := S.f76Γ) (an := S.f76ann) ⟨S.Cok, (fun _ h => nomatch h), S.mixed⟩ Go.Proofs.Try.func76 rfl rfl (fun x y h => (S.f76eq x).trans h) (by decide)
def S.s4sig : Sig := ⟨⟨[.hole (.sl (.int .i64)), .fnc 76 1, .ptr 0 0], [.cells [.hole (.sl (.st (.pair (.int .i64) (.pair (.sl (.st (.pair (.int .i64) (.int .i64)))) (.pair (.int .i64) (.int .i64))))))]]⟩, ⟨[.hole (.int .i64)], [.cells [.hole (.sl (.st (.pair (.int .i64) (.pair (.sl (.st (.pair (.int .i64) (.int .i64)))) (.pair (.int .i64) (.int .i64))))))]]⟩⟩
noncomputable def S.s4Γ : List Con := [S.f76con]
def S.s4ann : Ann :=
  (.seq .leaf (.seq (.seq .leaf (.block (.loop ⟨.normal, [(8, .hole (.int .i64))], [.cells [.hole (.sl (.st (.pair (.int .i64) (.pair (.sl (.st (.pair (.int .i64) (.int .i64)))) (.pair (.int .i64) (.int .i64))))))]]⟩ [⟨(.exit 0), [], [.cells [.hole (.sl (.st (.pair (.int .i64) (.pair (.sl (.st (.pair (.int .i64) (.int .i64)))) (.pair (.int .i64) (.int .i64))))))]]⟩, ⟨.ret, [(4, .hole (.int .i64))], [.cells [.hole (.sl (.st (.pair (.int .i64) (.pair (.sl (.st (.pair (.int .i64) (.int .i64)))) (.pair (.int .i64) (.int .i64))))))]]⟩] (.seq .leaf (.seq (.cond .leaf .leaf) (.seq (.block (.seq .leaf (.seq .leaf (.cond (.seq .leaf .leaf) .leaf)))) .leaf)))))) (.seq .leaf .leaf)))
/- slices.IndexFunc[[]int,int] -/
noncomputable def S.s4F : List Int × List (Int × List (Int × Int) × Int × Int) → Option (Int × List (Int × List (Int × Int) × Int × Int)) :=
  fun (x : List Int × List (Int × List (Int × Int) × Int × Int)) =>
  Option.bind
    (Go.Sx.iter
      (fun (s1 : Int × List (Int × List (Int × Int) × Int × Int)) =>
        if Decidable.decide (s1.fst < (↑(List.length x.fst) : Int)) = Bool.true then
          if (0 : Int) ≤ s1.fst ∧ s1.fst < (↑(List.length x.fst) : Int) then
            Option.bind (Go.Sx.S.f76F (List.getD x.fst (Int.toNat s1.fst) (0 : Int), s1.2)) fun (v2 : Bool × List (Int × List (Int × Int) × Int × Int)) =>
              if v2.fst = Bool.true then Option.some (Sum.inr (Sum.inr (s1.1, v2.2))) else Option.some (Sum.inl (Go.IntKind.wrap Go.IntKind.i64 (s1.fst + (1 : Int)), v2.2))
          else Option.none
        else Option.some (Sum.inr (Sum.inl s1.2)))
      ((0 : Int), x.2))
    fun (v1 : List (Int × List (Int × Int) × Int × Int) ⊕ Int × List (Int × List (Int × Int) × Int × Int)) =>
    Sum.elim (fun (p2 : List (Int × List (Int × Int) × Int × Int)) => Option.some ((-1 : Int), p2)) (fun (q2 : Int × List (Int × List (Int × Int) × Int × Int)) => Option.some (q2.1, q2.2)) v1
theorem S.s4eq : ∀ x, runFn S.C S.s4Γ S.s4sig S.s4ann Go.Proofs.Try.f102 x = S.s4F x := by
  intro x
  kernel_rfl
noncomputable def S.s4con : Con := ⟨102, S.s4sig, S.s4F⟩
theorem S.s4ok : Con.Ok Go.Proofs.Try.prog S.C S.s4con :=
  runFn_ok (Γ := S.s4Γ) (an := S.s4ann) ⟨S.Cok, (List.forall_mem_cons.2 ⟨S.f76ok, (fun _ h => nomatch h)⟩), S.mixed⟩ Go.Proofs.Try.func102 rfl rfl (fun x y h => (S.s4eq x).trans h) (by decide)
def S.s5sig : Sig := ⟨⟨[.hole (.sl (.int .i64)), .fnc 76 1, .ptr 0 0], [.cells [.hole (.sl (.st (.pair (.int .i64) (.pair (.sl (.st (.pair (.int .i64) (.int .i64)))) (.pair (.int .i64) (.int .i64))))))]]⟩, ⟨[.hole .bool], [.cells [.hole (.sl (.st (.pair (.int .i64) (.pair (.sl (.st (.pair (.int .i64) (.int .i64)))) (.pair (.int .i64) (.int .i64))))))]]⟩⟩
noncomputable def S.s5Γ : List Con := [S.s4con, S.f76con]
def S.s5ann : Ann :=
  (.seq .leaf (.seq .leaf .leaf))
/- slices.ContainsFunc[[]int,int] -/
noncomputable def S.s5F : List Int × List (Int × List (Int × Int) × Int × Int) → Option (Bool × List (Int × List (Int × Int) × Int × Int)) :=
  fun (x : List Int × List (Int × List (Int × Int) × Int × Int)) =>
  Option.bind (Go.Sx.S.s4F (x.1, x.2)) fun (v1 : Int × List (Int × List (Int × Int) × Int × Int)) => Option.some (Decidable.decide (v1.fst ≥ (0 : Int)), v1.2)
theorem S.s5eq : ∀ x, runFn S.C S.s5Γ S.s5sig S.s5ann Go.Proofs.Try.f77 x = S.s5F x := by
  intro x
  kernel_rfl
noncomputable def S.s5con : Con := ⟨77, S.s5sig, S.s5F⟩
theorem S.s5ok : Con.Ok Go.Proofs.Try.prog S.C S.s5con :=
  runFn_ok (Γ := S.s5Γ) (an := S.s5ann) ⟨S.Cok, (List.forall_mem_cons.2 ⟨S.s4ok, (List.forall_mem_cons.2 ⟨S.f76ok, (fun _ h => nomatch h)⟩)⟩), S.mixed⟩ Go.Proofs.Try.func77 rfl rfl (fun x y h => (S.s5eq x).trans h) (by decide)
def S.f99sig : Sig := ⟨⟨[.hole (.st (.pair (.int .i64) (.int .i64))), .ptr 0 0], [.cells [.hole (.int .i64)]]⟩, ⟨[.hole .bool], [.cells [.hole (.int .i64)]]⟩⟩
noncomputable def S.f99Γ : List Con := []
def S.f99ann : Ann :=
  (.seq .leaf (.seq .leaf .leaf))
/- ductus/tree.Has$1 -/
noncomputable def S.f99F : (Int × Int) × Int → Option (Bool × Int) :=
  fun (x : (Int × Int) × Int) => if Decidable.decide (x.fst.fst ≤ x.snd) = Bool.true then Option.some (Decidable.decide (x.snd ≤ x.fst.snd), x.2) else Option.some (Bool.false, x.2)
theorem S.f99eq : ∀ x, runFn S.C S.f99Γ S.f99sig S.f99ann Go.Proofs.Try.f99 x = S.f99F x := by
  intro x
  kernel_rfl
noncomputable def S.f99con : Con := ⟨99, S.f99sig, S.f99F⟩
theorem S.f99ok : Con.Ok Go.Proofs.Try.prog S.C S.f99con :=
  runFn_ok (Γ := S.f99Γ) (an := S.f99ann) ⟨S.Cok, (fun _ h => nomatch h), S.mixed⟩ Go.Proofs.Try.func99 rfl rfl (fun x y h => (S.f99eq x).trans h) (by decide)
def S.s2sig : Sig := ⟨⟨[.hole (.sl (.st (.pair (.int .i64) (.int .i64)))), .fnc 99 1, .ptr 0 0], [.cells [.hole (.int .i64)]]⟩, ⟨[.hole (.int .i64)], [.cells [.hole (.int .i64)]]⟩⟩
noncomputable def S.s2Γ : List Con := [S.f99con]
def S.s2ann : Ann :=
  (.seq .leaf (.seq (.seq .leaf (.block (.loop ⟨.normal, [(8, .hole (.int .i64))], [.cells [.hole (.int .i64)]]⟩ [⟨(.exit 0), [], [.cells [.hole (.int .i64)]]⟩, ⟨.ret, [(4, .hole (.int .i64))], [.cells [.hole (.int .i64)]]⟩] (.seq .leaf (.seq (.cond .leaf .leaf) (.seq (.block (.seq .leaf (.seq .leaf (.cond (.seq .leaf .leaf) .leaf)))) .leaf)))))) (.seq .leaf .leaf)))
/- slices.IndexFunc[[]ductus/api.Range,ductus/api.Range] -/
noncomputable def S.s2F : List (Int × Int) × Int → Option (Int × Int) :=
  fun (x : List (Int × Int) × Int) =>
  Option.bind
    (Go.Sx.iter
      (fun (s1 : Int × Int) =>
        if Decidable.decide (s1.fst < (↑(List.length x.fst) : Int)) = Bool.true then
          if (0 : Int) ≤ s1.fst ∧ s1.fst < (↑(List.length x.fst) : Int) then
            Option.bind (Go.Sx.S.f99F (List.getD x.fst (Int.toNat s1.fst) ((0 : Int), (0 : Int)), s1.2)) fun (v2 : Bool × Int) =>
              if v2.fst = Bool.true then Option.some (Sum.inr (Sum.inr (s1.1, v2.2))) else Option.some (Sum.inl (Go.IntKind.wrap Go.IntKind.i64 (s1.fst + (1 : Int)), v2.2))
          else Option.none
        else Option.some (Sum.inr (Sum.inl s1.2)))
      ((0 : Int), x.2))
    fun (v1 : Int ⊕ Int × Int) => Sum.elim (fun (p2 : Int) => Option.some ((-1 : Int), p2)) (fun (q2 : Int × Int) => Option.some (q2.1, q2.2)) v1
theorem S.s2eq : ∀ x, runFn S.C S.s2Γ S.s2sig S.s2ann Go.Proofs.Try.f109 x = S.s2F x := by
  intro x
  kernel_rfl
noncomputable def S.s2con : Con := ⟨109, S.s2sig, S.s2F⟩
theorem S.s2ok : Con.Ok Go.Proofs.Try.prog S.C S.s2con :=
  runFn_ok (Γ := S.s2Γ) (an := S.s2ann) ⟨S.Cok, (List.forall_mem_cons.2 ⟨S.f99ok, (fun _ h => nomatch h)⟩), S.mixed⟩ Go.Proofs.Try.func109 rfl rfl (fun x y h => (S.s2eq x).trans h) (by decide)
def S.s3sig : Sig := ⟨⟨[.hole (.sl (.st (.pair (.int .i64) (.int .i64)))), .fnc 99 1, .ptr 0 0], [.cells [.hole (.int .i64)]]⟩, ⟨[.hole .bool], [.cells [.hole (.int .i64)]]⟩⟩
noncomputable def S.s3Γ : List Con := [S.s2con, S.f99con]
def S.s3ann : Ann :=
  (.seq .leaf (.seq .leaf .leaf))
/- slices.ContainsFunc[[]ductus/api.Range,ductus/api.Range] -/
noncomputable def S.s3F : List (Int × Int) × Int → Option (Bool × Int) :=
  fun (x : List (Int × Int) × Int) => Option.bind (Go.Sx.S.s2F (x.1, x.2)) fun (v1 : Int × Int) => Option.some (Decidable.decide (v1.fst ≥ (0 : Int)), v1.2)
theorem S.s3eq : ∀ x, runFn S.C S.s3Γ S.s3sig S.s3ann Go.Proofs.Try.f98 x = S.s3F x := by
  intro x
  kernel_rfl
noncomputable def S.s3con : Con := ⟨98, S.s3sig, S.s3F⟩
theorem S.s3ok : Con.Ok Go.Proofs.Try.prog S.C S.s3con :=
  runFn_ok (Γ := S.s3Γ) (an := S.s3ann) ⟨S.Cok, (List.forall_mem_cons.2 ⟨S.s2ok, (List.forall_mem_cons.2 ⟨S.f99ok, (fun _ h => nomatch h)⟩)⟩), S.mixed⟩ Go.Proofs.Try.func98 rfl rfl (fun x y h => (S.s3eq x).trans h) (by decide)
def S.f73sig : Sig := ⟨⟨[.hole (.sl (.st (.pair (.int .i64) (.int .i64)))), .hole (.int .i64)], []⟩, ⟨[.hole .bool], []⟩⟩
noncomputable def S.f73Γ : List Con := [S.s3con]
def S.f73ann : Ann :=
  (.seq .leaf (.seq .leaf .leaf))
/- ductus/tree.Has -/
noncomputable def S.f73F : List (Int × Int) × Int → Option (Bool) :=
  fun (x : List (Int × Int) × Int) => Option.bind (Go.Sx.S.s3F (x.1, x.2)) fun (v1 : Bool × Int) => Option.some v1.1
theorem S.f73eq : ∀ x, runFn S.C S.f73Γ S.f73sig S.f73ann Go.Proofs.Try.f73 x = S.f73F x := by
  intro x
  kernel_rfl
noncomputable def S.f73con : Con := ⟨73, S.f73sig, S.f73F⟩
theorem S.f73ok : Con.Ok Go.Proofs.Try.prog S.C S.f73con :=
  runFn_ok (Γ := S.f73Γ) (an := S.f73ann) ⟨S.Cok, (List.forall_mem_cons.2 ⟨S.s3ok, (fun _ h => nomatch h)⟩), S.mixed⟩ Go.Proofs.Try.func73 rfl rfl (fun x y h => (S.f73eq x).trans h) (by decide)
def S.f118sig : Sig := ⟨⟨[.hole (.int .u32)], []⟩, ⟨[.hole (.int .i64)], []⟩⟩
noncomputable def S.f118Γ : List Con := []
def S.f118ann : Ann :=
  (.seq .leaf (.seq (.join [⟨.normal, [(0, .hole (.int .u32)), (2, .hole (.int .i64))], []⟩] (.seq .leaf (.cond (.seq .leaf .leaf) .leaf))) (.seq (.join [⟨.normal, [(0, .hole (.int .u32)), (2, .hole (.int .i64))], []⟩] (.seq .leaf (.cond (.seq .leaf .leaf) .leaf))) (.seq .leaf .leaf))))
/- math/bits.Len32 -/
noncomputable def S.f118F : Int → Option (Int) :=
  fun (x : Int) =>
  Option.bind
    (if Decidable.decide (x ≥ (65536 : Int)) = Bool.true then Option.some (Int.fdiv x ((2 : Int) ^ Min.min (Int.toNat (16 : Int)) (Go.IntKind.bits Go.IntKind.u32)), (16 : Int))
    else Option.some (x, (0 : Int)))
    fun (v1 : Int × Int) =>
    Option.bind
      (if Decidable.decide (v1.fst ≥ (256 : Int)) = Bool.true then
        Option.some (Int.fdiv v1.fst ((2 : Int) ^ Min.min (Int.toNat (8 : Int)) (Go.IntKind.bits Go.IntKind.u32)), Go.IntKind.wrap Go.IntKind.i64 (v1.snd + (8 : Int)))
      else Option.some (v1.1, v1.2))
      fun (v2 : Int × Int) =>
      if
          (0 : Int) ≤ Go.IntKind.wrap Go.IntKind.u8 v2.fst ∧
            Go.IntKind.wrap Go.IntKind.u8 v2.fst <
              (↑(ByteArray.size
                    {
                      data :=
                        List.toArray
                          (List.append
                            (List.append
                              [(0 : UInt8), (1 : UInt8), (2 : UInt8), (2 : UInt8), (3 : UInt8), (3 : UInt8), (3 : UInt8), (3 : UInt8), (4 : UInt8), (4 : UInt8), (4 : UInt8), (4 : UInt8), (4 : UInt8),
                                (4 : UInt8), (4 : UInt8), (4 : UInt8), (5 : UInt8), (5 : UInt8), (5 : UInt8), (5 : UInt8), (5 : UInt8), (5 : UInt8), (5 : UInt8), (5 : UInt8), (5 : UInt8), (5 : UInt8),
                                (5 : UInt8), (5 : UInt8), (5 : UInt8), (5 : UInt8), (5 : UInt8), (5 : UInt8), (6 : UInt8), (6 : UInt8), (6 : UInt8), (6 : UInt8), (6 : UInt8), (6 : UInt8), (6 : UInt8),
                                (6 : UInt8), (6 : UInt8), (6 : UInt8), (6 : UInt8), (6 : UInt8), (6 : UInt8), (6 : UInt8), (6 : UInt8), (6 : UInt8), (6 : UInt8), (6 : UInt8), (6 : UInt8), (6 : UInt8),
                                (6 : UInt8), (6 : UInt8), (6 : UInt8), (6 : UInt8), (6 : UInt8), (6 : UInt8), (6 : UInt8), (6 : UInt8), (6 : UInt8), (6 : UInt8), (6 : UInt8), (6 : UInt8)]
                              [(7 : UInt8), (7 : UInt8), (7 : UInt8), (7 : UInt8), (7 : UInt8), (7 : UInt8), (7 : UInt8), (7 : UInt8), (7 : UInt8), (7 : UInt8), (7 : UInt8), (7 : UInt8), (7 : UInt8),
                                (7 : UInt8), (7 : UInt8), (7 : UInt8), (7 : UInt8), (7 : UInt8), (7 : UInt8), (7 : UInt8), (7 : UInt8), (7 : UInt8), (7 : UInt8), (7 : UInt8), (7 : UInt8), (7 : UInt8),
                                (7 : UInt8), (7 : UInt8), (7 : UInt8), (7 : UInt8), (7 : UInt8), (7 : UInt8), (7 : UInt8), (7 : UInt8), (7 : UInt8), (7 : UInt8), (7 : UInt8), (7 : UInt8), (7 : UInt8),
                                (7 : UInt8), (7 : UInt8), (7 : UInt8), (7 : UInt8), (7 : UInt8), (7 : UInt8), (7 : UInt8), (7 : UInt8), (7 : UInt8), (7 : UInt8), (7 : UInt8), (7 : UInt8), (7 : UInt8),
                                (7 : UInt8), (7 : UInt8), (7 : UInt8), (7 : UInt8), (7 : UInt8), (7 : UInt8), (7 : UInt8), (7 : UInt8), (7 : UInt8), (7 : UInt8), (7 : UInt8), (7 : UInt8)])
                            (List.append
                              [(8 : UInt8), (8 : UInt8), (8 : UInt8), (8 : UInt8), (8 : UInt8), (8 : UInt8), (8 : UInt8), (8 : UInt8), (8 : UInt8), (8 : UInt8), (8 : UInt8), (8 : UInt8), (8 : UInt8),
                                (8 : UInt8), (8 : UInt8), (8 : UInt8), (8 : UInt8), (8 : UInt8), (8 : UInt8), (8 : UInt8), (8 : UInt8), (8 : UInt8), (8 : UInt8), (8 : UInt8), (8 : UInt8), (8 : UInt8),
                                (8 : UInt8), (8 : UInt8), (8 : UInt8), (8 : UInt8), (8 : UInt8), (8 : UInt8), (8 : UInt8), (8 : UInt8), (8 : UInt8), (8 : UInt8), (8 : UInt8), (8 : UInt8), (8 : UInt8),
                                (8 : UInt8), (8 : UInt8), (8 : UInt8), (8 : UInt8), (8 : UInt8), (8 : UInt8), (8 : UInt8), (8 : UInt8), (8 : UInt8), (8 : UInt8), (8 : UInt8), (8 : UInt8), (8 : UInt8),
                                (8 : UInt8), (8 : UInt8), (8 : UInt8), (8 : UInt8), (8 : UInt8), (8 : UInt8), (8 : UInt8), (8 : UInt8), (8 : UInt8), (8 : UInt8), (8 : UInt8), (8 : UInt8)]
                              [(8 : UInt8), (8 : UInt8), (8 : UInt8), (8 : UInt8), (8 : UInt8), (8 : UInt8), (8 : UInt8), (8 : UInt8), (8 : UInt8), (8 : UInt8), (8 : UInt8), (8 : UInt8), (8 : UInt8),
                                (8 : UInt8), (8 : UInt8), (8 : UInt8), (8 : UInt8), (8 : UInt8), (8 : UInt8), (8 : UInt8), (8 : UInt8), (8 : UInt8), (8 : UInt8), (8 : UInt8), (8 : UInt8), (8 : UInt8),
                                (8 : UInt8), (8 : UInt8), (8 : UInt8), (8 : UInt8), (8 : UInt8), (8 : UInt8), (8 : UInt8), (8 : UInt8), (8 : UInt8), (8 : UInt8), (8 : UInt8), (8 : UInt8), (8 : UInt8),
                                (8 : UInt8), (8 : UInt8), (8 : UInt8), (8 : UInt8), (8 : UInt8), (8 : UInt8), (8 : UInt8), (8 : UInt8), (8 : UInt8), (8 : UInt8), (8 : UInt8), (8 : UInt8), (8 : UInt8),
                                (8 : UInt8), (8 : UInt8), (8 : UInt8), (8 : UInt8), (8 : UInt8), (8 : UInt8), (8 : UInt8), (8 : UInt8), (8 : UInt8), (8 : UInt8), (8 : UInt8), (8 : UInt8)])) :
                      ByteArray }) :
                Int) then
        Option.some
          (Go.IntKind.wrap Go.IntKind.i64
            (v2.snd +
              Go.IntKind.wrap Go.IntKind.i64
                (↑(UInt8.toNat
                      (List.getD
                        {
                              data :=
                                List.toArray
                                  (List.append
                                    (List.append
                                      [(0 : UInt8), (1 : UInt8), (2 : UInt8), (2 : UInt8), (3 : UInt8), (3 : UInt8), (3 : UInt8), (3 : UInt8), (4 : UInt8), (4 : UInt8), (4 : UInt8), (4 : UInt8),
                                        (4 : UInt8), (4 : UInt8), (4 : UInt8), (4 : UInt8), (5 : UInt8), (5 : UInt8), (5 : UInt8), (5 : UInt8), (5 : UInt8), (5 : UInt8), (5 : UInt8), (5 : UInt8),
                                        (5 : UInt8), (5 : UInt8), (5 : UInt8), (5 : UInt8), (5 : UInt8), (5 : UInt8), (5 : UInt8), (5 : UInt8), (6 : UInt8), (6 : UInt8), (6 : UInt8), (6 : UInt8),
                                        (6 : UInt8), (6 : UInt8), (6 : UInt8), (6 : UInt8), (6 : UInt8), (6 : UInt8), (6 : UInt8), (6 : UInt8), (6 : UInt8), (6 : UInt8), (6 : UInt8), (6 : UInt8),
                                        (6 : UInt8), (6 : UInt8), (6 : UInt8), (6 : UInt8), (6 : UInt8), (6 : UInt8), (6 : UInt8), (6 : UInt8), (6 : UInt8), (6 : UInt8), (6 : UInt8), (6 : UInt8),
                                        (6 : UInt8), (6 : UInt8), (6 : UInt8), (6 : UInt8)]
                                      [(7 : UInt8), (7 : UInt8), (7 : UInt8), (7 : UInt8), (7 : UInt8), (7 : UInt8), (7 : UInt8), (7 : UInt8), (7 : UInt8), (7 : UInt8), (7 : UInt8), (7 : UInt8),
                                        (7 : UInt8), (7 : UInt8), (7 : UInt8), (7 : UInt8), (7 : UInt8), (7 : UInt8), (7 : UInt8), (7 : UInt8), (7 : UInt8), (7 : UInt8), (7 : UInt8), (7 : UInt8),
                                        (7 : UInt8), (7 : UInt8), (7 : UInt8), (7 : UInt8), (7 : UInt8), (7 : UInt8), (7 : UInt8), (7 : UInt8), (7 : UInt8), (7 : UInt8), (7 : UInt8), (7 : UInt8),
                                        (7 : UInt8), (7 : UInt8), (7 : UInt8), (7 : UInt8), (7 : UInt8), (7 : UInt8), (7 : UInt8), (7 : UInt8), (7 : UInt8), (7 : UInt8), (7 : UInt8), (7 : UInt8),
                                        (7 : UInt8), (7 : UInt8), (7 : UInt8), (7 : UInt8), (7 : UInt8), (7 : UInt8), (7 : UInt8), (7 : UInt8), (7 : UInt8), (7 : UInt8), (7 : UInt8), (7 : UInt8),
                                        (7 : UInt8), (7 : UInt8), (7 : UInt8), (7 : UInt8)])
                                    (List.append
                                      [(8 : UInt8), (8 : UInt8), (8 : UInt8), (8 : UInt8), (8 : UInt8), (8 : UInt8), (8 : UInt8), (8 : UInt8), (8 : UInt8), (8 : UInt8), (8 : UInt8), (8 : UInt8),
                                        (8 : UInt8), (8 : UInt8), (8 : UInt8), (8 : UInt8), (8 : UInt8), (8 : UInt8), (8 : UInt8), (8 : UInt8), (8 : UInt8), (8 : UInt8), (8 : UInt8), (8 : UInt8),
                                        (8 : UInt8), (8 : UInt8), (8 : UInt8), (8 : UInt8), (8 : UInt8), (8 : UInt8), (8 : UInt8), (8 : UInt8), (8 : UInt8), (8 : UInt8), (8 : UInt8), (8 : UInt8),
                                        (8 : UInt8), (8 : UInt8), (8 : UInt8), (8 : UInt8), (8 : UInt8), (8 : UInt8), (8 : UInt8), (8 : UInt8), (8 : UInt8), (8 : UInt8), (8 : UInt8), (8 : UInt8),
                                        (8 : UInt8), (8 : UInt8), (8 : UInt8), (8 : UInt8), (8 : UInt8), (8 : UInt8), (8 : UInt8), (8 : UInt8), (8 : UInt8), (8 : UInt8), (8 : UInt8), (8 : UInt8),
                                        (8 : UInt8), (8 : UInt8), (8 : UInt8), (8 : UInt8)]
                                      [(8 : UInt8), (8 : UInt8), (8 : UInt8), (8 : UInt8), (8 : UInt8), (8 : UInt8), (8 : UInt8), (8 : UInt8), (8 : UInt8), (8 : UInt8), (8 : UInt8), (8 : UInt8),
                                        (8 : UInt8), (8 : UInt8), (8 : UInt8), (8 : UInt8), (8 : UInt8), (8 : UInt8), (8 : UInt8), (8 : UInt8), (8 : UInt8), (8 : UInt8), (8 : UInt8), (8 : UInt8),
                                        (8 : UInt8), (8 : UInt8), (8 : UInt8), (8 : UInt8), (8 : UInt8), (8 : UInt8), (8 : UInt8), (8 : UInt8), (8 : UInt8), (8 : UInt8), (8 : UInt8), (8 : UInt8),
                                        (8 : UInt8), (8 : UInt8), (8 : UInt8), (8 : UInt8), (8 : UInt8), (8 : UInt8), (8 : UInt8), (8 : UInt8), (8 : UInt8), (8 : UInt8), (8 : UInt8), (8 : UInt8),
                                        (8 : UInt8), (8 : UInt8), (8 : UInt8), (8 : UInt8), (8 : UInt8), (8 : UInt8), (8 : UInt8), (8 : UInt8), (8 : UInt8), (8 : UInt8), (8 : UInt8), (8 : UInt8),
                                        (8 : UInt8), (8 : UInt8), (8 : UInt8), (8 : UInt8)])) :
                              ByteArray }.data.toList
                        (Int.toNat (Go.IntKind.wrap Go.IntKind.u8 v2.fst)) (0 : UInt8))) :
                  Int)))
      else Option.none
theorem S.f118eq : ∀ x, runFn S.C S.f118Γ S.f118sig S.f118ann Go.Proofs.Try.f118 x = S.f118F x := by
  intro x
  kernel_rfl
noncomputable def S.f118con : Con := ⟨118, S.f118sig, S.f118F⟩
theorem S.f118ok : Con.Ok Go.Proofs.Try.prog S.C S.f118con :=
  runFn_ok (Γ := S.f118Γ) (an := S.f118ann) ⟨S.Cok, (fun _ h => nomatch h), S.mixed⟩ Go.Proofs.Try.func118 rfl rfl (fun x y h => (S.f118eq x).trans h) (by decide)
def S.f119sig : Sig := ⟨⟨[.hole (.int .u64)], []⟩, ⟨[.hole (.int .i64)], []⟩⟩
noncomputable def S.f119Γ : List Con := []
def S.f119ann : Ann :=
  (.seq .leaf (.seq (.join [⟨.normal, [(0, .hole (.int .u64)), (2, .hole (.int .i64))], []⟩] (.seq .leaf (.cond (.seq .leaf .leaf) .leaf))) (.seq (.join [⟨.normal, [(0, .hole (.int .u64)), (2, .hole (.int .i64))], []⟩] (.seq .leaf (.cond (.seq .leaf .leaf) .leaf))) (.seq (.join [⟨.normal, [(0, .hole (.int .u64)), (2, .hole (.int .i64))], []⟩] (.seq .leaf (.cond (.seq .leaf .leaf) .leaf))) (.seq .leaf .leaf)))))
/- math/bits.Len64 -/
noncomputable def S.f119F : Int → Option (Int) :=
  fun (x : Int) =>
  Option.bind
    (if Decidable.decide (x ≥ (4294967296 : Int)) = Bool.true then Option.some (Int.fdiv x ((2 : Int) ^ Min.min (Int.toNat (32 : Int)) (Go.IntKind.bits Go.IntKind.u64)), (32 : Int))
    else Option.some (x, (0 : Int)))
    fun (v1 : Int × Int) =>
    Option.bind
      (if Decidable.decide (v1.fst ≥ (65536 : Int)) = Bool.true then
        Option.some (Int.fdiv v1.fst ((2 : Int) ^ Min.min (Int.toNat (16 : Int)) (Go.IntKind.bits Go.IntKind.u64)), Go.IntKind.wrap Go.IntKind.i64 (v1.snd + (16 : Int)))
      else Option.some (v1.1, v1.2))
      fun (v2 : Int × Int) =>
      Option.bind
        (if Decidable.decide (v2.fst ≥ (256 : Int)) = Bool.true then
          Option.some (Int.fdiv v2.fst ((2 : Int) ^ Min.min (Int.toNat (8 : Int)) (Go.IntKind.bits Go.IntKind.u64)), Go.IntKind.wrap Go.IntKind.i64 (v2.snd + (8 : Int)))
        else Option.some (v2.1, v2.2))
        fun (v3 : Int × Int) =>
        if
            (0 : Int) ≤ Go.IntKind.wrap Go.IntKind.u8 v3.fst ∧
              Go.IntKind.wrap Go.IntKind.u8 v3.fst <
                (↑(ByteArray.size
                      {
                        data :=
                          List.toArray
                            (List.append
                              (List.append
                                [(0 : UInt8), (1 : UInt8), (2 : UInt8), (2 : UInt8), (3 : UInt8), (3 : UInt8), (3 : UInt8), (3 : UInt8), (4 : UInt8), (4 : UInt8), (4 : UInt8), (4 : UInt8),
                                  (4 : UInt8), (4 : UInt8), (4 : UInt8), (4 : UInt8), (5 : UInt8), (5 : UInt8), (5 : UInt8), (5 : UInt8), (5 : UInt8), (5 : UInt8), (5 : UInt8), (5 : UInt8),
                                  (5 : UInt8), (5 : UInt8), (5 : UInt8), (5 : UInt8), (5 : UInt8), (5 : UInt8), (5 : UInt8), (5 : UInt8), (6 : UInt8), (6 : UInt8), (6 : UInt8), (6 : UInt8),
                                  (6 : UInt8), (6 : UInt8), (6 : UInt8), (6 : UInt8), (6 : UInt8), (6 : UInt8), (6 : UInt8), (6 : UInt8), (6 : UInt8), (6 : UInt8), (6 : UInt8), (6 : UInt8),
                                  (6 : UInt8), (6 : UInt8), (6 : UInt8), (6 : UInt8), (6 : UInt8), (6 : UInt8), (6 : UInt8), (6 : UInt8), (6 : UInt8), (6 : UInt8), (6 : UInt8), (6 : UInt8),
                                  (6 : UInt8), (6 : UInt8), (6 : UInt8), (6 : UInt8)]
                                [(7 : UInt8), (7 : UInt8), (7 : UInt8), (7 : UInt8), (7 : UInt8), (7 : UInt8), (7 : UInt8), (7 : UInt8), (7 : UInt8), (7 : UInt8), (7 : UInt8), (7 : UInt8),
                                  (7 : UInt8), (7 : UInt8), (7 : UInt8), (7 : UInt8), (7 : UInt8), (7 : UInt8), (7 : UInt8), (7 : UInt8), (7 : UInt8), (7 : UInt8), (7 : UInt8), (7 : UInt8),
                                  (7 : UInt8), (7 : UInt8), (7 : UInt8), (7 : UInt8), (7 : UInt8), (7 : UInt8), (7 : UInt8), (7 : UInt8), (7 : UInt8), (7 : UInt8), (7 : UInt8), (7 : UInt8),
                                  (7 : UInt8), (7 : UInt8), (7 : UInt8), (7 : UInt8), (7 : UInt8), (7 : UInt8), (7 : UInt8), (7 : UInt8), (7 : UInt8), (7 : UInt8), (7 : UInt8), (7 : UInt8),
                                  (7 : UInt8), (7 : UInt8), (7 : UInt8), (7 : UInt8), (7 : UInt8), (7 : UInt8), (7 : UInt8), (7 : UInt8), (7 : UInt8), (7 : UInt8), (7 : UInt8), (7 : UInt8),
                                  (7 : UInt8), (7 : UInt8), (7 : UInt8), (7 : UInt8)])
                              (List.append
                                [(8 : UInt8), (8 : UInt8), (8 : UInt8), (8 : UInt8), (8 : UInt8), (8 : UInt8), (8 : UInt8), (8 : UInt8), (8 : UInt8), (8 : UInt8), (8 : UInt8), (8 : UInt8),
                                  (8 : UInt8), (8 : UInt8), (8 : UInt8), (8 : UInt8), (8 : UInt8), (8 : UInt8), (8 : UInt8), (8 : UInt8), (8 : UInt8), (8 : UInt8), (8 : UInt8), (8 : UInt8),
                                  (8 : UInt8), (8 : UInt8), (8 : UInt8), (8 : UInt8), (8 : UInt8), (8 : UInt8), (8 : UInt8), (8 : UInt8), (8 : UInt8), (8 : UInt8), (8 : UInt8), (8 : UInt8),
                                  (8 : UInt8), (8 : UInt8), (8 : UInt8), (8 : UInt8), (8 : UInt8), (8 : UInt8), (8 : UInt8), (8 : UInt8), (8 : UInt8), (8 : UInt8), (8 : UInt8), (8 : UInt8),
                                  (8 : UInt8), (8 : UInt8), (8 : UInt8), (8 : UInt8), (8 : UInt8), (8 : UInt8), (8 : UInt8), (8 : UInt8), (8 : UInt8), (8 : UInt8), (8 : UInt8), (8 : UInt8),
                                  (8 : UInt8), (8 : UInt8), (8 : UInt8), (8 : UInt8)]
                                [(8 : UInt8), (8 : UInt8), (8 : UInt8), (8 : UInt8), (8 : UInt8), (8 : UInt8), (8 : UInt8), (8 : UInt8), (8 : UInt8), (8 : UInt8), (8 : UInt8), (8 : UInt8),
                                  (8 : UInt8), (8 : UInt8), (8 : UInt8), (8 : UInt8), (8 : UInt8), (8 : UInt8), (8 : UInt8), (8 : UInt8), (8 : UInt8), (8 : UInt8), (8 : UInt8), (8 : UInt8),
                                  (8 : UInt8), (8 : UInt8), (8 : UInt8), (8 : UInt8), (8 : UInt8), (8 : UInt8), (8 : UInt8), (8 : UInt8), (8 : UInt8), (8 : UInt8), (8 : UInt8), (8 : UInt8),
                                  (8 : UInt8), (8 : UInt8), (8 : UInt8), (8 : UInt8), (8 : UInt8), (8 : UInt8), (8 : UInt8), (8 : UInt8), (8 : UInt8), (8 : UInt8), (8 : UInt8), (8 : UInt8),
                                  (8 : UInt8), (8 : UInt8), (8 : UInt8), (8 : UInt8), (8 : UInt8), (8 : UInt8), (8 : UInt8), (8 : UInt8), (8 : UInt8), (8 : UInt8), (8 : UInt8), (8 : UInt8),
                                  (8 : UInt8), (8 : UInt8), (8 : UInt8), (8 : UInt8)])) :
                        ByteArray }) :
                  Int) then
          Option.some
            (Go.IntKind.wrap Go.IntKind.i64
              (v3.snd +
                Go.IntKind.wrap Go.IntKind.i64
                  (↑(UInt8.toNat
                        (List.getD
                          {
                                data :=
                                  List.toArray
                                    (List.append
                                      (List.append
                                        [(0 : UInt8), (1 : UInt8), (2 : UInt8), (2 : UInt8), (3 : UInt8), (3 : UInt8), (3 : UInt8), (3 : UInt8), (4 : UInt8), (4 : UInt8), (4 : UInt8), (4 : UInt8),
                                          (4 : UInt8), (4 : UInt8), (4 : UInt8), (4 : UInt8), (5 : UInt8), (5 : UInt8), (5 : UInt8), (5 : UInt8), (5 : UInt8), (5 : UInt8), (5 : UInt8), (5 : UInt8),
                                          (5 : UInt8), (5 : UInt8), (5 : UInt8), (5 : UInt8), (5 : UInt8), (5 : UInt8), (5 : UInt8), (5 : UInt8), (6 : UInt8), (6 : UInt8), (6 : UInt8), (6 : UInt8),
                                          (6 : UInt8), (6 : UInt8), (6 : UInt8), (6 : UInt8), (6 : UInt8), (6 : UInt8), (6 : UInt8), (6 : UInt8), (6 : UInt8), (6 : UInt8), (6 : UInt8), (6 : UInt8),
                                          (6 : UInt8), (6 : UInt8), (6 : UInt8), (6 : UInt8), (6 : UInt8), (6 : UInt8), (6 : UInt8), (6 : UInt8), (6 : UInt8), (6 : UInt8), (6 : UInt8), (6 : UInt8),
                                          (6 : UInt8), (6 : UInt8), (6 : UInt8), (6 : UInt8)]
                                        [(7 : UInt8), (7 : UInt8), (7 : UInt8), (7 : UInt8), (7 : UInt8), (7 : UInt8), (7 : UInt8), (7 : UInt8), (7 : UInt8), (7 : UInt8), (7 : UInt8), (7 : UInt8),
                                          (7 : UInt8), (7 : UInt8), (7 : UInt8), (7 : UInt8), (7 : UInt8), (7 : UInt8), (7 : UInt8), (7 : UInt8), (7 : UInt8), (7 : UInt8), (7 : UInt8), (7 : UInt8),
                                          (7 : UInt8), (7 : UInt8), (7 : UInt8), (7 : UInt8), (7 : UInt8), (7 : UInt8), (7 : UInt8), (7 : UInt8), (7 : UInt8), (7 : UInt8), (7 : UInt8), (7 : UInt8),
                                          (7 : UInt8), (7 : UInt8), (7 : UInt8), (7 : UInt8), (7 : UInt8), (7 : UInt8), (7 : UInt8), (7 : UInt8), (7 : UInt8), (7 : UInt8), (7 : UInt8), (7 : UInt8),
                                          (7 : UInt8), (7 : UInt8), (7 : UInt8), (7 : UInt8), (7 : UInt8), (7 : UInt8), (7 : UInt8), (7 : UInt8), (7 : UInt8), (7 : UInt8), (7 : UInt8), (7 : UInt8),
                                          (7 : UInt8), (7 : UInt8), (7 : UInt8), (7 : UInt8)])
                                      (List.append
                                        [(8 : UInt8), (8 : UInt8), (8 : UInt8), (8 : UInt8), (8 : UInt8), (8 : UInt8), (8 : UInt8), (8 : UInt8), (8 : UInt8), (8 : UInt8), (8 : UInt8), (8 : UInt8),
                                          (8 : UInt8), (8 : UInt8), (8 : UInt8), (8 : UInt8), (8 : UInt8), (8 : UInt8), (8 : UInt8), (8 : UInt8), (8 : UInt8), (8 : UInt8), (8 : UInt8), (8 : UInt8),
                                          (8 : UInt8), (8 : UInt8), (8 : UInt8), (8 : UInt8), (8 : UInt8), (8 : UInt8), (8 : UInt8), (8 : UInt8), (8 : UInt8), (8 : UInt8), (8 : UInt8), (8 : UInt8),
                                          (8 : UInt8), (8 : UInt8), (8 : UInt8), (8 : UInt8), (8 : UInt8), (8 : UInt8), (8 : UInt8), (8 : UInt8), (8 : UInt8), (8 : UInt8), (8 : UInt8), (8 : UInt8),
                                          (8 : UInt8), (8 : UInt8), (8 : UInt8), (8 : UInt8), (8 : UInt8), (8 : UInt8), (8 : UInt8), (8 : UInt8), (8 : UInt8), (8 : UInt8), (8 : UInt8), (8 : UInt8),
                                          (8 : UInt8), (8 : UInt8), (8 : UInt8), (8 : UInt8)]
                                        [(8 : UInt8), (8 : UInt8), (8 : UInt8), (8 : UInt8), (8 : UInt8), (8 : UInt8), (8 : UInt8), (8 : UInt8), (8 : UInt8), (8 : UInt8), (8 : UInt8), (8 : UInt8),
                                          (8 : UInt8), (8 : UInt8), (8 : UInt8), (8 : UInt8), (8 : UInt8), (8 : UInt8), (8 : UInt8), (8 : UInt8), (8 : UInt8), (8 : UInt8), (8 : UInt8), (8 : UInt8),
                                          (8 : UInt8), (8 : UInt8), (8 : UInt8), (8 : UInt8), (8 : UInt8), (8 : UInt8), (8 : UInt8), (8 : UInt8), (8 : UInt8), (8 : UInt8), (8 : UInt8), (8 : UInt8),
                                          (8 : UInt8), (8 : UInt8), (8 : UInt8), (8 : UInt8), (8 : UInt8), (8 : UInt8), (8 : UInt8), (8 : UInt8), (8 : UInt8), (8 : UInt8), (8 : UInt8), (8 : UInt8),
                                          (8 : UInt8), (8 : UInt8), (8 : UInt8), (8 : UInt8), (8 : UInt8), (8 : UInt8), (8 : UInt8), (8 : UInt8), (8 : UInt8), (8 : UInt8), (8 : UInt8), (8 : UInt8),
                                          (8 : UInt8), (8 : UInt8), (8 : UInt8), (8 : UInt8)])) :
                                ByteArray }.data.toList
                          (Int.toNat (Go.IntKind.wrap Go.IntKind.u8 v3.fst)) (0 : UInt8))) :
                    Int)))
        else Option.none
theorem S.f119eq : ∀ x, runFn S.C S.f119Γ S.f119sig S.f119ann Go.Proofs.Try.f119 x = S.f119F x := by
  intro x
  kernel_rfl
noncomputable def S.f119con : Con := ⟨119, S.f119sig, S.f119F⟩
theorem S.f119ok : Con.Ok Go.Proofs.Try.prog S.C S.f119con :=
  runFn_ok (Γ := S.f119Γ) (an := S.f119ann) ⟨S.Cok, (fun _ h => nomatch h), S.mixed⟩ Go.Proofs.Try.func119 rfl rfl (fun x y h => (S.f119eq x).trans h) (by decide)
def S.f101sig : Sig := ⟨⟨[.hole (.int .u64)], []⟩, ⟨[.hole (.int .i64)], []⟩⟩
noncomputable def S.f101Γ : List Con := [S.f118con, S.f119con]
def S.f101ann : Ann :=
  (.seq .leaf (.seq (.cond .leaf .leaf) (.seq .leaf .leaf)))
/- math/bits.Len -/
noncomputable def S.f101F : Int → Option (Int) :=
  fun (x : Int) => Option.bind (Go.Sx.S.f119F x) fun (v1 : Int) => Option.some v1
theorem S.f101eq : ∀ x, runFn S.C S.f101Γ S.f101sig S.f101ann Go.Proofs.Try.f101 x = S.f101F x := by
  intro x
  kernel_rfl
noncomputable def S.f101con : Con := ⟨101, S.f101sig, S.f101F⟩
theorem S.f101ok : Con.Ok Go.Proofs.Try.prog S.C S.f101con :=
  runFn_ok (Γ := S.f101Γ) (an := S.f101ann) ⟨S.Cok, (List.forall_mem_cons.2 ⟨S.f118ok, (List.forall_mem_cons.2 ⟨S.f119ok, (fun _ h => nomatch h)⟩)⟩), S.mixed⟩ Go.Proofs.Try.func101 rfl rfl (fun x y h => (S.f101eq x).trans h) (by decide)
def S.f120sig : Sig := ⟨⟨[.hole (.int .i64)], []⟩, ⟨[.hole .bool], []⟩⟩
noncomputable def S.f120Γ : List Con := []
def S.f120ann : Ann :=
  (.seq .leaf (.seq .leaf .leaf))
/- cmp.isNaN[int] -/
noncomputable def S.f120F : Int → Option (Bool) :=
  fun (x : Int) => Option.some (x != x)
theorem S.f120eq : ∀ x, runFn S.C S.f120Γ S.f120sig S.f120ann Go.Proofs.Try.f120 x = S.f120F x := by
  intro x
  kernel_rfl
noncomputable def S.f120con : Con := ⟨120, S.f120sig, S.f120F⟩
theorem S.f120ok : Con.Ok Go.Proofs.Try.prog S.C S.f120con :=
  runFn_ok (Γ := S.f120Γ) (an := S.f120ann) ⟨S.Cok, (fun _ h => nomatch h), S.mixed⟩ Go.Proofs.Try.func120 rfl rfl (fun x y h => (S.f120eq x).trans h) (by decide)
def S.f105sig : Sig := ⟨⟨[.hole (.int .i64), .hole (.int .i64)], []⟩, ⟨[.hole .bool], []⟩⟩
noncomputable def S.f105Γ : List Con := [S.f120con]
def S.f105ann : Ann :=
  (.seq .leaf (.seq .leaf .leaf))
/- cmp.Less[int] -/
noncomputable def S.f105F : Int × Int → Option (Bool) :=
  fun (x : Int × Int) =>
  Option.bind (Go.Sx.S.f120F x.1) fun (v1 : Bool) =>
    if v1 = Bool.true then Option.bind (Go.Sx.S.f120F x.2) fun (v2 : Bool) => if (!v2) = Bool.true then Option.some Bool.true else Option.some (Decidable.decide (x.fst < x.snd))
    else Option.some (Decidable.decide (x.fst < x.snd))
theorem S.f105eq : ∀ x, runFn S.C S.f105Γ S.f105sig S.f105ann Go.Proofs.Try.f105 x = S.f105F x := by
  intro x
  kernel_rfl
noncomputable def S.f105con : Con := ⟨105, S.f105sig, S.f105F⟩
theorem S.f105ok : Con.Ok Go.Proofs.Try.prog S.C S.f105con :=
  runFn_ok (Γ := S.f105Γ) (an := S.f105ann) ⟨S.Cok, (List.forall_mem_cons.2 ⟨S.f120ok, (fun _ h => nomatch h)⟩), S.mixed⟩ Go.Proofs.Try.func105 rfl rfl (fun x y h => (S.f105eq x).trans h) (by decide)
def S.f110sig : Sig := ⟨⟨[.own 0, .hole (.int .i64), .hole (.int .i64)], [.arr 3 (.int .i64)]⟩, ⟨[], [.arr 3 (.int .i64)]⟩⟩
noncomputable def S.f110Γ : List Con := [S.f105con]
def S.f110ann : Ann :=
  (.seq .leaf (.block (.loop ⟨.normal, [(6, .hole (.int .i64))], [.arr 3 (.int .i64)]⟩ [⟨(.exit 0), [], [.arr 3 (.int .i64)]⟩] (.seq (.seq .leaf (.cond .leaf .leaf)) (.seq (.block (.seq .leaf (.block (.loop ⟨.normal, [(7, .hole (.int .i64))], [.arr 3 (.int .i64)]⟩ [⟨(.exit 2), [], [.arr 3 (.int .i64)]⟩] (.seq (.seq (.join [⟨.normal, [(30, .hole .bool)], [.arr 3 (.int .i64)]⟩] .leaf) (.cond .leaf .leaf)) (.seq (.block (.eff 1 [] [0, 0, 0, 0, 8, 0, 0, 64, 224, 480, 0, 0, 3072, 7168, 16355, 32739, 65535, 131071])) .leaf)))))) .leaf)))))
/- slices.insertionSortOrdered[int] -/
noncomputable def S.f110F : Int × Int × List Int → Option (List Int) :=
  fun (x : Int × Int × List Int) =>
  Option.bind
    (Go.Sx.iter
      (fun (s1 : Int × List Int) =>
        if Decidable.decide (s1.fst < x.snd.fst) = Bool.true then
          Option.bind
            (Go.Sx.iter
              (fun (s2 : Int × List Int) =>
                Option.bind
                  (if Decidable.decide (s2.fst > x.fst) = Bool.true then
                    if (0 : Int) ≤ s2.fst ∧ s2.fst < (↑(List.length s2.snd) : Int) then
                      if (0 : Int) ≤ Go.IntKind.wrap Go.IntKind.i64 (s2.fst - (1 : Int)) ∧ Go.IntKind.wrap Go.IntKind.i64 (s2.fst - (1 : Int)) < (↑(List.length s2.snd) : Int) then
                        Option.bind (Go.Sx.S.f105F (List.getD s2.2 (Int.toNat s2.fst) (0 : Int), List.getD s2.2 (Int.toNat (Go.IntKind.wrap Go.IntKind.i64 (s2.fst - (1 : Int)))) (0 : Int)))
                          fun (v3 : Bool) => Option.some (v3, s2.2)
                      else Option.none
                    else Option.none
                  else Option.some (Bool.false, s2.2))
                  fun (v3 : Bool × List Int) =>
                  if v3.fst = Bool.true then
                    if (0 : Int) ≤ Go.IntKind.wrap Go.IntKind.i64 (s2.fst - (1 : Int)) ∧ Go.IntKind.wrap Go.IntKind.i64 (s2.fst - (1 : Int)) < (↑(List.length v3.snd) : Int) then
                      if (0 : Int) ≤ s2.fst ∧ s2.fst < (↑(List.length v3.snd) : Int) then
                        if (0 : Int) ≤ s2.fst ∧ s2.fst < (↑(List.length v3.snd) : Int) then
                          if
                              (0 : Int) ≤ Go.IntKind.wrap Go.IntKind.i64 (s2.fst - (1 : Int)) ∧
                                Go.IntKind.wrap Go.IntKind.i64 (s2.fst - (1 : Int)) <
                                  (↑(List.length (List.set v3.2 (Int.toNat s2.fst) (List.getD v3.2 (Int.toNat (Go.IntKind.wrap Go.IntKind.i64 (s2.fst - (1 : Int)))) (0 : Int)))) : Int) then
                            Option.some
                              (Sum.inl
                                (Go.IntKind.wrap Go.IntKind.i64 (s2.fst - (1 : Int)),
                                  List.set (List.set v3.2 (Int.toNat s2.fst) (List.getD v3.2 (Int.toNat (Go.IntKind.wrap Go.IntKind.i64 (s2.fst - (1 : Int)))) (0 : Int)))
                                    (Int.toNat (Go.IntKind.wrap Go.IntKind.i64 (s2.fst - (1 : Int)))) (List.getD v3.2 (Int.toNat s2.fst) (0 : Int))))
                          else Option.none
                        else Option.none
                      else Option.none
                    else Option.none
                  else Option.some (Sum.inr v3.2))
              (s1.1, s1.2))
            fun (v2 : List Int) => Option.some (Sum.inl (Go.IntKind.wrap Go.IntKind.i64 (s1.fst + (1 : Int)), v2))
        else Option.some (Sum.inr s1.2))
      (Go.IntKind.wrap Go.IntKind.i64 (x.fst + (1 : Int)), x.snd.2))
    fun (v1 : List Int) => Option.some v1
theorem S.f110eq : ∀ x, runFn S.C S.f110Γ S.f110sig S.f110ann Go.Proofs.Try.f110 x = S.f110F x := by
  intro x
  kernel_rfl
noncomputable def S.f110con : Con := ⟨110, S.f110sig, S.f110F⟩
theorem S.f110ok : Con.Ok Go.Proofs.Try.prog S.C S.f110con :=
  runFn_ok (Γ := S.f110Γ) (an := S.f110ann) ⟨S.Cok, (List.forall_mem_cons.2 ⟨S.f105ok, (fun _ h => nomatch h)⟩), S.mixed⟩ Go.Proofs.Try.func110 rfl rfl (fun x y h => (S.f110eq x).trans h) (by decide)
def S.f121sig : Sig := ⟨⟨[.own 0, .hole (.int .i64), .hole (.int .i64), .hole (.int .i64)], [.arr 3 (.int .i64)]⟩, ⟨[], [.arr 3 (.int .i64)]⟩⟩
noncomputable def S.f121Γ : List Con := [S.f105con]
def S.f121ann : Ann :=
  (.seq .leaf (.block (.loop ⟨.normal, [(8, .hole (.int .i64))], [.arr 3 (.int .i64)]⟩ [⟨(.exit 0), [], [.arr 3 (.int .i64)]⟩, ⟨.ret, [], [.arr 3 (.int .i64)]⟩] (.block (.seq .leaf (.seq (.seq .leaf (.cond .leaf .leaf)) (.seq (.join [⟨.normal, [(9, .hole (.int .i64))], [.arr 3 (.int .i64)]⟩] (.seq (.join [⟨.normal, [(36, .hole .bool)], [.arr 3 (.int .i64)]⟩] .leaf) (.cond .leaf .leaf))) (.seq (.seq .leaf (.cond .leaf .leaf)) (.seq (.eff 1 [] [0, 0, 0, 6, 0, 0, 0, 96, 0, 0, 0, 1536, 3840, 7936, 0, 0, 0, 98304, 245760, 507904, 1048335, 2096911, 4194303, 8388607]) .leaf)))))))))
/- slices.siftDownOrdered[int] -/
noncomputable def S.f121F : Int × Int × Int × List Int → Option (List Int) :=
  fun (x : Int × Int × Int × List Int) =>
  Option.bind
    (Go.Sx.iter
      (fun (s1 : Int × List Int) =>
        if Decidable.decide (Go.IntKind.wrap Go.IntKind.i64 (Go.IntKind.wrap Go.IntKind.i64 ((2 : Int) * s1.fst) + (1 : Int)) ≥ x.snd.fst) = Bool.true then Option.some (Sum.inr (Sum.inl s1.2))
        else
          Option.bind
            (Option.bind
              (if
                  Decidable.decide (Go.IntKind.wrap Go.IntKind.i64 (Go.IntKind.wrap Go.IntKind.i64 (Go.IntKind.wrap Go.IntKind.i64 ((2 : Int) * s1.fst) + (1 : Int)) + (1 : Int)) < x.snd.fst) =
                    Bool.true then
                if
                    (0 : Int) ≤ Go.IntKind.wrap Go.IntKind.i64 (x.snd.snd.fst + Go.IntKind.wrap Go.IntKind.i64 (Go.IntKind.wrap Go.IntKind.i64 ((2 : Int) * s1.fst) + (1 : Int))) ∧
                      Go.IntKind.wrap Go.IntKind.i64 (x.snd.snd.fst + Go.IntKind.wrap Go.IntKind.i64 (Go.IntKind.wrap Go.IntKind.i64 ((2 : Int) * s1.fst) + (1 : Int))) <
                        (↑(List.length s1.snd) : Int) then
                  if
                      (0 : Int) ≤
                          Go.IntKind.wrap Go.IntKind.i64
                            (Go.IntKind.wrap Go.IntKind.i64 (x.snd.snd.fst + Go.IntKind.wrap Go.IntKind.i64 (Go.IntKind.wrap Go.IntKind.i64 ((2 : Int) * s1.fst) + (1 : Int))) + (1 : Int)) ∧
                        Go.IntKind.wrap Go.IntKind.i64
                            (Go.IntKind.wrap Go.IntKind.i64 (x.snd.snd.fst + Go.IntKind.wrap Go.IntKind.i64 (Go.IntKind.wrap Go.IntKind.i64 ((2 : Int) * s1.fst) + (1 : Int))) + (1 : Int)) <
                          (↑(List.length s1.snd) : Int) then
                    Option.bind
                      (Go.Sx.S.f105F
                        (List.getD s1.2 (Int.toNat (Go.IntKind.wrap Go.IntKind.i64 (x.snd.snd.fst + Go.IntKind.wrap Go.IntKind.i64 (Go.IntKind.wrap Go.IntKind.i64 ((2 : Int) * s1.fst) + (1 : Int)))))
                            (0 : Int),
                          List.getD s1.2
                            (Int.toNat
                              (Go.IntKind.wrap Go.IntKind.i64
                                (Go.IntKind.wrap Go.IntKind.i64 (x.snd.snd.fst + Go.IntKind.wrap Go.IntKind.i64 (Go.IntKind.wrap Go.IntKind.i64 ((2 : Int) * s1.fst) + (1 : Int))) + (1 : Int))))
                            (0 : Int)))
                      fun (v2 : Bool) => Option.some (v2, s1.2)
                  else Option.none
                else Option.none
              else Option.some (Bool.false, s1.2))
              fun (v2 : Bool × List Int) =>
              if v2.fst = Bool.true then
                Option.some (Go.IntKind.wrap Go.IntKind.i64 (Go.IntKind.wrap Go.IntKind.i64 (Go.IntKind.wrap Go.IntKind.i64 ((2 : Int) * s1.fst) + (1 : Int)) + (1 : Int)), v2.2)
              else Option.some (Go.IntKind.wrap Go.IntKind.i64 (Go.IntKind.wrap Go.IntKind.i64 ((2 : Int) * s1.fst) + (1 : Int)), v2.2))
            fun (v2 : Int × List Int) =>
            if (0 : Int) ≤ Go.IntKind.wrap Go.IntKind.i64 (x.snd.snd.fst + s1.fst) ∧ Go.IntKind.wrap Go.IntKind.i64 (x.snd.snd.fst + s1.fst) < (↑(List.length v2.snd) : Int) then
              if (0 : Int) ≤ Go.IntKind.wrap Go.IntKind.i64 (x.snd.snd.fst + v2.fst) ∧ Go.IntKind.wrap Go.IntKind.i64 (x.snd.snd.fst + v2.fst) < (↑(List.length v2.snd) : Int) then
                Option.bind
                  (Go.Sx.S.f105F
                    (List.getD v2.2 (Int.toNat (Go.IntKind.wrap Go.IntKind.i64 (x.snd.snd.fst + s1.fst))) (0 : Int),
                      List.getD v2.2 (Int.toNat (Go.IntKind.wrap Go.IntKind.i64 (x.snd.snd.fst + v2.fst))) (0 : Int)))
                  fun (v3 : Bool) =>
                  if (!v3) = Bool.true then Option.some (Sum.inr (Sum.inr v2.2))
                  else
                    if (0 : Int) ≤ Go.IntKind.wrap Go.IntKind.i64 (x.snd.snd.fst + v2.fst) ∧ Go.IntKind.wrap Go.IntKind.i64 (x.snd.snd.fst + v2.fst) < (↑(List.length v2.snd) : Int) then
                      if (0 : Int) ≤ Go.IntKind.wrap Go.IntKind.i64 (x.snd.snd.fst + s1.fst) ∧ Go.IntKind.wrap Go.IntKind.i64 (x.snd.snd.fst + s1.fst) < (↑(List.length v2.snd) : Int) then
                        if (0 : Int) ≤ Go.IntKind.wrap Go.IntKind.i64 (x.snd.snd.fst + s1.fst) ∧ Go.IntKind.wrap Go.IntKind.i64 (x.snd.snd.fst + s1.fst) < (↑(List.length v2.snd) : Int) then
                          if
                              (0 : Int) ≤ Go.IntKind.wrap Go.IntKind.i64 (x.snd.snd.fst + v2.fst) ∧
                                Go.IntKind.wrap Go.IntKind.i64 (x.snd.snd.fst + v2.fst) <
                                  (↑(List.length
                                        (List.set v2.2 (Int.toNat (Go.IntKind.wrap Go.IntKind.i64 (x.snd.snd.fst + s1.fst)))
                                          (List.getD v2.2 (Int.toNat (Go.IntKind.wrap Go.IntKind.i64 (x.snd.snd.fst + v2.fst))) (0 : Int)))) :
                                    Int) then
                            Option.some
                              (Sum.inl
                                (v2.1,
                                  List.set
                                    (List.set v2.2 (Int.toNat (Go.IntKind.wrap Go.IntKind.i64 (x.snd.snd.fst + s1.fst)))
                                      (List.getD v2.2 (Int.toNat (Go.IntKind.wrap Go.IntKind.i64 (x.snd.snd.fst + v2.fst))) (0 : Int)))
                                    (Int.toNat (Go.IntKind.wrap Go.IntKind.i64 (x.snd.snd.fst + v2.fst)))
                                    (List.getD v2.2 (Int.toNat (Go.IntKind.wrap Go.IntKind.i64 (x.snd.snd.fst + s1.fst))) (0 : Int))))
                          else Option.none
                        else Option.none
                      else Option.none
                    else Option.none
              else Option.none
            else Option.none)
      (x.1, x.snd.snd.2))
    fun (v1 : List Int ⊕ List Int) => Sum.elim (fun (p2 : List Int) => Option.some p2) (fun (q2 : List Int) => Option.some q2) v1
theorem S.f121eq : ∀ x, runFn S.C S.f121Γ S.f121sig S.f121ann Go.Proofs.Try.f121 x = S.f121F x := by
  intro x
  kernel_rfl
noncomputable def S.f121con : Con := ⟨121, S.f121sig, S.f121F⟩
theorem S.f121ok : Con.Ok Go.Proofs.Try.prog S.C S.f121con :=
  runFn_ok (Γ := S.f121Γ) (an := S.f121ann) ⟨S.Cok, (List.forall_mem_cons.2 ⟨S.f105ok, (fun _ h => nomatch h)⟩), S.mixed⟩ Go.Proofs.Try.func121 rfl rfl (fun x y h => (S.f121eq x).trans h) (by decide)
def S.f111sig : Sig := ⟨⟨[.own 0, .hole (.int .i64), .hole (.int .i64)], [.arr 3 (.int .i64)]⟩, ⟨[], [.arr 3 (.int .i64)]⟩⟩
noncomputable def S.f111Γ : List Con := [S.f121con]
def S.f111ann : Ann :=
  (.seq .leaf (.seq .leaf (.seq .leaf (.seq (.seq .leaf (.block (.loop ⟨.normal, [(9, .hole (.int .i64))], [.arr 3 (.int .i64)]⟩ [⟨(.exit 0), [], [.arr 3 (.int .i64)]⟩] (.seq (.seq .leaf (.cond .leaf .leaf)) (.seq (.block .leaf) .leaf))))) (.seq .leaf (.block (.loop ⟨.normal, [(10, .hole (.int .i64))], [.arr 3 (.int .i64)]⟩ [⟨(.exit 2), [], [.arr 3 (.int .i64)]⟩] (.seq (.seq .leaf (.cond .leaf .leaf)) (.seq (.block (.seq (.eff 1 [] [0, 0, 0, 0, 0, 24, 0, 0, 0, 384, 960, 1984, 0, 0, 12288, 28672, 65475, 131011, 262143, 524287]) .leaf)) .leaf)))))))))
/- slices.heapSortOrdered[int] -/
noncomputable def S.f111F : Int × Int × List Int → Option (List Int) :=
  fun (x : Int × Int × List Int) =>
  Option.bind
    (Go.Sx.iter
      (fun (s1 : Int × List Int) =>
        if Decidable.decide (s1.fst ≥ (0 : Int)) = Bool.true then
          Option.bind (Go.Sx.S.f121F (s1.1, Go.IntKind.wrap Go.IntKind.i64 (x.snd.fst - x.fst), x.1, s1.2)) fun (v2 : List Int) =>
            Option.some (Sum.inl (Go.IntKind.wrap Go.IntKind.i64 (s1.fst - (1 : Int)), v2))
        else Option.some (Sum.inr s1.2))
      (Go.IntKind.wrap Go.IntKind.i64 (Int.tdiv (Go.IntKind.wrap Go.IntKind.i64 (Go.IntKind.wrap Go.IntKind.i64 (x.snd.fst - x.fst) - (1 : Int))) (2 : Int)), x.snd.2))
    fun (v1 : List Int) =>
    Option.bind
      (Go.Sx.iter
        (fun (s2 : Int × List Int) =>
          if Decidable.decide (s2.fst ≥ (0 : Int)) = Bool.true then
            if (0 : Int) ≤ Go.IntKind.wrap Go.IntKind.i64 (x.fst + s2.fst) ∧ Go.IntKind.wrap Go.IntKind.i64 (x.fst + s2.fst) < (↑(List.length s2.snd) : Int) then
              if (0 : Int) ≤ x.fst ∧ x.fst < (↑(List.length s2.snd) : Int) then
                if (0 : Int) ≤ x.fst ∧ x.fst < (↑(List.length s2.snd) : Int) then
                  if
                      (0 : Int) ≤ Go.IntKind.wrap Go.IntKind.i64 (x.fst + s2.fst) ∧
                        Go.IntKind.wrap Go.IntKind.i64 (x.fst + s2.fst) <
                          (↑(List.length (List.set s2.2 (Int.toNat x.fst) (List.getD s2.2 (Int.toNat (Go.IntKind.wrap Go.IntKind.i64 (x.fst + s2.fst))) (0 : Int)))) : Int) then
                    Option.bind
                      (Go.Sx.S.f121F
                        ((0 : Int), s2.1, x.1,
                          List.set (List.set s2.2 (Int.toNat x.fst) (List.getD s2.2 (Int.toNat (Go.IntKind.wrap Go.IntKind.i64 (x.fst + s2.fst))) (0 : Int)))
                            (Int.toNat (Go.IntKind.wrap Go.IntKind.i64 (x.fst + s2.fst))) (List.getD s2.2 (Int.toNat x.fst) (0 : Int))))
                      fun (v3 : List Int) => Option.some (Sum.inl (Go.IntKind.wrap Go.IntKind.i64 (s2.fst - (1 : Int)), v3))
                  else Option.none
                else Option.none
              else Option.none
            else Option.none
          else Option.some (Sum.inr s2.2))
        (Go.IntKind.wrap Go.IntKind.i64 (Go.IntKind.wrap Go.IntKind.i64 (x.snd.fst - x.fst) - (1 : Int)), v1))
      fun (v2 : List Int) => Option.some v2
theorem S.f111eq : ∀ x, runFn S.C S.f111Γ S.f111sig S.f111ann Go.Proofs.Try.f111 x = S.f111F x := by
  intro x
  kernel_rfl
noncomputable def S.f111con : Con := ⟨111, S.f111sig, S.f111F⟩
theorem S.f111ok : Con.Ok Go.Proofs.Try.prog S.C S.f111con :=
  runFn_ok (Γ := S.f111Γ) (an := S.f111ann) ⟨S.Cok, (List.forall_mem_cons.2 ⟨S.f121ok, (fun _ h => nomatch h)⟩), S.mixed⟩ Go.Proofs.Try.func111 rfl rfl (fun x y h => (S.f111eq x).trans h) (by decide)
def S.f122sig : Sig := ⟨⟨[.hole (.int .i64)], []⟩, ⟨[.hole (.int .u64)], []⟩⟩
noncomputable def S.f122Γ : List Con := [S.f101con]
def S.f122ann : Ann :=
  (.seq .leaf (.seq .leaf .leaf))
/- slices.nextPowerOfTwo -/
noncomputable def S.f122F : Int → Option (Int) :=
  fun (x : Int) =>
  Option.bind (Go.Sx.S.f101F (Go.IntKind.wrap Go.IntKind.u64 x)) fun (v1 : Int) =>
    if v1 < (0 : Int) then Option.none else Option.some (Go.IntKind.wrap Go.IntKind.u64 ((1 : Int) * (2 : Int) ^ Min.min (Int.toNat v1) (Go.IntKind.bits Go.IntKind.u64)))
theorem S.f122eq : ∀ x, runFn S.C S.f122Γ S.f122sig S.f122ann Go.Proofs.Try.f122 x = S.f122F x := by
  intro x
  kernel_rfl
noncomputable def S.f122con : Con := ⟨122, S.f122sig, S.f122F⟩
theorem S.f122ok : Con.Ok Go.Proofs.Try.prog S.C S.f122con :=
  runFn_ok (Γ := S.f122Γ) (an := S.f122ann) ⟨S.Cok, (List.forall_mem_cons.2 ⟨S.f101ok, (fun _ h => nomatch h)⟩), S.mixed⟩ Go.Proofs.Try.func122 rfl rfl (fun x y h => (S.f122eq x).trans h) (by decide)
def S.f123sig : Sig := ⟨⟨[.ptr 0 0], [.cells [.hole (.int .u64)]]⟩, ⟨[.hole (.int .u64)], [.cells [.hole (.int .u64)]]⟩⟩
noncomputable def S.f123Γ : List Con := []
def S.f123ann : Ann :=
  (.seq .leaf (.seq (.tail 9) (.seq (.tail 9) (.seq (.tail 9) (.seq .leaf .leaf)))))
/- (*slices.xorshift).Next -/
noncomputable def S.f123F : Int → Option (Int × Int) :=
  fun (x : Int) =>
  Option.some
    (Go.IntKind.wrap Go.IntKind.u64
        (↑(BitVec.toNat
              (BitVec.ofInt (Go.IntKind.bits Go.IntKind.u64)
                  (Go.IntKind.wrap Go.IntKind.u64
                    (↑(BitVec.toNat
                          (BitVec.ofInt (Go.IntKind.bits Go.IntKind.u64)
                              (Go.IntKind.wrap Go.IntKind.u64
                                (↑(BitVec.toNat
                                      (BitVec.ofInt (Go.IntKind.bits Go.IntKind.u64) x ^^^
                                        BitVec.ofInt (Go.IntKind.bits Go.IntKind.u64)
                                          (Go.IntKind.wrap Go.IntKind.u64 (x * (2 : Int) ^ Min.min (Int.toNat (13 : Int)) (Go.IntKind.bits Go.IntKind.u64))))) :
                                  Int)) ^^^
                            BitVec.ofInt (Go.IntKind.bits Go.IntKind.u64)
                              (Int.fdiv
                                (Go.IntKind.wrap Go.IntKind.u64
                                  (↑(BitVec.toNat
                                        (BitVec.ofInt (Go.IntKind.bits Go.IntKind.u64) x ^^^
                                          BitVec.ofInt (Go.IntKind.bits Go.IntKind.u64)
                                            (Go.IntKind.wrap Go.IntKind.u64 (x * (2 : Int) ^ Min.min (Int.toNat (13 : Int)) (Go.IntKind.bits Go.IntKind.u64))))) :
                                    Int))
                                ((2 : Int) ^ Min.min (Int.toNat (7 : Int)) (Go.IntKind.bits Go.IntKind.u64))))) :
                      Int)) ^^^
                BitVec.ofInt (Go.IntKind.bits Go.IntKind.u64)
                  (Go.IntKind.wrap Go.IntKind.u64
                    (Go.IntKind.wrap Go.IntKind.u64
                        (↑(BitVec.toNat
                              (BitVec.ofInt (Go.IntKind.bits Go.IntKind.u64)
                                  (Go.IntKind.wrap Go.IntKind.u64
                                    (↑(BitVec.toNat
                                          (BitVec.ofInt (Go.IntKind.bits Go.IntKind.u64) x ^^^
                                            BitVec.ofInt (Go.IntKind.bits Go.IntKind.u64)
                                              (Go.IntKind.wrap Go.IntKind.u64 (x * (2 : Int) ^ Min.min (Int.toNat (13 : Int)) (Go.IntKind.bits Go.IntKind.u64))))) :
                                      Int)) ^^^
                                BitVec.ofInt (Go.IntKind.bits Go.IntKind.u64)
                                  (Int.fdiv
                                    (Go.IntKind.wrap Go.IntKind.u64
                                      (↑(BitVec.toNat
                                            (BitVec.ofInt (Go.IntKind.bits Go.IntKind.u64) x ^^^
                                              BitVec.ofInt (Go.IntKind.bits Go.IntKind.u64)
                                                (Go.IntKind.wrap Go.IntKind.u64 (x * (2 : Int) ^ Min.min (Int.toNat (13 : Int)) (Go.IntKind.bits Go.IntKind.u64))))) :
                                        Int))
                                    ((2 : Int) ^ Min.min (Int.toNat (7 : Int)) (Go.IntKind.bits Go.IntKind.u64))))) :
                          Int) *
                      (2 : Int) ^ Min.min (Int.toNat (17 : Int)) (Go.IntKind.bits Go.IntKind.u64))))) :
          Int),
      Go.IntKind.wrap Go.IntKind.u64
        (↑(BitVec.toNat
              (BitVec.ofInt (Go.IntKind.bits Go.IntKind.u64)
                  (Go.IntKind.wrap Go.IntKind.u64
                    (↑(BitVec.toNat
                          (BitVec.ofInt (Go.IntKind.bits Go.IntKind.u64)
                              (Go.IntKind.wrap Go.IntKind.u64
                                (↑(BitVec.toNat
                                      (BitVec.ofInt (Go.IntKind.bits Go.IntKind.u64) x ^^^
                                        BitVec.ofInt (Go.IntKind.bits Go.IntKind.u64)
                                          (Go.IntKind.wrap Go.IntKind.u64 (x * (2 : Int) ^ Min.min (Int.toNat (13 : Int)) (Go.IntKind.bits Go.IntKind.u64))))) :
                                  Int)) ^^^
                            BitVec.ofInt (Go.IntKind.bits Go.IntKind.u64)
                              (Int.fdiv
                                (Go.IntKind.wrap Go.IntKind.u64
                                  (↑(BitVec.toNat
                                        (BitVec.ofInt (Go.IntKind.bits Go.IntKind.u64) x ^^^
                                          BitVec.ofInt (Go.IntKind.bits Go.IntKind.u64)
                                            (Go.IntKind.wrap Go.IntKind.u64 (x * (2 : Int) ^ Min.min (Int.toNat (13 : Int)) (Go.IntKind.bits Go.IntKind.u64))))) :
                                    Int))
                                ((2 : Int) ^ Min.min (Int.toNat (7 : Int)) (Go.IntKind.bits Go.IntKind.u64))))) :
                      Int)) ^^^
                BitVec.ofInt (Go.IntKind.bits Go.IntKind.u64)
                  (Go.IntKind.wrap Go.IntKind.u64
                    (Go.IntKind.wrap Go.IntKind.u64
                        (↑(BitVec.toNat
                              (BitVec.ofInt (Go.IntKind.bits Go.IntKind.u64)
                                  (Go.IntKind.wrap Go.IntKind.u64
                                    (↑(BitVec.toNat
                                          (BitVec.ofInt (Go.IntKind.bits Go.IntKind.u64) x ^^^
                                            BitVec.ofInt (Go.IntKind.bits Go.IntKind.u64)
                                              (Go.IntKind.wrap Go.IntKind.u64 (x * (2 : Int) ^ Min.min (Int.toNat (13 : Int)) (Go.IntKind.bits Go.IntKind.u64))))) :
                                      Int)) ^^^
                                BitVec.ofInt (Go.IntKind.bits Go.IntKind.u64)
                                  (Int.fdiv
                                    (Go.IntKind.wrap Go.IntKind.u64
                                      (↑(BitVec.toNat
                                            (BitVec.ofInt (Go.IntKind.bits Go.IntKind.u64) x ^^^
                                              BitVec.ofInt (Go.IntKind.bits Go.IntKind.u64)
                                                (Go.IntKind.wrap Go.IntKind.u64 (x * (2 : Int) ^ Min.min (Int.toNat (13 : Int)) (Go.IntKind.bits Go.IntKind.u64))))) :
                                        Int))
                                    ((2 : Int) ^ Min.min (Int.toNat (7 : Int)) (Go.IntKind.bits Go.IntKind.u64))))) :
                          Int) *
                      (2 : Int) ^ Min.min (Int.toNat (17 : Int)) (Go.IntKind.bits Go.IntKind.u64))))) :
          Int))
theorem S.f123eq : ∀ x, runFn S.C S.f123Γ S.f123sig S.f123ann Go.Proofs.Try.f123 x = S.f123F x := by
  intro x
  kernel_rfl
noncomputable def S.f123con : Con := ⟨123, S.f123sig, S.f123F⟩
theorem S.f123ok : Con.Ok Go.Proofs.Try.prog S.C S.f123con :=
  runFn_ok (Γ := S.f123Γ) (an := S.f123ann) ⟨S.Cok, (fun _ h => nomatch h), S.mixed⟩ Go.Proofs.Try.func123 rfl rfl (fun x y h => (S.f123eq x).trans h) (by decide)
def S.f112sig : Sig := ⟨⟨[.own 0, .hole (.int .i64), .hole (.int .i64)], [.arr 3 (.int .i64)]⟩, ⟨[], [.arr 3 (.int .i64)]⟩⟩
noncomputable def S.f112Γ : List Con := [S.f122con, S.f123con]
def S.f112ann : Ann :=
  (.seq .leaf (.seq .leaf (.cond (.seq .leaf (.seq .leaf (.seq .leaf (.block (.loop ⟨.normal, [(9, .hole (.int .i64))], [.arr 3 (.int .i64), .cells [.hole (.int .u64)]]⟩ [⟨(.exit 0), [], [.arr 3 (.int .i64), .gone]⟩] (.seq (.seq .leaf (.cond .leaf .leaf)) (.seq (.block (.seq .leaf (.seq (.join [⟨.normal, [(10, .hole (.int .i64))], [.arr 3 (.int .i64), .cells [.hole (.int .u64)]]⟩] (.seq .leaf (.cond .leaf .leaf))) (.eff 2 [] [0, 0, 0, 0, 0, 24, 0, 0, 0, 384, 960, 1984, 0, 0, 12288, 28672, 65475, 131011, 262143, 524287])))) .leaf))))))) .leaf)))
/- slices.breakPatternsOrdered[int] -/
noncomputable def S.f112F : Int × Int × List Int → Option (List Int) :=
  fun (x : Int × Int × List Int) =>
  if Decidable.decide (Go.IntKind.wrap Go.IntKind.i64 (x.snd.fst - x.fst) ≥ (8 : Int)) = Bool.true then
    Option.bind (Go.Sx.S.f122F (Go.IntKind.wrap Go.IntKind.i64 (x.snd.fst - x.fst))) fun (v1 : Int) =>
      Option.bind
        (Go.Sx.iter
          (fun (s2 : Int × List Int × Int) =>
            if
                Decidable.decide
                    (s2.fst ≤
                      Go.IntKind.wrap Go.IntKind.i64
                        (Go.IntKind.wrap Go.IntKind.i64
                            (x.fst + Go.IntKind.wrap Go.IntKind.i64 (Go.IntKind.wrap Go.IntKind.i64 (Int.tdiv (Go.IntKind.wrap Go.IntKind.i64 (x.snd.fst - x.fst)) (4 : Int)) * (2 : Int))) +
                          (1 : Int))) =
                  Bool.true then
              Option.bind (Go.Sx.S.f123F s2.snd.2) fun (v3 : Int × Int) =>
                Option.bind
                  (if
                      Decidable.decide
                          (Go.IntKind.wrap Go.IntKind.i64
                              (Go.IntKind.wrap Go.IntKind.u64
                                (↑(BitVec.toNat
                                      (BitVec.ofInt (Go.IntKind.bits Go.IntKind.u64) v3.fst &&& BitVec.ofInt (Go.IntKind.bits Go.IntKind.u64) (Go.IntKind.wrap Go.IntKind.u64 (v1 - (1 : Int))))) :
                                  Int)) ≥
                            Go.IntKind.wrap Go.IntKind.i64 (x.snd.fst - x.fst)) =
                        Bool.true then
                    Option.some
                      (Go.IntKind.wrap Go.IntKind.i64
                          (Go.IntKind.wrap Go.IntKind.i64
                              (Go.IntKind.wrap Go.IntKind.u64
                                (↑(BitVec.toNat
                                      (BitVec.ofInt (Go.IntKind.bits Go.IntKind.u64) v3.fst &&& BitVec.ofInt (Go.IntKind.bits Go.IntKind.u64) (Go.IntKind.wrap Go.IntKind.u64 (v1 - (1 : Int))))) :
                                  Int)) -
                            Go.IntKind.wrap Go.IntKind.i64 (x.snd.fst - x.fst)),
                        s2.snd.1, v3.2)
                  else
                    Option.some
                      (Go.IntKind.wrap Go.IntKind.i64
                          (Go.IntKind.wrap Go.IntKind.u64
                            (↑(BitVec.toNat
                                  (BitVec.ofInt (Go.IntKind.bits Go.IntKind.u64) v3.fst &&& BitVec.ofInt (Go.IntKind.bits Go.IntKind.u64) (Go.IntKind.wrap Go.IntKind.u64 (v1 - (1 : Int))))) :
                              Int)),
                        s2.snd.1, v3.2))
                  fun (v4 : Int × List Int × Int) =>
                  if (0 : Int) ≤ Go.IntKind.wrap Go.IntKind.i64 (x.fst + v4.fst) ∧ Go.IntKind.wrap Go.IntKind.i64 (x.fst + v4.fst) < (↑(List.length v4.snd.fst) : Int) then
                    if (0 : Int) ≤ s2.fst ∧ s2.fst < (↑(List.length v4.snd.fst) : Int) then
                      if (0 : Int) ≤ s2.fst ∧ s2.fst < (↑(List.length v4.snd.fst) : Int) then
                        if
                            (0 : Int) ≤ Go.IntKind.wrap Go.IntKind.i64 (x.fst + v4.fst) ∧
                              Go.IntKind.wrap Go.IntKind.i64 (x.fst + v4.fst) <
                                (↑(List.length (List.set v4.snd.1 (Int.toNat s2.fst) (List.getD v4.snd.1 (Int.toNat (Go.IntKind.wrap Go.IntKind.i64 (x.fst + v4.fst))) (0 : Int)))) : Int) then
                          Option.some
                            (Sum.inl
                              (Go.IntKind.wrap Go.IntKind.i64 (s2.fst + (1 : Int)),
                                List.set (List.set v4.snd.1 (Int.toNat s2.fst) (List.getD v4.snd.1 (Int.toNat (Go.IntKind.wrap Go.IntKind.i64 (x.fst + v4.fst))) (0 : Int)))
                                  (Int.toNat (Go.IntKind.wrap Go.IntKind.i64 (x.fst + v4.fst))) (List.getD v4.snd.1 (Int.toNat s2.fst) (0 : Int)),
                                v4.snd.2))
                        else Option.none
                      else Option.none
                    else Option.none
                  else Option.none
            else Option.some (Sum.inr s2.snd.1))
          (Go.IntKind.wrap Go.IntKind.i64
              (Go.IntKind.wrap Go.IntKind.i64
                  (x.fst + Go.IntKind.wrap Go.IntKind.i64 (Go.IntKind.wrap Go.IntKind.i64 (Int.tdiv (Go.IntKind.wrap Go.IntKind.i64 (x.snd.fst - x.fst)) (4 : Int)) * (2 : Int))) -
                (1 : Int)),
            x.snd.2, Go.IntKind.wrap Go.IntKind.u64 (Go.IntKind.wrap Go.IntKind.i64 (x.snd.fst - x.fst))))
        fun (v2 : List Int) => Option.some v2
  else Option.some x.snd.2
theorem S.f112eq : ∀ x, runFn S.C S.f112Γ S.f112sig S.f112ann Go.Proofs.Try.f112 x = S.f112F x := by
  intro x
  kernel_rfl
noncomputable def S.f112con : Con := ⟨112, S.f112sig, S.f112F⟩
theorem S.f112ok : Con.Ok Go.Proofs.Try.prog S.C S.f112con :=
  runFn_ok (Γ := S.f112Γ) (an := S.f112ann) ⟨S.Cok, (List.forall_mem_cons.2 ⟨S.f122ok, (List.forall_mem_cons.2 ⟨S.f123ok, (fun _ h => nomatch h)⟩)⟩), S.mixed⟩ Go.Proofs.Try.func112 rfl rfl (fun x y h => (S.f112eq x).trans h) (by decide)
def S.f126sig : Sig := ⟨⟨[.own 0, .hole (.int .i64), .hole (.int .i64), .ptr 1 0], [.arr 3 (.int .i64), .cells [.hole (.int .i64)]]⟩, ⟨[.hole (.int .i64), .hole (.int .i64)], [.arr 3 (.int .i64), .cells [.hole (.int .i64)]]⟩⟩
noncomputable def S.f126Γ : List Con := [S.f105con]
def S.f126ann : Ann :=
  (.seq .leaf (.seq (.seq .leaf (.cond (.seq .leaf (.seq .leaf .leaf)) .leaf)) (.seq .leaf .leaf)))
/- slices.order2Ordered[int] -/
noncomputable def S.f126F : Int × Int × List Int × Int → Option (Int × Int × List Int × Int) :=
  fun (x : Int × Int × List Int × Int) =>
  if (0 : Int) ≤ x.snd.fst ∧ x.snd.fst < (↑(List.length x.snd.snd.fst) : Int) then
    if (0 : Int) ≤ x.fst ∧ x.fst < (↑(List.length x.snd.snd.fst) : Int) then
      Option.bind (Go.Sx.S.f105F (List.getD x.snd.snd.1 (Int.toNat x.snd.fst) (0 : Int), List.getD x.snd.snd.1 (Int.toNat x.fst) (0 : Int))) fun (v1 : Bool) =>
        if v1 = Bool.true then Option.some (x.snd.1, x.1, x.snd.snd.1, Go.IntKind.wrap Go.IntKind.i64 (x.snd.snd.snd + (1 : Int))) else Option.some (x.1, x.snd.1, x.snd.snd.1, x.snd.snd.2)
    else Option.none
  else Option.none
theorem S.f126eq : ∀ x, runFn S.C S.f126Γ S.f126sig S.f126ann Go.Proofs.Try.f126 x = S.f126F x := by
  intro x
  kernel_rfl
noncomputable def S.f126con : Con := ⟨126, S.f126sig, S.f126F⟩
theorem S.f126ok : Con.Ok Go.Proofs.Try.prog S.C S.f126con :=
  runFn_ok (Γ := S.f126Γ) (an := S.f126ann) ⟨S.Cok, (List.forall_mem_cons.2 ⟨S.f105ok, (fun _ h => nomatch h)⟩), S.mixed⟩ Go.Proofs.Try.func126 rfl rfl (fun x y h => (S.f126eq x).trans h) (by decide)
def S.f125sig : Sig := ⟨⟨[.own 0, .hole (.int .i64), .hole (.int .i64), .hole (.int .i64), .ptr 1 0], [.arr 3 (.int .i64), .cells [.hole (.int .i64)]]⟩, ⟨[.hole (.int .i64)], [.arr 3 (.int .i64), .cells [.hole (.int .i64)]]⟩⟩
noncomputable def S.f125Γ : List Con := [S.f126con]
def S.f125ann : Ann :=
  (.seq .leaf (.seq .leaf (.seq .leaf (.seq .leaf (.seq .leaf .leaf)))))
/- slices.medianOrdered[int] -/
noncomputable def S.f125F : Int × Int × Int × List Int × Int → Option (Int × List Int × Int) :=
  fun (x : Int × Int × Int × List Int × Int) =>
  Option.bind (Go.Sx.S.f126F (x.1, x.snd.1, x.snd.snd.snd.1, x.snd.snd.snd.2)) fun (v1 : Int × Int × List Int × Int) =>
    Option.bind (Go.Sx.S.f126F (v1.snd.1, x.snd.snd.1, v1.snd.snd.1, v1.snd.snd.2)) fun (v2 : Int × Int × List Int × Int) =>
      Option.bind (Go.Sx.S.f126F (v1.1, v2.1, v2.snd.snd.1, v2.snd.snd.2)) fun (v3 : Int × Int × List Int × Int) => Option.some (v3.snd.1, v3.snd.snd.1, v3.snd.snd.2)
theorem S.f125eq : ∀ x, runFn S.C S.f125Γ S.f125sig S.f125ann Go.Proofs.Try.f125 x = S.f125F x := by
  intro x
  kernel_rfl
noncomputable def S.f125con : Con := ⟨125, S.f125sig, S.f125F⟩
theorem S.f125ok : Con.Ok Go.Proofs.Try.prog S.C S.f125con :=
  runFn_ok (Γ := S.f125Γ) (an := S.f125ann) ⟨S.Cok, (List.forall_mem_cons.2 ⟨S.f126ok, (fun _ h => nomatch h)⟩), S.mixed⟩ Go.Proofs.Try.func125 rfl rfl (fun x y h => (S.f125eq x).trans h) (by decide)
def S.f124sig : Sig := ⟨⟨[.own 0, .hole (.int .i64), .ptr 1 0], [.arr 3 (.int .i64), .cells [.hole (.int .i64)]]⟩, ⟨[.hole (.int .i64)], [.arr 3 (.int .i64), .cells [.hole (.int .i64)]]⟩⟩
noncomputable def S.f124Γ : List Con := [S.f125con]
def S.f124ann : Ann :=
  (.seq .leaf (.seq .leaf .leaf))
/- slices.medianAdjacentOrdered[int] -/
noncomputable def S.f124F : Int × List Int × Int → Option (Int × List Int × Int) :=
  fun (x : Int × List Int × Int) =>
  Option.bind (Go.Sx.S.f125F (Go.IntKind.wrap Go.IntKind.i64 (x.fst - (1 : Int)), x.1, Go.IntKind.wrap Go.IntKind.i64 (x.fst + (1 : Int)), x.snd.1, x.snd.2)) fun (v1 : Int × List Int × Int) =>
    Option.some (v1.1, v1.snd.1, v1.snd.2)
theorem S.f124eq : ∀ x, runFn S.C S.f124Γ S.f124sig S.f124ann Go.Proofs.Try.f124 x = S.f124F x := by
  intro x
  kernel_rfl
noncomputable def S.f124con : Con := ⟨124, S.f124sig, S.f124F⟩
theorem S.f124ok : Con.Ok Go.Proofs.Try.prog S.C S.f124con :=
  runFn_ok (Γ := S.f124Γ) (an := S.f124ann) ⟨S.Cok, (List.forall_mem_cons.2 ⟨S.f125ok, (fun _ h => nomatch h)⟩), S.mixed⟩ Go.Proofs.Try.func124 rfl rfl (fun x y h => (S.f124eq x).trans h) (by decide)
def S.f113sig : Sig := ⟨⟨[.own 0, .hole (.int .i64), .hole (.int .i64)], [.arr 3 (.int .i64)]⟩, ⟨[.hole (.int .i64), .hole (.int .i64)], [.arr 3 (.int .i64)]⟩⟩
noncomputable def S.f113Γ : List Con := [S.f124con, S.f125con]
def S.f113ann : Ann :=
  (.seq .leaf (.seq .leaf (.seq .leaf (.seq .leaf (.seq .leaf (.seq .leaf (.seq (.join [⟨.normal, [(11, .hole (.int .i64))], [.arr 3 (.int .i64), .cells [.hole (.int .i64)]]⟩] (.seq .leaf (.cond (.seq (.seq .leaf (.cond (.seq .leaf (.seq .leaf .leaf)) .leaf)) .leaf) .leaf))) (.seq .leaf (.block (.seq .leaf (.cond (.seq .leaf .leaf) (.seq .leaf (.cond (.seq .leaf .leaf) (.seq .leaf .leaf))))))))))))))
/- slices.choosePivotOrdered[int] -/
noncomputable def S.f113F : Int × Int × List Int → Option (Int × Int × List Int) :=
  fun (x : Int × Int × List Int) =>
  Option.bind
    (if Decidable.decide (Go.IntKind.wrap Go.IntKind.i64 (x.snd.fst - x.fst) ≥ (8 : Int)) = Bool.true then
      if Decidable.decide (Go.IntKind.wrap Go.IntKind.i64 (x.snd.fst - x.fst) ≥ (50 : Int)) = Bool.true then
        Option.bind
          (Go.Sx.S.f124F
            (Go.IntKind.wrap Go.IntKind.i64
                (x.fst + Go.IntKind.wrap Go.IntKind.i64 (Go.IntKind.wrap Go.IntKind.i64 (Int.tdiv (Go.IntKind.wrap Go.IntKind.i64 (x.snd.fst - x.fst)) (4 : Int)) * (1 : Int))),
              x.snd.2, (0 : Int)))
          fun (v1 : Int × List Int × Int) =>
          Option.bind
            (Go.Sx.S.f124F
              (Go.IntKind.wrap Go.IntKind.i64
                  (x.fst + Go.IntKind.wrap Go.IntKind.i64 (Go.IntKind.wrap Go.IntKind.i64 (Int.tdiv (Go.IntKind.wrap Go.IntKind.i64 (x.snd.fst - x.fst)) (4 : Int)) * (2 : Int))),
                v1.snd.1, v1.snd.2))
            fun (v2 : Int × List Int × Int) =>
            Option.bind
              (Go.Sx.S.f124F
                (Go.IntKind.wrap Go.IntKind.i64
                    (x.fst + Go.IntKind.wrap Go.IntKind.i64 (Go.IntKind.wrap Go.IntKind.i64 (Int.tdiv (Go.IntKind.wrap Go.IntKind.i64 (x.snd.fst - x.fst)) (4 : Int)) * (3 : Int))),
                  v2.snd.1, v2.snd.2))
              fun (v3 : Int × List Int × Int) => Option.bind (Go.Sx.S.f125F (v1.1, v2.1, v3.1, v3.snd.1, v3.snd.2)) fun (v4 : Int × List Int × Int) => Option.some (v4.1, v4.snd.1, v4.snd.2)
      else
        Option.bind
          (Go.Sx.S.f125F
            (Go.IntKind.wrap Go.IntKind.i64
                (x.fst + Go.IntKind.wrap Go.IntKind.i64 (Go.IntKind.wrap Go.IntKind.i64 (Int.tdiv (Go.IntKind.wrap Go.IntKind.i64 (x.snd.fst - x.fst)) (4 : Int)) * (1 : Int))),
              Go.IntKind.wrap Go.IntKind.i64
                (x.fst + Go.IntKind.wrap Go.IntKind.i64 (Go.IntKind.wrap Go.IntKind.i64 (Int.tdiv (Go.IntKind.wrap Go.IntKind.i64 (x.snd.fst - x.fst)) (4 : Int)) * (2 : Int))),
              Go.IntKind.wrap Go.IntKind.i64
                (x.fst + Go.IntKind.wrap Go.IntKind.i64 (Go.IntKind.wrap Go.IntKind.i64 (Int.tdiv (Go.IntKind.wrap Go.IntKind.i64 (x.snd.fst - x.fst)) (4 : Int)) * (3 : Int))),
              x.snd.2, (0 : Int)))
          fun (v1 : Int × List Int × Int) => Option.some (v1.1, v1.snd.1, v1.snd.2)
    else
      Option.some
        (Go.IntKind.wrap Go.IntKind.i64 (x.fst + Go.IntKind.wrap Go.IntKind.i64 (Go.IntKind.wrap Go.IntKind.i64 (Int.tdiv (Go.IntKind.wrap Go.IntKind.i64 (x.snd.fst - x.fst)) (4 : Int)) * (2 : Int))),
          x.snd.2, (0 : Int)))
    fun (v1 : Int × List Int × Int) =>
    if (v1.snd.snd == (0 : Int)) = Bool.true then Option.some (v1.1, (1 : Int), v1.snd.1)
    else if (v1.snd.snd == (12 : Int)) = Bool.true then Option.some (v1.1, (2 : Int), v1.snd.1) else Option.some (v1.1, (0 : Int), v1.snd.1)
theorem S.f113eq : ∀ x, runFn S.C S.f113Γ S.f113sig S.f113ann Go.Proofs.Try.f113 x = S.f113F x := by
  intro x
  kernel_rfl
noncomputable def S.f113con : Con := ⟨113, S.f113sig, S.f113F⟩
theorem S.f113ok : Con.Ok Go.Proofs.Try.prog S.C S.f113con :=
  runFn_ok (Γ := S.f113Γ) (an := S.f113ann) ⟨S.Cok, (List.forall_mem_cons.2 ⟨S.f124ok, (List.forall_mem_cons.2 ⟨S.f125ok, (fun _ h => nomatch h)⟩)⟩), S.mixed⟩ Go.Proofs.Try.func113 rfl rfl (fun x y h => (S.f113eq x).trans h) (by decide)
def S.f114sig : Sig := ⟨⟨[.own 0, .hole (.int .i64), .hole (.int .i64)], [.arr 3 (.int .i64)]⟩, ⟨[], [.arr 3 (.int .i64)]⟩⟩
noncomputable def S.f114Γ : List Con := []
def S.f114ann : Ann :=
  (.seq .leaf (.seq .leaf (.block (.loop ⟨.normal, [(6, .hole (.int .i64)), (7, .hole (.int .i64))], [.arr 3 (.int .i64)]⟩ [⟨(.exit 0), [], [.arr 3 (.int .i64)]⟩] (.seq (.seq .leaf (.cond .leaf .leaf)) (.block (.seq (.eff 1 [] [0, 0, 0, 0, 0, 0, 48, 112, 0, 0, 768, 1792, 4083, 8179, 16383, 32767]) (.seq .leaf .leaf))))))))
/- slices.reverseRangeOrdered[int] -/
noncomputable def S.f114F : Int × Int × List Int → Option (List Int) :=
  fun (x : Int × Int × List Int) =>
  Option.bind
    (Go.Sx.iter
      (fun (s1 : Int × Int × List Int) =>
        if Decidable.decide (s1.fst < s1.snd.fst) = Bool.true then
          if (0 : Int) ≤ s1.snd.fst ∧ s1.snd.fst < (↑(List.length s1.snd.snd) : Int) then
            if (0 : Int) ≤ s1.fst ∧ s1.fst < (↑(List.length s1.snd.snd) : Int) then
              if (0 : Int) ≤ s1.fst ∧ s1.fst < (↑(List.length s1.snd.snd) : Int) then
                if (0 : Int) ≤ s1.snd.fst ∧ s1.snd.fst < (↑(List.length (List.set s1.snd.2 (Int.toNat s1.fst) (List.getD s1.snd.2 (Int.toNat s1.snd.fst) (0 : Int)))) : Int) then
                  Option.some
                    (Sum.inl
                      (Go.IntKind.wrap Go.IntKind.i64 (s1.fst + (1 : Int)), Go.IntKind.wrap Go.IntKind.i64 (s1.snd.fst - (1 : Int)),
                        List.set (List.set s1.snd.2 (Int.toNat s1.fst) (List.getD s1.snd.2 (Int.toNat s1.snd.fst) (0 : Int))) (Int.toNat s1.snd.fst) (List.getD s1.snd.2 (Int.toNat s1.fst) (0 : Int))))
                else Option.none
              else Option.none
            else Option.none
          else Option.none
        else Option.some (Sum.inr s1.snd.2))
      (x.1, Go.IntKind.wrap Go.IntKind.i64 (x.snd.fst - (1 : Int)), x.snd.2))
    fun (v1 : List Int) => Option.some v1
theorem S.f114eq : ∀ x, runFn S.C S.f114Γ S.f114sig S.f114ann Go.Proofs.Try.f114 x = S.f114F x := by
  intro x
  kernel_rfl
noncomputable def S.f114con : Con := ⟨114, S.f114sig, S.f114F⟩
theorem S.f114ok : Con.Ok Go.Proofs.Try.prog S.C S.f114con :=
  runFn_ok (Γ := S.f114Γ) (an := S.f114ann) ⟨S.Cok, (fun _ h => nomatch h), S.mixed⟩ Go.Proofs.Try.func114 rfl rfl (fun x y h => (S.f114eq x).trans h) (by decide)
def S.f115sig : Sig := ⟨⟨[.own 0, .hole (.int .i64), .hole (.int .i64)], [.arr 3 (.int .i64)]⟩, ⟨[.hole .bool], [.arr 3 (.int .i64)]⟩⟩
noncomputable def S.f115Γ : List Con := [S.f105con]
def S.f115ann : Ann :=
  (.seq .leaf (.seq .leaf (.seq (.seq .leaf (.block (.loop ⟨.normal, [(7, .hole (.int .i64)), (8, .hole (.int .i64))], [.arr 3 (.int .i64)]⟩ [⟨(.exit 0), [], [.arr 3 (.int .i64)]⟩, ⟨.ret, [(6, .hole .bool)], [.arr 3 (.int .i64)]⟩] (.seq (.seq .leaf (.cond .leaf .leaf)) (.seq (.block (.seq (.block (.loop ⟨.normal, [(7, .hole (.int .i64))], [.arr 3 (.int .i64)]⟩ [⟨(.exit 2), [(7, .hole (.int .i64))], [.arr 3 (.int .i64)]⟩] (.seq (.seq (.join [⟨.normal, [(32, .hole .bool)], [.arr 3 (.int .i64)]⟩] .leaf) (.cond .leaf .leaf)) (.block .leaf)))) (.seq (.seq .leaf (.cond (.seq .leaf .leaf) .leaf)) (.seq (.seq .leaf (.cond (.seq .leaf .leaf) .leaf)) (.seq (.eff 1 [] [0, 0, 0, 0, 8, 0, 0, 64, 224, 480, 0, 0, 3072, 7168, 16355, 32739, 65535, 131071]) (.seq (.join [⟨.normal, [], [.arr 3 (.int .i64)]⟩] (.seq .leaf (.cond (.seq .leaf (.block (.loop ⟨.normal, [(9, .hole (.int .i64))], [.arr 3 (.int .i64)]⟩ [⟨(.exit 4), [], [.arr 3 (.int .i64)]⟩] (.seq (.seq .leaf (.cond .leaf .leaf)) (.seq (.block (.seq (.seq .leaf (.cond .leaf .leaf)) (.eff 1 [] [0, 0, 0, 0, 8, 0, 0, 64, 224, 480, 0, 0, 3072, 7168, 16355, 32739, 65535, 131071]))) .leaf))))) .leaf))) (.seq .leaf (.cond (.seq .leaf (.block (.loop ⟨.normal, [(10, .hole (.int .i64))], [.arr 3 (.int .i64)]⟩ [⟨(.exit 6), [], [.arr 3 (.int .i64)]⟩] (.seq (.seq .leaf (.cond .leaf .leaf)) (.seq (.block (.seq (.seq .leaf (.cond .leaf .leaf)) (.eff 1 [] [0, 0, 0, 0, 8, 0, 0, 64, 224, 480, 0, 0, 3072, 7168, 16355, 32739, 65535, 131071]))) .leaf))))) .leaf)))))))) .leaf))))) (.seq .leaf .leaf))))
/- slices.partialInsertionSortOrdered[int] -/
noncomputable def S.f115F : Int × Int × List Int → Option (Bool × List Int) :=
  fun (x : Int × Int × List Int) =>
  Option.bind
    (Go.Sx.iter
      (fun (s1 : Int × Int × List Int) =>
        if Decidable.decide (s1.snd.fst < (5 : Int)) = Bool.true then
          Option.bind
            (Go.Sx.iter
              (fun (s2 : Int × List Int) =>
                Option.bind
                  (if Decidable.decide (s2.fst < x.snd.fst) = Bool.true then
                    if (0 : Int) ≤ s2.fst ∧ s2.fst < (↑(List.length s2.snd) : Int) then
                      if (0 : Int) ≤ Go.IntKind.wrap Go.IntKind.i64 (s2.fst - (1 : Int)) ∧ Go.IntKind.wrap Go.IntKind.i64 (s2.fst - (1 : Int)) < (↑(List.length s2.snd) : Int) then
                        Option.bind (Go.Sx.S.f105F (List.getD s2.2 (Int.toNat s2.fst) (0 : Int), List.getD s2.2 (Int.toNat (Go.IntKind.wrap Go.IntKind.i64 (s2.fst - (1 : Int)))) (0 : Int)))
                          fun (v3 : Bool) => Option.some (!v3, s2.2)
                      else Option.none
                    else Option.none
                  else Option.some (Bool.false, s2.2))
                  fun (v3 : Bool × List Int) => if v3.fst = Bool.true then Option.some (Sum.inl (Go.IntKind.wrap Go.IntKind.i64 (s2.fst + (1 : Int)), v3.2)) else Option.some (Sum.inr (s2.1, v3.2)))
              (s1.1, s1.snd.2))
            fun (v2 : Int × List Int) =>
            if (v2.fst == x.snd.fst) = Bool.true then Option.some (Sum.inr (Sum.inr (Bool.true, v2.2)))
            else
              if Decidable.decide (Go.IntKind.wrap Go.IntKind.i64 (x.snd.fst - x.fst) < (50 : Int)) = Bool.true then Option.some (Sum.inr (Sum.inr (Bool.false, v2.2)))
              else
                if (0 : Int) ≤ Go.IntKind.wrap Go.IntKind.i64 (v2.fst - (1 : Int)) ∧ Go.IntKind.wrap Go.IntKind.i64 (v2.fst - (1 : Int)) < (↑(List.length v2.snd) : Int) then
                  if (0 : Int) ≤ v2.fst ∧ v2.fst < (↑(List.length v2.snd) : Int) then
                    if (0 : Int) ≤ v2.fst ∧ v2.fst < (↑(List.length v2.snd) : Int) then
                      if
                          (0 : Int) ≤ Go.IntKind.wrap Go.IntKind.i64 (v2.fst - (1 : Int)) ∧
                            Go.IntKind.wrap Go.IntKind.i64 (v2.fst - (1 : Int)) <
                              (↑(List.length (List.set v2.2 (Int.toNat v2.fst) (List.getD v2.2 (Int.toNat (Go.IntKind.wrap Go.IntKind.i64 (v2.fst - (1 : Int)))) (0 : Int)))) : Int) then
                        Option.bind
                          (if Decidable.decide (Go.IntKind.wrap Go.IntKind.i64 (v2.fst - x.fst) ≥ (2 : Int)) = Bool.true then
                            Option.bind
                              (Go.Sx.iter
                                (fun (s3 : Int × List Int) =>
                                  if Decidable.decide (s3.fst ≥ (1 : Int)) = Bool.true then
                                    if (0 : Int) ≤ s3.fst ∧ s3.fst < (↑(List.length s3.snd) : Int) then
                                      if (0 : Int) ≤ Go.IntKind.wrap Go.IntKind.i64 (s3.fst - (1 : Int)) ∧ Go.IntKind.wrap Go.IntKind.i64 (s3.fst - (1 : Int)) < (↑(List.length s3.snd) : Int) then
                                        Option.bind
                                          (Go.Sx.S.f105F (List.getD s3.2 (Int.toNat s3.fst) (0 : Int), List.getD s3.2 (Int.toNat (Go.IntKind.wrap Go.IntKind.i64 (s3.fst - (1 : Int)))) (0 : Int)))
                                          fun (v4 : Bool) =>
                                          if (!v4) = Bool.true then Option.some (Sum.inr s3.2)
                                          else
                                            if
                                                (0 : Int) ≤ Go.IntKind.wrap Go.IntKind.i64 (s3.fst - (1 : Int)) ∧
                                                  Go.IntKind.wrap Go.IntKind.i64 (s3.fst - (1 : Int)) < (↑(List.length s3.snd) : Int) then
                                              if (0 : Int) ≤ s3.fst ∧ s3.fst < (↑(List.length s3.snd) : Int) then
                                                if (0 : Int) ≤ s3.fst ∧ s3.fst < (↑(List.length s3.snd) : Int) then
                                                  if
                                                      (0 : Int) ≤ Go.IntKind.wrap Go.IntKind.i64 (s3.fst - (1 : Int)) ∧
                                                        Go.IntKind.wrap Go.IntKind.i64 (s3.fst - (1 : Int)) <
                                                          (↑(List.length
                                                                (List.set s3.2 (Int.toNat s3.fst) (List.getD s3.2 (Int.toNat (Go.IntKind.wrap Go.IntKind.i64 (s3.fst - (1 : Int)))) (0 : Int)))) :
                                                            Int) then
                                                    Option.some
                                                      (Sum.inl
                                                        (Go.IntKind.wrap Go.IntKind.i64 (s3.fst - (1 : Int)),
                                                          List.set (List.set s3.2 (Int.toNat s3.fst) (List.getD s3.2 (Int.toNat (Go.IntKind.wrap Go.IntKind.i64 (s3.fst - (1 : Int)))) (0 : Int)))
                                                            (Int.toNat (Go.IntKind.wrap Go.IntKind.i64 (s3.fst - (1 : Int)))) (List.getD s3.2 (Int.toNat s3.fst) (0 : Int))))
                                                  else Option.none
                                                else Option.none
                                              else Option.none
                                            else Option.none
                                      else Option.none
                                    else Option.none
                                  else Option.some (Sum.inr s3.2))
                                (Go.IntKind.wrap Go.IntKind.i64 (v2.fst - (1 : Int)),
                                  List.set (List.set v2.2 (Int.toNat v2.fst) (List.getD v2.2 (Int.toNat (Go.IntKind.wrap Go.IntKind.i64 (v2.fst - (1 : Int)))) (0 : Int)))
                                    (Int.toNat (Go.IntKind.wrap Go.IntKind.i64 (v2.fst - (1 : Int)))) (List.getD v2.2 (Int.toNat v2.fst) (0 : Int))))
                              fun (v3 : List Int) => Option.some v3
                          else
                            Option.some
                              (List.set (List.set v2.2 (Int.toNat v2.fst) (List.getD v2.2 (Int.toNat (Go.IntKind.wrap Go.IntKind.i64 (v2.fst - (1 : Int)))) (0 : Int)))
                                (Int.toNat (Go.IntKind.wrap Go.IntKind.i64 (v2.fst - (1 : Int)))) (List.getD v2.2 (Int.toNat v2.fst) (0 : Int))))
                          fun (v3 : List Int) =>
                          if Decidable.decide (Go.IntKind.wrap Go.IntKind.i64 (x.snd.fst - v2.fst) ≥ (2 : Int)) = Bool.true then
                            Option.bind
                              (Go.Sx.iter
                                (fun (s4 : Int × List Int) =>
                                  if Decidable.decide (s4.fst < x.snd.fst) = Bool.true then
                                    if (0 : Int) ≤ s4.fst ∧ s4.fst < (↑(List.length s4.snd) : Int) then
                                      if (0 : Int) ≤ Go.IntKind.wrap Go.IntKind.i64 (s4.fst - (1 : Int)) ∧ Go.IntKind.wrap Go.IntKind.i64 (s4.fst - (1 : Int)) < (↑(List.length s4.snd) : Int) then
                                        Option.bind
                                          (Go.Sx.S.f105F (List.getD s4.2 (Int.toNat s4.fst) (0 : Int), List.getD s4.2 (Int.toNat (Go.IntKind.wrap Go.IntKind.i64 (s4.fst - (1 : Int)))) (0 : Int)))
                                          fun (v5 : Bool) =>
                                          if (!v5) = Bool.true then Option.some (Sum.inr s4.2)
                                          else
                                            if
                                                (0 : Int) ≤ Go.IntKind.wrap Go.IntKind.i64 (s4.fst - (1 : Int)) ∧
                                                  Go.IntKind.wrap Go.IntKind.i64 (s4.fst - (1 : Int)) < (↑(List.length s4.snd) : Int) then
                                              if (0 : Int) ≤ s4.fst ∧ s4.fst < (↑(List.length s4.snd) : Int) then
                                                if (0 : Int) ≤ s4.fst ∧ s4.fst < (↑(List.length s4.snd) : Int) then
                                                  if
                                                      (0 : Int) ≤ Go.IntKind.wrap Go.IntKind.i64 (s4.fst - (1 : Int)) ∧
                                                        Go.IntKind.wrap Go.IntKind.i64 (s4.fst - (1 : Int)) <
                                                          (↑(List.length
                                                                (List.set s4.2 (Int.toNat s4.fst) (List.getD s4.2 (Int.toNat (Go.IntKind.wrap Go.IntKind.i64 (s4.fst - (1 : Int)))) (0 : Int)))) :
                                                            Int) then
                                                    Option.some
                                                      (Sum.inl
                                                        (Go.IntKind.wrap Go.IntKind.i64 (s4.fst + (1 : Int)),
                                                          List.set (List.set s4.2 (Int.toNat s4.fst) (List.getD s4.2 (Int.toNat (Go.IntKind.wrap Go.IntKind.i64 (s4.fst - (1 : Int)))) (0 : Int)))
                                                            (Int.toNat (Go.IntKind.wrap Go.IntKind.i64 (s4.fst - (1 : Int)))) (List.getD s4.2 (Int.toNat s4.fst) (0 : Int))))
                                                  else Option.none
                                                else Option.none
                                              else Option.none
                                            else Option.none
                                      else Option.none
                                    else Option.none
                                  else Option.some (Sum.inr s4.2))
                                (Go.IntKind.wrap Go.IntKind.i64 (v2.fst + (1 : Int)), v3))
                              fun (v4 : List Int) => Option.some (Sum.inl (v2.1, Go.IntKind.wrap Go.IntKind.i64 (s1.snd.fst + (1 : Int)), v4))
                          else Option.some (Sum.inl (v2.1, Go.IntKind.wrap Go.IntKind.i64 (s1.snd.fst + (1 : Int)), v3))
                      else Option.none
                    else Option.none
                  else Option.none
                else Option.none
        else Option.some (Sum.inr (Sum.inl s1.snd.2)))
      (Go.IntKind.wrap Go.IntKind.i64 (x.fst + (1 : Int)), (0 : Int), x.snd.2))
    fun (v1 : List Int ⊕ Bool × List Int) => Sum.elim (fun (p2 : List Int) => Option.some (Bool.false, p2)) (fun (q2 : Bool × List Int) => Option.some (q2.1, q2.2)) v1
theorem S.f115eq : ∀ x, runFn S.C S.f115Γ S.f115sig S.f115ann Go.Proofs.Try.f115 x = S.f115F x := by
  intro x
  kernel_rfl
noncomputable def S.f115con : Con := ⟨115, S.f115sig, S.f115F⟩
theorem S.f115ok : Con.Ok Go.Proofs.Try.prog S.C S.f115con :=
  runFn_ok (Γ := S.f115Γ) (an := S.f115ann) ⟨S.Cok, (List.forall_mem_cons.2 ⟨S.f105ok, (fun _ h => nomatch h)⟩), S.mixed⟩ Go.Proofs.Try.func115 rfl rfl (fun x y h => (S.f115eq x).trans h) (by decide)
def S.f116sig : Sig := ⟨⟨[.own 0, .hole (.int .i64), .hole (.int .i64), .hole (.int .i64)], [.arr 3 (.int .i64)]⟩, ⟨[.hole (.int .i64)], [.arr 3 (.int .i64)]⟩⟩
noncomputable def S.f116Γ : List Con := [S.f105con]
def S.f116ann : Ann :=
  (.seq .leaf (.seq (.eff 1 [] [0, 0, 0, 0, 0, 0, 48, 112, 0, 0, 768, 1792, 4083, 8179, 16383, 32767]) (.seq .leaf (.seq (.block (.loop ⟨.normal, [(9, .hole (.int .i64)), (10, .hole (.int .i64))], [.arr 3 (.int .i64)]⟩ [⟨(.exit 0), [(9, .hole (.int .i64))], [.arr 3 (.int .i64)]⟩] (.block (.seq (.block (.loop ⟨.normal, [(9, .hole (.int .i64))], [.arr 3 (.int .i64)]⟩ [⟨(.exit 2), [(9, .hole (.int .i64))], [.arr 3 (.int .i64)]⟩] (.seq (.seq (.join [⟨.normal, [(43, .hole .bool)], [.arr 3 (.int .i64)]⟩] .leaf) (.cond .leaf .leaf)) (.block .leaf)))) (.seq (.block (.loop ⟨.normal, [(10, .hole (.int .i64))], [.arr 3 (.int .i64)]⟩ [⟨(.exit 4), [(10, .hole (.int .i64))], [.arr 3 (.int .i64)]⟩] (.seq (.seq (.join [⟨.normal, [(59, .hole .bool)], [.arr 3 (.int .i64)]⟩] .leaf) (.cond .leaf .leaf)) (.block .leaf)))) (.seq (.seq .leaf (.cond .leaf .leaf)) (.seq (.eff 1 [] [0, 0, 0, 0, 0, 0, 48, 112, 0, 0, 768, 1792, 4083, 8179, 16383, 32767]) (.seq .leaf .leaf)))))))) (.seq .leaf .leaf)))))
/- slices.partitionEqualOrdered[int] -/
noncomputable def S.f116F : Int × Int × Int × List Int → Option (Int × List Int) :=
  fun (x : Int × Int × Int × List Int) =>
  if (0 : Int) ≤ x.snd.snd.fst ∧ x.snd.snd.fst < (↑(List.length x.snd.snd.snd) : Int) then
    if (0 : Int) ≤ x.fst ∧ x.fst < (↑(List.length x.snd.snd.snd) : Int) then
      if (0 : Int) ≤ x.fst ∧ x.fst < (↑(List.length x.snd.snd.snd) : Int) then
        if (0 : Int) ≤ x.snd.snd.fst ∧ x.snd.snd.fst < (↑(List.length (List.set x.snd.snd.2 (Int.toNat x.fst) (List.getD x.snd.snd.2 (Int.toNat x.snd.snd.fst) (0 : Int)))) : Int) then
          Option.bind
            (Go.Sx.iter
              (fun (s1 : Int × Int × List Int) =>
                Option.bind
                  (Go.Sx.iter
                    (fun (s2 : Int × List Int) =>
                      Option.bind
                        (if Decidable.decide (s2.fst ≤ s1.snd.fst) = Bool.true then
                          if (0 : Int) ≤ x.fst ∧ x.fst < (↑(List.length s2.snd) : Int) then
                            if (0 : Int) ≤ s2.fst ∧ s2.fst < (↑(List.length s2.snd) : Int) then
                              Option.bind (Go.Sx.S.f105F (List.getD s2.2 (Int.toNat x.fst) (0 : Int), List.getD s2.2 (Int.toNat s2.fst) (0 : Int))) fun (v3 : Bool) => Option.some (!v3, s2.2)
                            else Option.none
                          else Option.none
                        else Option.some (Bool.false, s2.2))
                        fun (v3 : Bool × List Int) =>
                        if v3.fst = Bool.true then Option.some (Sum.inl (Go.IntKind.wrap Go.IntKind.i64 (s2.fst + (1 : Int)), v3.2)) else Option.some (Sum.inr (s2.1, v3.2)))
                    (s1.1, s1.snd.2))
                  fun (v2 : Int × List Int) =>
                  Option.bind
                    (Go.Sx.iter
                      (fun (s3 : Int × List Int) =>
                        Option.bind
                          (if Decidable.decide (v2.fst ≤ s3.fst) = Bool.true then
                            if (0 : Int) ≤ x.fst ∧ x.fst < (↑(List.length s3.snd) : Int) then
                              if (0 : Int) ≤ s3.fst ∧ s3.fst < (↑(List.length s3.snd) : Int) then
                                Option.bind (Go.Sx.S.f105F (List.getD s3.2 (Int.toNat x.fst) (0 : Int), List.getD s3.2 (Int.toNat s3.fst) (0 : Int))) fun (v4 : Bool) => Option.some (v4, s3.2)
                              else Option.none
                            else Option.none
                          else Option.some (Bool.false, s3.2))
                          fun (v4 : Bool × List Int) =>
                          if v4.fst = Bool.true then Option.some (Sum.inl (Go.IntKind.wrap Go.IntKind.i64 (s3.fst - (1 : Int)), v4.2)) else Option.some (Sum.inr (s3.1, v4.2)))
                      (s1.snd.1, v2.2))
                    fun (v3 : Int × List Int) =>
                    if Decidable.decide (v2.fst > v3.fst) = Bool.true then Option.some (Sum.inr (v2.1, v3.2))
                    else
                      if (0 : Int) ≤ v3.fst ∧ v3.fst < (↑(List.length v3.snd) : Int) then
                        if (0 : Int) ≤ v2.fst ∧ v2.fst < (↑(List.length v3.snd) : Int) then
                          if (0 : Int) ≤ v2.fst ∧ v2.fst < (↑(List.length v3.snd) : Int) then
                            if (0 : Int) ≤ v3.fst ∧ v3.fst < (↑(List.length (List.set v3.2 (Int.toNat v2.fst) (List.getD v3.2 (Int.toNat v3.fst) (0 : Int)))) : Int) then
                              Option.some
                                (Sum.inl
                                  (Go.IntKind.wrap Go.IntKind.i64 (v2.fst + (1 : Int)), Go.IntKind.wrap Go.IntKind.i64 (v3.fst - (1 : Int)),
                                    List.set (List.set v3.2 (Int.toNat v2.fst) (List.getD v3.2 (Int.toNat v3.fst) (0 : Int))) (Int.toNat v3.fst) (List.getD v3.2 (Int.toNat v2.fst) (0 : Int))))
                            else Option.none
                          else Option.none
                        else Option.none
                      else Option.none)
              (Go.IntKind.wrap Go.IntKind.i64 (x.fst + (1 : Int)), Go.IntKind.wrap Go.IntKind.i64 (x.snd.fst - (1 : Int)),
                List.set (List.set x.snd.snd.2 (Int.toNat x.fst) (List.getD x.snd.snd.2 (Int.toNat x.snd.snd.fst) (0 : Int))) (Int.toNat x.snd.snd.fst)
                  (List.getD x.snd.snd.2 (Int.toNat x.fst) (0 : Int))))
            fun (v1 : Int × List Int) => Option.some (v1.1, v1.2)
        else Option.none
      else Option.none
    else Option.none
  else Option.none
theorem S.f116eq : ∀ x, runFn S.C S.f116Γ S.f116sig S.f116ann Go.Proofs.Try.f116 x = S.f116F x := by
  intro x
  kernel_rfl
noncomputable def S.f116con : Con := ⟨116, S.f116sig, S.f116F⟩
theorem S.f116ok : Con.Ok Go.Proofs.Try.prog S.C S.f116con :=
  runFn_ok (Γ := S.f116Γ) (an := S.f116ann) ⟨S.Cok, (List.forall_mem_cons.2 ⟨S.f105ok, (fun _ h => nomatch h)⟩), S.mixed⟩ Go.Proofs.Try.func116 rfl rfl (fun x y h => (S.f116eq x).trans h) (by decide)
def S.f117sig : Sig := ⟨⟨[.own 0, .hole (.int .i64), .hole (.int .i64), .hole (.int .i64)], [.arr 3 (.int .i64)]⟩, ⟨[.hole (.int .i64), .hole .bool], [.arr 3 (.int .i64)]⟩⟩
noncomputable def S.f117Γ : List Con := [S.f105con]
def S.f117ann : Ann :=
  (.seq .leaf (.seq (.eff 1 [] [0, 0, 0, 0, 0, 0, 48, 112, 0, 0, 768, 1792, 4083, 8179, 16383, 32767]) (.seq .leaf (.seq (.block (.loop ⟨.normal, [(10, .hole (.int .i64))], [.arr 3 (.int .i64)]⟩ [⟨(.exit 0), [(10, .hole (.int .i64))], [.arr 3 (.int .i64)]⟩] (.seq (.seq (.join [⟨.normal, [(43, .hole .bool)], [.arr 3 (.int .i64)]⟩] .leaf) (.cond .leaf .leaf)) (.block .leaf)))) (.seq (.block (.loop ⟨.normal, [(11, .hole (.int .i64))], [.arr 3 (.int .i64)]⟩ [⟨(.exit 2), [(11, .hole (.int .i64))], [.arr 3 (.int .i64)]⟩] (.seq (.seq (.join [⟨.normal, [(60, .hole .bool)], [.arr 3 (.int .i64)]⟩] .leaf) (.cond .leaf .leaf)) (.block .leaf)))) (.seq (.seq .leaf (.cond (.seq (.eff 1 [] [0, 0, 0, 0, 0, 0, 48, 112, 0, 0, 768, 1792, 4083, 8179, 16383, 32767]) (.seq .leaf .leaf)) .leaf)) (.seq (.eff 1 [] [0, 0, 0, 0, 0, 0, 48, 112, 0, 0, 768, 1792, 4083, 8179, 16383, 32767]) (.seq .leaf (.seq .leaf (.seq (.block (.loop ⟨.normal, [(10, .hole (.int .i64)), (11, .hole (.int .i64))], [.arr 3 (.int .i64)]⟩ [⟨(.exit 4), [(11, .hole (.int .i64))], [.arr 3 (.int .i64)]⟩] (.block (.seq (.block (.loop ⟨.normal, [(10, .hole (.int .i64))], [.arr 3 (.int .i64)]⟩ [⟨(.exit 6), [(10, .hole (.int .i64))], [.arr 3 (.int .i64)]⟩] (.seq (.seq (.join [⟨.normal, [(112, .hole .bool)], [.arr 3 (.int .i64)]⟩] .leaf) (.cond .leaf .leaf)) (.block .leaf)))) (.seq (.block (.loop ⟨.normal, [(11, .hole (.int .i64))], [.arr 3 (.int .i64)]⟩ [⟨(.exit 8), [(11, .hole (.int .i64))], [.arr 3 (.int .i64)]⟩] (.seq (.seq (.join [⟨.normal, [(129, .hole .bool)], [.arr 3 (.int .i64)]⟩] .leaf) (.cond .leaf .leaf)) (.block .leaf)))) (.seq (.seq .leaf (.cond .leaf .leaf)) (.seq (.eff 1 [] [0, 0, 0, 0, 0, 0, 48, 112, 0, 0, 768, 1792, 4083, 8179, 16383, 32767]) (.seq .leaf .leaf)))))))) (.seq (.eff 1 [] [0, 0, 0, 0, 0, 0, 48, 112, 0, 0, 768, 1792, 4083, 8179, 16383, 32767]) (.seq .leaf .leaf))))))))))))
/- slices.partitionOrdered[int] -/
noncomputable def S.f117F : Int × Int × Int × List Int → Option (Int × Bool × List Int) :=
  fun (x : Int × Int × Int × List Int) =>
  if (0 : Int) ≤ x.snd.snd.fst ∧ x.snd.snd.fst < (↑(List.length x.snd.snd.snd) : Int) then
    if (0 : Int) ≤ x.fst ∧ x.fst < (↑(List.length x.snd.snd.snd) : Int) then
      if (0 : Int) ≤ x.fst ∧ x.fst < (↑(List.length x.snd.snd.snd) : Int) then
        if (0 : Int) ≤ x.snd.snd.fst ∧ x.snd.snd.fst < (↑(List.length (List.set x.snd.snd.2 (Int.toNat x.fst) (List.getD x.snd.snd.2 (Int.toNat x.snd.snd.fst) (0 : Int)))) : Int) then
          Option.bind
            (Go.Sx.iter
              (fun (s1 : Int × List Int) =>
                Option.bind
                  (if Decidable.decide (s1.fst ≤ Go.IntKind.wrap Go.IntKind.i64 (x.snd.fst - (1 : Int))) = Bool.true then
                    if (0 : Int) ≤ s1.fst ∧ s1.fst < (↑(List.length s1.snd) : Int) then
                      if (0 : Int) ≤ x.fst ∧ x.fst < (↑(List.length s1.snd) : Int) then
                        Option.bind (Go.Sx.S.f105F (List.getD s1.2 (Int.toNat s1.fst) (0 : Int), List.getD s1.2 (Int.toNat x.fst) (0 : Int))) fun (v2 : Bool) => Option.some (v2, s1.2)
                      else Option.none
                    else Option.none
                  else Option.some (Bool.false, s1.2))
                  fun (v2 : Bool × List Int) => if v2.fst = Bool.true then Option.some (Sum.inl (Go.IntKind.wrap Go.IntKind.i64 (s1.fst + (1 : Int)), v2.2)) else Option.some (Sum.inr (s1.1, v2.2)))
              (Go.IntKind.wrap Go.IntKind.i64 (x.fst + (1 : Int)),
                List.set (List.set x.snd.snd.2 (Int.toNat x.fst) (List.getD x.snd.snd.2 (Int.toNat x.snd.snd.fst) (0 : Int))) (Int.toNat x.snd.snd.fst)
                  (List.getD x.snd.snd.2 (Int.toNat x.fst) (0 : Int))))
            fun (v1 : Int × List Int) =>
            Option.bind
              (Go.Sx.iter
                (fun (s2 : Int × List Int) =>
                  Option.bind
                    (if Decidable.decide (v1.fst ≤ s2.fst) = Bool.true then
                      if (0 : Int) ≤ s2.fst ∧ s2.fst < (↑(List.length s2.snd) : Int) then
                        if (0 : Int) ≤ x.fst ∧ x.fst < (↑(List.length s2.snd) : Int) then
                          Option.bind (Go.Sx.S.f105F (List.getD s2.2 (Int.toNat s2.fst) (0 : Int), List.getD s2.2 (Int.toNat x.fst) (0 : Int))) fun (v3 : Bool) => Option.some (!v3, s2.2)
                        else Option.none
                      else Option.none
                    else Option.some (Bool.false, s2.2))
                    fun (v3 : Bool × List Int) => if v3.fst = Bool.true then Option.some (Sum.inl (Go.IntKind.wrap Go.IntKind.i64 (s2.fst - (1 : Int)), v3.2)) else Option.some (Sum.inr (s2.1, v3.2)))
                (Go.IntKind.wrap Go.IntKind.i64 (x.snd.fst - (1 : Int)), v1.2))
              fun (v2 : Int × List Int) =>
              if Decidable.decide (v1.fst > v2.fst) = Bool.true then
                if (0 : Int) ≤ x.fst ∧ x.fst < (↑(List.length v2.snd) : Int) then
                  if (0 : Int) ≤ v2.fst ∧ v2.fst < (↑(List.length v2.snd) : Int) then
                    if (0 : Int) ≤ v2.fst ∧ v2.fst < (↑(List.length v2.snd) : Int) then
                      if (0 : Int) ≤ x.fst ∧ x.fst < (↑(List.length (List.set v2.2 (Int.toNat v2.fst) (List.getD v2.2 (Int.toNat x.fst) (0 : Int)))) : Int) then
                        Option.some
                          (v2.1, Bool.true, List.set (List.set v2.2 (Int.toNat v2.fst) (List.getD v2.2 (Int.toNat x.fst) (0 : Int))) (Int.toNat x.fst) (List.getD v2.2 (Int.toNat v2.fst) (0 : Int)))
                      else Option.none
                    else Option.none
                  else Option.none
                else Option.none
              else
                if (0 : Int) ≤ v2.fst ∧ v2.fst < (↑(List.length v2.snd) : Int) then
                  if (0 : Int) ≤ v1.fst ∧ v1.fst < (↑(List.length v2.snd) : Int) then
                    if (0 : Int) ≤ v1.fst ∧ v1.fst < (↑(List.length v2.snd) : Int) then
                      if (0 : Int) ≤ v2.fst ∧ v2.fst < (↑(List.length (List.set v2.2 (Int.toNat v1.fst) (List.getD v2.2 (Int.toNat v2.fst) (0 : Int)))) : Int) then
                        Option.bind
                          (Go.Sx.iter
                            (fun (s3 : Int × Int × List Int) =>
                              Option.bind
                                (Go.Sx.iter
                                  (fun (s4 : Int × List Int) =>
                                    Option.bind
                                      (if Decidable.decide (s4.fst ≤ s3.snd.fst) = Bool.true then
                                        if (0 : Int) ≤ s4.fst ∧ s4.fst < (↑(List.length s4.snd) : Int) then
                                          if (0 : Int) ≤ x.fst ∧ x.fst < (↑(List.length s4.snd) : Int) then
                                            Option.bind (Go.Sx.S.f105F (List.getD s4.2 (Int.toNat s4.fst) (0 : Int), List.getD s4.2 (Int.toNat x.fst) (0 : Int))) fun (v5 : Bool) =>
                                              Option.some (v5, s4.2)
                                          else Option.none
                                        else Option.none
                                      else Option.some (Bool.false, s4.2))
                                      fun (v5 : Bool × List Int) =>
                                      if v5.fst = Bool.true then Option.some (Sum.inl (Go.IntKind.wrap Go.IntKind.i64 (s4.fst + (1 : Int)), v5.2)) else Option.some (Sum.inr (s4.1, v5.2)))
                                  (s3.1, s3.snd.2))
                                fun (v4 : Int × List Int) =>
                                Option.bind
                                  (Go.Sx.iter
                                    (fun (s5 : Int × List Int) =>
                                      Option.bind
                                        (if Decidable.decide (v4.fst ≤ s5.fst) = Bool.true then
                                          if (0 : Int) ≤ s5.fst ∧ s5.fst < (↑(List.length s5.snd) : Int) then
                                            if (0 : Int) ≤ x.fst ∧ x.fst < (↑(List.length s5.snd) : Int) then
                                              Option.bind (Go.Sx.S.f105F (List.getD s5.2 (Int.toNat s5.fst) (0 : Int), List.getD s5.2 (Int.toNat x.fst) (0 : Int))) fun (v6 : Bool) =>
                                                Option.some (!v6, s5.2)
                                            else Option.none
                                          else Option.none
                                        else Option.some (Bool.false, s5.2))
                                        fun (v6 : Bool × List Int) =>
                                        if v6.fst = Bool.true then Option.some (Sum.inl (Go.IntKind.wrap Go.IntKind.i64 (s5.fst - (1 : Int)), v6.2)) else Option.some (Sum.inr (s5.1, v6.2)))
                                    (s3.snd.1, v4.2))
                                  fun (v5 : Int × List Int) =>
                                  if Decidable.decide (v4.fst > v5.fst) = Bool.true then Option.some (Sum.inr (v5.1, v5.2))
                                  else
                                    if (0 : Int) ≤ v5.fst ∧ v5.fst < (↑(List.length v5.snd) : Int) then
                                      if (0 : Int) ≤ v4.fst ∧ v4.fst < (↑(List.length v5.snd) : Int) then
                                        if (0 : Int) ≤ v4.fst ∧ v4.fst < (↑(List.length v5.snd) : Int) then
                                          if (0 : Int) ≤ v5.fst ∧ v5.fst < (↑(List.length (List.set v5.2 (Int.toNat v4.fst) (List.getD v5.2 (Int.toNat v5.fst) (0 : Int)))) : Int) then
                                            Option.some
                                              (Sum.inl
                                                (Go.IntKind.wrap Go.IntKind.i64 (v4.fst + (1 : Int)), Go.IntKind.wrap Go.IntKind.i64 (v5.fst - (1 : Int)),
                                                  List.set (List.set v5.2 (Int.toNat v4.fst) (List.getD v5.2 (Int.toNat v5.fst) (0 : Int))) (Int.toNat v5.fst)
                                                    (List.getD v5.2 (Int.toNat v4.fst) (0 : Int))))
                                          else Option.none
                                        else Option.none
                                      else Option.none
                                    else Option.none)
                            (Go.IntKind.wrap Go.IntKind.i64 (v1.fst + (1 : Int)), Go.IntKind.wrap Go.IntKind.i64 (v2.fst - (1 : Int)),
                              List.set (List.set v2.2 (Int.toNat v1.fst) (List.getD v2.2 (Int.toNat v2.fst) (0 : Int))) (Int.toNat v2.fst) (List.getD v2.2 (Int.toNat v1.fst) (0 : Int))))
                          fun (v3 : Int × List Int) =>
                          if (0 : Int) ≤ x.fst ∧ x.fst < (↑(List.length v3.snd) : Int) then
                            if (0 : Int) ≤ v3.fst ∧ v3.fst < (↑(List.length v3.snd) : Int) then
                              if (0 : Int) ≤ v3.fst ∧ v3.fst < (↑(List.length v3.snd) : Int) then
                                if (0 : Int) ≤ x.fst ∧ x.fst < (↑(List.length (List.set v3.2 (Int.toNat v3.fst) (List.getD v3.2 (Int.toNat x.fst) (0 : Int)))) : Int) then
                                  Option.some
                                    (v3.1, Bool.false,
                                      List.set (List.set v3.2 (Int.toNat v3.fst) (List.getD v3.2 (Int.toNat x.fst) (0 : Int))) (Int.toNat x.fst) (List.getD v3.2 (Int.toNat v3.fst) (0 : Int)))
                                else Option.none
                              else Option.none
                            else Option.none
                          else Option.none
                      else Option.none
                    else Option.none
                  else Option.none
                else Option.none
        else Option.none
      else Option.none
    else Option.none
  else Option.none
theorem S.f117eq : ∀ x, runFn S.C S.f117Γ S.f117sig S.f117ann Go.Proofs.Try.f117 x = S.f117F x := by
  intro x
  kernel_rfl
noncomputable def S.f117con : Con := ⟨117, S.f117sig, S.f117F⟩
theorem S.f117ok : Con.Ok Go.Proofs.Try.prog S.C S.f117con :=
  runFn_ok (Γ := S.f117Γ) (an := S.f117ann) ⟨S.Cok, (List.forall_mem_cons.2 ⟨S.f105ok, (fun _ h => nomatch h)⟩), S.mixed⟩ Go.Proofs.Try.func117 rfl rfl (fun x y h => (S.f117eq x).trans h) (by decide)
def S.f100sig : Sig := ⟨⟨[.own 0, .hole (.int .i64), .hole (.int .i64), .hole (.int .i64)], [.arr 3 (.int .i64)]⟩, ⟨[], [.arr 3 (.int .i64)]⟩⟩
noncomputable def S.f100Γ (r100 : Int × Int × Int × List Int → Option (List Int)) : List Con := [S.f110con, S.f111con, S.f112con, S.f113con, S.f114con, S.f115con, S.f105con, S.f116con, S.f117con, ⟨100, S.f100sig, r100⟩]
def S.f100ann : Ann :=
  (.seq .leaf (.seq .leaf (.block (.loop ⟨.normal, [(3, .hole (.int .i64)), (1, .hole (.int .i64)), (9, .hole .bool), (8, .hole .bool), (2, .hole (.int .i64))], [.arr 3 (.int .i64)]⟩ [⟨.ret, [], [.arr 3 (.int .i64)]⟩] (.block (.seq .leaf (.seq (.seq .leaf (.cond (.seq .leaf .leaf) .leaf)) (.seq (.seq .leaf (.cond (.seq .leaf .leaf) .leaf)) (.seq (.join [⟨.normal, [(3, .hole (.int .i64))], [.arr 3 (.int .i64)]⟩] (.seq .leaf (.cond (.seq .leaf .leaf) .leaf))) (.seq .leaf (.seq (.join [⟨.normal, [(11, .hole (.int .i64)), (12, .hole (.int .i64))], [.arr 3 (.int .i64)]⟩] (.seq .leaf (.cond (.seq .leaf (.seq .leaf .leaf)) .leaf))) (.seq (.join [⟨.ret, [], [.arr 3 (.int .i64)]⟩, ⟨.normal, [], [.arr 3 (.int .i64)]⟩] (.seq (.join [⟨.normal, [(68, .hole .bool)], [.arr 3 (.int .i64)]⟩] .leaf) (.cond (.seq .leaf (.cond .leaf .leaf)) .leaf))) (.seq (.seq (.join [⟨.normal, [(87, .hole .bool)], [.arr 3 (.int .i64)]⟩] .leaf) (.cond (.seq .leaf (.seq .leaf .leaf)) .leaf)) (.seq .leaf (.seq .leaf (.seq .leaf (.seq .leaf (.seq .leaf (.cond (.seq .leaf (.seq .leaf .leaf)) (.seq .leaf (.seq .leaf .leaf)))))))))))))))))))))
/- slices.pdqsortOrdered[int] -/
noncomputable def S.f100S (r100 : Int × Int × Int × List Int → Option (List Int)) : Int × Int × Int × List Int → Option (List Int) :=
  fun (x : Int × Int × Int × List Int) =>
  Option.bind
    (Go.Sx.iter
      (fun (s1 : Int × Int × Bool × Bool × Int × List Int) =>
        if Decidable.decide (Go.IntKind.wrap Go.IntKind.i64 (s1.snd.snd.snd.snd.fst - s1.snd.fst) ≤ (12 : Int)) = Bool.true then
          Option.bind (Go.Sx.S.f110F (s1.snd.1, s1.snd.snd.snd.snd.1, s1.snd.snd.snd.snd.2)) fun (v2 : List Int) => Option.some (Sum.inr v2)
        else
          if (s1.fst == (0 : Int)) = Bool.true then Option.bind (Go.Sx.S.f111F (s1.snd.1, s1.snd.snd.snd.snd.1, s1.snd.snd.snd.snd.2)) fun (v2 : List Int) => Option.some (Sum.inr v2)
          else
            Option.bind
              (if (!s1.snd.snd.snd.fst) = Bool.true then
                Option.bind (Go.Sx.S.f112F (s1.snd.1, s1.snd.snd.snd.snd.1, s1.snd.snd.snd.snd.2)) fun (v2 : List Int) => Option.some (Go.IntKind.wrap Go.IntKind.i64 (s1.fst - (1 : Int)), v2)
              else Option.some (s1.1, s1.snd.snd.snd.snd.2))
              fun (v2 : Int × List Int) =>
              Option.bind (Go.Sx.S.f113F (s1.snd.1, s1.snd.snd.snd.snd.1, v2.2)) fun (v3 : Int × Int × List Int) =>
                Option.bind
                  (if (v3.snd.fst == (2 : Int)) = Bool.true then
                    Option.bind (Go.Sx.S.f114F (s1.snd.1, s1.snd.snd.snd.snd.1, v3.snd.2)) fun (v4 : List Int) =>
                      Option.some
                        (Go.IntKind.wrap Go.IntKind.i64 (Go.IntKind.wrap Go.IntKind.i64 (s1.snd.snd.snd.snd.fst - (1 : Int)) - Go.IntKind.wrap Go.IntKind.i64 (v3.fst - s1.snd.fst)), (1 : Int), v4)
                  else Option.some (v3.1, v3.snd.1, v3.snd.2))
                  fun (v4 : Int × Int × List Int) =>
                  Option.bind
                    (Option.bind
                      (if s1.snd.snd.snd.fst = Bool.true then if s1.snd.snd.fst = Bool.true then Option.some (v4.snd.fst == (1 : Int), v4.snd.2) else Option.some (Bool.false, v4.snd.2)
                      else Option.some (Bool.false, v4.snd.2))
                      fun (v5 : Bool × List Int) =>
                      if v5.fst = Bool.true then
                        Option.bind (Go.Sx.S.f115F (s1.snd.1, s1.snd.snd.snd.snd.1, v5.2)) fun (v6 : Bool × List Int) =>
                          if v6.fst = Bool.true then Option.some (Sum.inl v6.2) else Option.some (Sum.inr v6.2)
                      else Option.some (Sum.inr v5.2))
                    fun (v5 : List Int ⊕ List Int) =>
                    Sum.elim (fun (p6 : List Int) => Option.some (Sum.inr p6))
                      (fun (q6 : List Int) =>
                        Option.bind
                          (if Decidable.decide (s1.snd.fst > (0 : Int)) = Bool.true then
                            if (0 : Int) ≤ Go.IntKind.wrap Go.IntKind.i64 (s1.snd.fst - (1 : Int)) ∧ Go.IntKind.wrap Go.IntKind.i64 (s1.snd.fst - (1 : Int)) < (↑(List.length q6) : Int) then
                              if (0 : Int) ≤ v4.fst ∧ v4.fst < (↑(List.length q6) : Int) then
                                Option.bind (Go.Sx.S.f105F (List.getD q6 (Int.toNat (Go.IntKind.wrap Go.IntKind.i64 (s1.snd.fst - (1 : Int)))) (0 : Int), List.getD q6 (Int.toNat v4.fst) (0 : Int)))
                                  fun (v7 : Bool) => Option.some (!v7, q6)
                              else Option.none
                            else Option.none
                          else Option.some (Bool.false, q6))
                          fun (v7 : Bool × List Int) =>
                          if v7.fst = Bool.true then
                            Option.bind (Go.Sx.S.f116F (s1.snd.1, s1.snd.snd.snd.snd.1, v4.1, v7.2)) fun (v8 : Int × List Int) =>
                              Option.some (Sum.inl (v2.1, v8.1, s1.snd.snd.1, s1.snd.snd.snd.1, s1.snd.snd.snd.snd.1, v8.2))
                          else
                            Option.bind (Go.Sx.S.f117F (s1.snd.1, s1.snd.snd.snd.snd.1, v4.1, v7.2)) fun (v8 : Int × Bool × List Int) =>
                              if Decidable.decide (Go.IntKind.wrap Go.IntKind.i64 (v8.fst - s1.snd.fst) < Go.IntKind.wrap Go.IntKind.i64 (s1.snd.snd.snd.snd.fst - v8.fst)) = Bool.true then
                                Option.bind (r100 (s1.snd.1, v8.1, v2.1, v8.snd.2)) fun (v9 : List Int) =>
                                  Option.some
                                    (Sum.inl
                                      (v2.1, Go.IntKind.wrap Go.IntKind.i64 (v8.fst + (1 : Int)), v8.snd.1,
                                        Decidable.decide
                                          (Go.IntKind.wrap Go.IntKind.i64 (v8.fst - s1.snd.fst) ≥
                                            Go.IntKind.wrap Go.IntKind.i64 (Int.tdiv (Go.IntKind.wrap Go.IntKind.i64 (s1.snd.snd.snd.snd.fst - s1.snd.fst)) (8 : Int))),
                                        s1.snd.snd.snd.snd.1, v9))
                              else
                                Option.bind (r100 (Go.IntKind.wrap Go.IntKind.i64 (v8.fst + (1 : Int)), s1.snd.snd.snd.snd.1, v2.1, v8.snd.2)) fun (v9 : List Int) =>
                                  Option.some
                                    (Sum.inl
                                      (v2.1, s1.snd.1, v8.snd.1,
                                        Decidable.decide
                                          (Go.IntKind.wrap Go.IntKind.i64 (s1.snd.snd.snd.snd.fst - v8.fst) ≥
                                            Go.IntKind.wrap Go.IntKind.i64 (Int.tdiv (Go.IntKind.wrap Go.IntKind.i64 (s1.snd.snd.snd.snd.fst - s1.snd.fst)) (8 : Int))),
                                        v8.1, v9)))
                      v5)
      (x.snd.snd.1, x.1, Bool.true, Bool.true, x.snd.1, x.snd.snd.2))
    fun (v1 : List Int) => Option.some v1
theorem S.f100eq (r100 : Int × Int × Int × List Int → Option (List Int)) : ∀ x, runFn S.C (S.f100Γ r100) S.f100sig S.f100ann Go.Proofs.Try.f100 x = S.f100S r100 x := by
  intro x
  kernel_rfl
noncomputable def S.f100N : Nat → (Int × Int × Int × List Int → Option (List Int))
  | 0 => fun _ => none
  | n + 1 => S.f100S ((S.f100N n))
noncomputable def S.f100F : Int × Int × Int × List Int → Option (List Int) := (S.f100N S.fuel)
noncomputable def S.f100con : Con := ⟨100, S.f100sig, S.f100F⟩
theorem S.f100Nok : ∀ n, Con.Ok Go.Proofs.Try.prog S.C ⟨100, S.f100sig, (S.f100N n)⟩
  | 0 => runFn_ok (Γ := []) (an := .leaf) ⟨S.Cok, (fun _ h => nomatch h), S.mixed⟩ Go.Proofs.Try.func100 rfl rfl (fun x y h => nomatch h) (by decide)
  | n + 1 => have h := S.f100Nok n
    runFn_ok (Γ := S.f100Γ ((S.f100N n))) (an := S.f100ann) ⟨S.Cok, (List.forall_mem_cons.2 ⟨S.f110ok, (List.forall_mem_cons.2 ⟨S.f111ok, (List.forall_mem_cons.2 ⟨S.f112ok, (List.forall_mem_cons.2 ⟨S.f113ok, (List.forall_mem_cons.2 ⟨S.f114ok, (List.forall_mem_cons.2 ⟨S.f115ok, (List.forall_mem_cons.2 ⟨S.f105ok, (List.forall_mem_cons.2 ⟨S.f116ok, (List.forall_mem_cons.2 ⟨S.f117ok, (List.forall_mem_cons.2 ⟨h, (fun _ h => nomatch h)⟩)⟩)⟩)⟩)⟩)⟩)⟩)⟩)⟩)⟩), S.mixed⟩ Go.Proofs.Try.func100 rfl rfl (fun x y h => (S.f100eq _ x).trans h) (by decide)
theorem S.f100ok : Con.Ok Go.Proofs.Try.prog S.C S.f100con := (S.f100Nok S.fuel)
def S.f74sig : Sig := ⟨⟨[.own 0], [.arr 3 (.int .i64)]⟩, ⟨[], [.arr 3 (.int .i64)]⟩⟩
noncomputable def S.f74Γ : List Con := [S.f101con, S.f100con]
def S.f74ann : Ann :=
  (.seq .leaf .leaf)
/- slices.Sort[[]int,int] -/
noncomputable def S.f74F : List Int → Option (List Int) :=
  fun (x : List Int) =>
  Option.bind (Go.Sx.S.f101F (Go.IntKind.wrap Go.IntKind.u64 (↑(List.length x) : Int))) fun (v1 : Int) =>
    Option.bind (Go.Sx.S.f100F ((0 : Int), (↑(List.length x) : Int), v1, x)) fun (v2 : List Int) => Option.some v2
theorem S.f74eq : ∀ x, runFn S.C S.f74Γ S.f74sig S.f74ann Go.Proofs.Try.f74 x = S.f74F x := by
  intro x
  kernel_rfl
noncomputable def S.f74con : Con := ⟨74, S.f74sig, S.f74F⟩
theorem S.f74ok : Con.Ok Go.Proofs.Try.prog S.C S.f74con :=
  runFn_ok (Γ := S.f74Γ) (an := S.f74ann) ⟨S.Cok, (List.forall_mem_cons.2 ⟨S.f101ok, (List.forall_mem_cons.2 ⟨S.f100ok, (fun _ h => nomatch h)⟩)⟩), S.mixed⟩ Go.Proofs.Try.func74 rfl rfl (fun x y h => (S.f74eq x).trans h) (by decide)
def S.f75sig : Sig := ⟨⟨[.own 0], [.arr 3 (.int .i64)]⟩, ⟨[.own 1], [.gone, .arr 3 (.int .i64)]⟩⟩
noncomputable def S.f75Γ : List Con := []
def S.f75ann : Ann :=
  (.seq .leaf (.seq (.seq .leaf (.cond (.seq .leaf .leaf) .leaf)) (.seq (.seq .leaf (.block (.loop ⟨.normal, [(3, .hole (.int .i64))], [.arr 3 (.int .i64)]⟩ [⟨(.exit 0), [], [.arr 3 (.int .i64)]⟩, ⟨.ret, [(2, .own 1)], [.gone, .arr 3 (.int .i64)]⟩] (.seq (.seq .leaf (.cond .leaf .leaf)) (.seq (.block (.seq .leaf (.cond (.seq .leaf (.seq (.seq .leaf (.block (.loop ⟨.normal, [(3, .hole (.int .i64)), (5, .hole (.int .i64))], [.arr 3 (.int .i64)]⟩ [⟨(.exit 2), [(3, .hole (.int .i64))], [.arr 3 (.int .i64)]⟩] (.seq (.seq .leaf (.cond .leaf .leaf)) (.seq (.block (.seq .leaf (.cond (.seq .leaf .leaf) .leaf))) .leaf))))) (.seq .leaf (.seq .leaf .leaf)))) .leaf))) .leaf))))) (.seq .leaf .leaf))))
/- slices.Compact[[]int,int] -/
noncomputable def S.f75F : List Int → Option (List Int) :=
  fun (x : List Int) =>
  if Decidable.decide ((↑(List.length x) : Int) < (2 : Int)) = Bool.true then Option.some x
  else
    Option.bind
      (Go.Sx.iter
        (fun (s1 : Int × List Int) =>
          if Decidable.decide (s1.fst < (↑(List.length s1.snd) : Int)) = Bool.true then
            if (0 : Int) ≤ s1.fst ∧ s1.fst < (↑(List.length s1.snd) : Int) then
              if (0 : Int) ≤ Go.IntKind.wrap Go.IntKind.i64 (s1.fst - (1 : Int)) ∧ Go.IntKind.wrap Go.IntKind.i64 (s1.fst - (1 : Int)) < (↑(List.length s1.snd) : Int) then
                if (List.getD s1.2 (Int.toNat s1.fst) (0 : Int) == List.getD s1.2 (Int.toNat (Go.IntKind.wrap Go.IntKind.i64 (s1.fst - (1 : Int)))) (0 : Int)) = Bool.true then
                  if (0 : Int) ≤ s1.fst ∧ s1.fst ≤ (↑(List.length s1.snd) : Int) then
                    Option.bind
                      (Go.Sx.iter
                        (fun (s2 : Int × Int × List Int) =>
                          if Decidable.decide (s2.snd.fst < (↑(List.length s1.snd - Int.toNat s1.fst) : Int)) = Bool.true then
                            if (0 : Int) ≤ s2.snd.fst ∧ s2.snd.fst < (↑(List.length s1.snd - Int.toNat s1.fst) : Int) then
                              if
                                  (0 : Int) ≤ Go.IntKind.wrap Go.IntKind.i64 (s2.snd.fst - (1 : Int)) ∧
                                    Go.IntKind.wrap Go.IntKind.i64 (s2.snd.fst - (1 : Int)) < (↑(List.length s1.snd - Int.toNat s1.fst) : Int) then
                                if
                                    (List.getD s2.snd.2 (Int.toNat s1.fst + Int.toNat s2.snd.fst) (0 : Int) !=
                                        List.getD s2.snd.2 (Int.toNat s1.fst + Int.toNat (Go.IntKind.wrap Go.IntKind.i64 (s2.snd.fst - (1 : Int)))) (0 : Int)) =
                                      Bool.true then
                                  if (0 : Int) ≤ s2.snd.fst ∧ s2.snd.fst < (↑(List.length s1.snd - Int.toNat s1.fst) : Int) then
                                    if (0 : Int) ≤ s2.fst ∧ s2.fst < (↑(List.length s2.snd.snd) : Int) then
                                      Option.some
                                        (Sum.inl
                                          (Go.IntKind.wrap Go.IntKind.i64 (s2.fst + (1 : Int)), Go.IntKind.wrap Go.IntKind.i64 (s2.snd.fst + (1 : Int)),
                                            List.set s2.snd.2 (Int.toNat s2.fst) (List.getD s2.snd.2 (Int.toNat s1.fst + Int.toNat s2.snd.fst) (0 : Int))))
                                    else Option.none
                                  else Option.none
                                else Option.some (Sum.inl (s2.1, Go.IntKind.wrap Go.IntKind.i64 (s2.snd.fst + (1 : Int)), s2.snd.2))
                              else Option.none
                            else Option.none
                          else Option.some (Sum.inr (s2.1, s2.snd.2)))
                        (s1.1, (1 : Int), s1.2))
                      fun (v2 : Int × List Int) =>
                      if (0 : Int) ≤ v2.fst ∧ v2.fst ≤ (↑(List.length v2.snd) : Int) then
                        if
                            (0 : Int) ≤ v2.fst ∧
                              v2.fst ≤
                                (↑(List.length
                                      (List.take (Int.toNat v2.fst) v2.snd ++
                                        (List.replicate (List.length v2.snd - Int.toNat v2.fst) (0 : Int) ++ List.drop (Int.toNat v2.fst + (List.length v2.snd - Int.toNat v2.fst)) v2.snd))) :
                                  Int) then
                          Option.some
                            (Sum.inr
                              (Sum.inr
                                (List.take (Int.toNat v2.fst)
                                  (List.take (Int.toNat v2.fst) v2.snd ++
                                    (List.replicate (List.length v2.snd - Int.toNat v2.fst) (0 : Int) ++ List.drop (Int.toNat v2.fst + (List.length v2.snd - Int.toNat v2.fst)) v2.snd)))))
                        else Option.none
                      else Option.none
                  else Option.none
                else Option.some (Sum.inl (Go.IntKind.wrap Go.IntKind.i64 (s1.fst + (1 : Int)), s1.2))
              else Option.none
            else Option.none
          else Option.some (Sum.inr (Sum.inl s1.2)))
        ((1 : Int), x))
      fun (v1 : List Int ⊕ List Int) => Sum.elim (fun (p2 : List Int) => Option.some p2) (fun (q2 : List Int) => Option.some q2) v1
theorem S.f75eq : ∀ x, runFn S.C S.f75Γ S.f75sig S.f75ann Go.Proofs.Try.f75 x = S.f75F x := by
  intro x
  kernel_rfl
noncomputable def S.f75con : Con := ⟨75, S.f75sig, S.f75F⟩
theorem S.f75ok : Con.Ok Go.Proofs.Try.prog S.C S.f75con :=
  runFn_ok (Γ := S.f75Γ) (an := S.f75ann) ⟨S.Cok, (fun _ h => nomatch h), S.mixed⟩ Go.Proofs.Try.func75 rfl rfl (fun x y h => (S.f75eq x).trans h) (by decide)
def S.f46sig : Sig := ⟨⟨[.hole (.sl (.st (.pair (.int .i64) (.pair (.sl (.st (.pair (.int .i64) (.int .i64)))) (.pair (.int .i64) (.int .i64)))))), .hole (.sl (.int .i64)), .hole (.int .i64)], []⟩, ⟨[.hole (.sl (.int .i64))], []⟩⟩
noncomputable def S.f46Γ : List Con := [S.f73con, S.f74con, S.f75con]
def S.f46ann : Ann :=
  (.seq .leaf (.seq .leaf (.seq (.seq .leaf (.block (.loop ⟨.normal, [(7, .own 0), (12, .hole (.int .i64))], [.arr 3 (.int .i64)]⟩ [⟨(.exit 0), [(7, .own 0)], [.arr 3 (.int .i64)]⟩] (.seq .leaf (.seq (.cond .leaf .leaf) (.seq (.block (.seq .leaf (.seq (.join [⟨.normal, [(40, .hole .bool)], [.arr 3 (.int .i64)]⟩] .leaf) (.cond .leaf .leaf)))) .leaf)))))) (.seq .leaf (.seq .leaf .leaf)))))
/- ductus/sim.move -/
noncomputable def S.f46F : List (Int × List (Int × Int) × Int × Int) × List Int × Int → Option (List Int) :=
  fun (x : List (Int × List (Int × Int) × Int × Int) × List Int × Int) =>
  Option.bind
    (Go.Sx.iter
      (fun (s1 : Int × List Int) =>
        if Decidable.decide (s1.fst < (↑(List.length x.snd.fst) : Int)) = Bool.true then
          if (0 : Int) ≤ s1.fst ∧ s1.fst < (↑(List.length x.snd.fst) : Int) then
            Option.bind
              (if Decidable.decide (List.getD x.snd.fst (Int.toNat s1.fst) (0 : Int) ≥ (0 : Int)) = Bool.true then
                if Decidable.decide (List.getD x.snd.fst (Int.toNat s1.fst) (0 : Int) < (↑(List.length x.fst) : Int)) = Bool.true then
                  if (0 : Int) ≤ List.getD x.snd.fst (Int.toNat s1.fst) (0 : Int) ∧ List.getD x.snd.fst (Int.toNat s1.fst) (0 : Int) < (↑(List.length x.fst) : Int) then
                    if ((List.getD x.fst (Int.toNat (List.getD x.snd.fst (Int.toNat s1.fst) (0 : Int))) ((0 : Int), [], (0 : Int), (0 : Int))).fst == (1 : Int)) = Bool.true then
                      if (0 : Int) ≤ List.getD x.snd.fst (Int.toNat s1.fst) (0 : Int) ∧ List.getD x.snd.fst (Int.toNat s1.fst) (0 : Int) < (↑(List.length x.fst) : Int) then
                        Option.bind (Go.Sx.S.f73F ((List.getD x.fst (Int.toNat (List.getD x.snd.fst (Int.toNat s1.fst) (0 : Int))) ((0 : Int), [], (0 : Int), (0 : Int))).snd.1, x.snd.2))
                          fun (v2 : Bool) => Option.some (v2, s1.2)
                      else Option.none
                    else Option.some (Bool.false, s1.2)
                  else Option.none
                else Option.some (Bool.false, s1.2)
              else Option.some (Bool.false, s1.2))
              fun (v2 : Bool × List Int) =>
              if v2.fst = Bool.true then
                if
                    Go.Sx.roomOk (List.length v2.snd + List.length [Go.IntKind.wrap Go.IntKind.i64 (List.getD x.snd.fst (Int.toNat s1.fst) (0 : Int) + (1 : Int))])
                      { kind := Go.Sx.TK.int Go.IntKind.i64, size := (1 : Nat), bytes := (8 : Nat), ty := Option.some (Go.Sx.Ty.int Go.IntKind.i64),
                          zero := [Go.Sx.SV.val (Go.Sx.Ty.int Go.IntKind.i64) (0 : Int)] : Go.Sx.TI }.bytes then
                  Option.some (Sum.inl (Go.IntKind.wrap Go.IntKind.i64 (s1.fst + (1 : Int)), v2.2 ++ [Go.IntKind.wrap Go.IntKind.i64 (List.getD x.snd.fst (Int.toNat s1.fst) (0 : Int) + (1 : Int))]))
                else Option.none
              else Option.some (Sum.inl (Go.IntKind.wrap Go.IntKind.i64 (s1.fst + (1 : Int)), v2.2))
          else Option.none
        else Option.some (Sum.inr s1.2))
      ((0 : Int), []))
    fun (v1 : List Int) => Option.bind (Go.Sx.S.f74F v1) fun (v2 : List Int) => Option.bind (Go.Sx.S.f75F v2) fun (v3 : List Int) => Option.some v3
theorem S.f46eq : ∀ x, runFn S.C S.f46Γ S.f46sig S.f46ann Go.Proofs.Try.f46 x = S.f46F x := by
  intro x
  kernel_rfl
noncomputable def S.f46con : Con := ⟨46, S.f46sig, S.f46F⟩
theorem S.f46ok : Con.Ok Go.Proofs.Try.prog S.C S.f46con :=
  runFn_ok (Γ := S.f46Γ) (an := S.f46ann) ⟨S.Cok, (List.forall_mem_cons.2 ⟨S.f73ok, (List.forall_mem_cons.2 ⟨S.f74ok, (List.forall_mem_cons.2 ⟨S.f75ok, (fun _ h => nomatch h)⟩)⟩)⟩), S.mixed⟩ Go.Proofs.Try.func46 rfl rfl (fun x y h => (S.f46eq x).trans h) (by decide)
def S.f49sig : Sig := ⟨⟨[.hole (.int .i64), .ptr 0 0], [.cells [.hole (.int .i64)]]⟩, ⟨[.hole .bool], [.cells [.hole (.int .i64)]]⟩⟩
noncomputable def S.f49Γ : List Con := []
def S.f49ann : Ann :=
  (.seq .leaf (.seq .leaf (.seq .leaf .leaf)))
/- ductus/sim.Longest$1 -/
noncomputable def S.f49F : Int × Int → Option (Bool × Int) :=
  fun (x : Int × Int) => Option.some (Bool.true, x.1)
theorem S.f49eq : ∀ x, runFn S.C S.f49Γ S.f49sig S.f49ann Go.Proofs.Try.f49 x = S.f49F x := by
  intro x
  kernel_rfl
noncomputable def S.f49con : Con := ⟨49, S.f49sig, S.f49F⟩
theorem S.f49ok : Con.Ok Go.Proofs.Try.prog S.C S.f49con :=
  runFn_ok (Γ := S.f49Γ) (an := S.f49ann) ⟨S.Cok, (fun _ h => nomatch h), S.mixed⟩ Go.Proofs.Try.func49 rfl rfl (fun x y h => (S.f49eq x).trans h) (by decide)
def S.s6sig : Sig := ⟨⟨[.hole (.sl (.st (.pair (.int .i64) (.pair (.sl (.st (.pair (.int .i64) (.int .i64)))) (.pair (.int .i64) (.int .i64)))))), .hole (.sl (.int .i64)), .hole (.int .i64), .fnc 49 1, .ptr 0 0], [.cells [.hole (.int .i64)]]⟩, ⟨[.hole (.int .i64)], [.cells [.hole (.int .i64)]]⟩⟩
noncomputable def S.s6Γ : List Con := [S.f42con, S.f43con, S.f44con, S.s5con, S.f46con, S.f49con]
def S.s6ann : Ann :=
  (.seq .leaf (.seq (.seq (.join [⟨.normal, [(25, .hole .bool)], [.cells [.hole (.int .i64)], .cells [.hole (.sl (.st (.pair (.int .i64) (.pair (.sl (.st (.pair (.int .i64) (.int .i64)))) (.pair (.int .i64) (.int .i64))))))]]⟩] .leaf) (.cond (.seq .leaf .leaf) .leaf)) (.seq .leaf (.seq (.block (.loop ⟨.normal, [(8, .hole (.int .i64)), (9, .hole (.sl (.int .i64))), (2, .hole (.int .i64))], [.cells [.hole (.int .i64)], .cells [.hole (.sl (.st (.pair (.int .i64) (.pair (.sl (.st (.pair (.int .i64) (.int .i64)))) (.pair (.int .i64) (.int .i64))))))], .gone]⟩ [⟨(.exit 0), [(8, .hole (.int .i64))], [.cells [.hole (.int .i64)], .gone, .gone]⟩, ⟨.ret, [(8, .hole (.int .i64))], [.cells [.hole (.int .i64)], .gone, .gone]⟩] (.seq (.seq .leaf (.cond .leaf .leaf)) (.seq (.block (.seq .leaf (.seq .leaf (.seq .leaf (.seq .leaf (.seq (.seq (.join [⟨.normal, [(64, .hole .bool)], [.cells [.hole (.int .i64)], .cells [.hole (.sl (.st (.pair (.int .i64) (.pair (.sl (.st (.pair (.int .i64) (.int .i64)))) (.pair (.int .i64) (.int .i64))))))], .gone, .gone, .gone, .gone]⟩] .leaf) (.cond (.seq .leaf .leaf) .leaf)) (.tail 6))))))) .leaf)))) (.seq .leaf .leaf)))))
/- ductus/sim.run -/
noncomputable def S.s6F : List (Int × List (Int × Int) × Int × Int) × List Int × Int × Int → Option (Int × Int) :=
  fun (x : List (Int × List (Int × Int) × Int × Int) × List Int × Int × Int) =>
  Option.bind
    (if Decidable.decide (x.snd.snd.fst < (0 : Int)) = Bool.true then Option.some (Bool.true, x.snd.snd.2, x.1)
    else
      if Decidable.decide (x.snd.snd.fst > (↑(List.length x.snd.fst) : Int)) = Bool.true then Option.some (Bool.true, x.snd.snd.2, x.1)
      else Option.bind (Go.Sx.S.f42F x.1) fun (v1 : Bool) => Option.some (!v1, x.snd.snd.2, x.1))
    fun (v1 : Bool × Int × List (Int × List (Int × Int) × Int × Int)) =>
    if v1.fst = Bool.true then Option.some ((0 : Int), v1.snd.1)
    else
      Option.bind
        (Go.Sx.iter
          (fun (s2 : Int × List Int × Int × Int × List (Int × List (Int × Int) × Int × Int)) =>
            if Decidable.decide ((↑(List.length s2.snd.fst) : Int) > (0 : Int)) = Bool.true then
              Option.bind (Go.Sx.S.f43F (s2.snd.snd.snd.2, s2.snd.1, s2.snd.snd.fst == (0 : Int), s2.snd.snd.fst == (↑(List.length x.snd.fst) : Int)))
                fun (v3 : List (Int × List (Int × Int) × Int × Int) × Bool × Bool × Int × List Bool) =>
                Option.bind (Go.Sx.S.f44F (v3.1, v3.snd.1, v3.snd.snd.1, v3.snd.snd.snd.1, v3.snd.snd.snd.2))
                  fun (v4 : List Int × List (Int × List (Int × Int) × Int × Int) × Bool × Bool × Int × List Bool) =>
                  Option.bind
                    (Option.bind (Go.Sx.S.s5F (v4.1, s2.snd.snd.snd.2)) fun (v5 : Bool × List (Int × List (Int × Int) × Int × Int)) =>
                      if v5.fst = Bool.true then
                        Option.bind (Go.Sx.S.f49F (s2.snd.snd.1, s2.snd.snd.snd.1)) fun (v6 : Bool × Int) =>
                          if (!v6.fst) = Bool.true then Option.some (Bool.true, v6.2, v5.2) else Option.some (s2.snd.snd.fst == (↑(List.length x.snd.fst) : Int), v6.2, v5.2)
                      else Option.some (s2.snd.snd.fst == (↑(List.length x.snd.fst) : Int), s2.snd.snd.snd.1, v5.2))
                    fun (v5 : Bool × Int × List (Int × List (Int × Int) × Int × Int)) =>
                    if v5.fst = Bool.true then Option.some (Sum.inr (Sum.inr (Go.IntKind.wrap Go.IntKind.i64 (s2.fst + v3.snd.snd.snd.fst), v5.snd.1)))
                    else
                      if (0 : Int) ≤ s2.snd.snd.fst ∧ s2.snd.snd.fst < (↑(List.length x.snd.fst) : Int) then
                        Option.bind (Go.Sx.S.f46F (v5.snd.2, v4.1, List.getD x.snd.fst (Int.toNat s2.snd.snd.fst) (0 : Int))) fun (v6 : List Int) =>
                          Option.some (Sum.inl (Go.IntKind.wrap Go.IntKind.i64 (s2.fst + v3.snd.snd.snd.fst), v6, Go.IntKind.wrap Go.IntKind.i64 (s2.snd.snd.fst + (1 : Int)), v5.snd.1, v5.snd.2))
                      else Option.none
            else Option.some (Sum.inr (Sum.inl (s2.1, s2.snd.snd.snd.1))))
          ((0 : Int), [(0 : Int)], x.snd.snd.1, v1.snd.1, v1.snd.2))
        fun (v2 : Int × Int ⊕ Int × Int) => Sum.elim (fun (p3 : Int × Int) => Option.some (p3.1, p3.2)) (fun (q3 : Int × Int) => Option.some (q3.1, q3.2)) v2
theorem S.s6eq : ∀ x, runFn S.C S.s6Γ S.s6sig S.s6ann Go.Proofs.Try.f48 x = S.s6F x := by
  intro x
  kernel_rfl
noncomputable def S.s6con : Con := ⟨48, S.s6sig, S.s6F⟩
theorem S.s6ok : Con.Ok Go.Proofs.Try.prog S.C S.s6con :=
  runFn_ok (Γ := S.s6Γ) (an := S.s6ann) ⟨S.Cok, (List.forall_mem_cons.2 ⟨S.f42ok, (List.forall_mem_cons.2 ⟨S.f43ok, (List.forall_mem_cons.2 ⟨S.f44ok, (List.forall_mem_cons.2 ⟨S.s5ok, (List.forall_mem_cons.2 ⟨S.f46ok, (List.forall_mem_cons.2 ⟨S.f49ok, (fun _ h => nomatch h)⟩)⟩)⟩)⟩)⟩)⟩), S.mixed⟩ Go.Proofs.Try.func48 rfl rfl (fun x y h => (S.s6eq x).trans h) (by decide)
def S.f21sig : Sig := ⟨⟨[.hole (.sl (.st (.pair (.int .i64) (.pair (.sl (.st (.pair (.int .i64) (.int .i64)))) (.pair (.int .i64) (.int .i64)))))), .hole (.sl (.int .i64)), .hole (.int .i64)], []⟩, ⟨[.hole (.int .i64), .hole (.int .i64)], []⟩⟩
noncomputable def S.f21Γ : List Con := [S.s6con]
def S.f21ann : Ann :=
  (.seq .leaf (.seq .leaf (.seq .leaf (.seq .leaf .leaf))))
/- ductus/sim.Longest -/
noncomputable def S.f21F : List (Int × List (Int × Int) × Int × Int) × List Int × Int → Option (Int × Int) :=
  fun (x : List (Int × List (Int × Int) × Int × Int) × List Int × Int) => Option.bind (Go.Sx.S.s6F (x.1, x.snd.1, x.snd.2, (-1 : Int))) fun (v1 : Int × Int) => Option.some (v1.2, v1.1)
theorem S.f21eq : ∀ x, runFn S.C S.f21Γ S.f21sig S.f21ann Go.Proofs.Try.f21 x = S.f21F x := by
  intro x
  kernel_rfl
noncomputable def S.f21con : Con := ⟨21, S.f21sig, S.f21F⟩
theorem S.f21ok : Con.Ok Go.Proofs.Try.prog S.C S.f21con :=
  runFn_ok (Γ := S.f21Γ) (an := S.f21ann) ⟨S.Cok, (List.forall_mem_cons.2 ⟨S.s6ok, (fun _ h => nomatch h)⟩), S.mixed⟩ Go.Proofs.Try.func21 rfl rfl (fun x y h => (S.f21eq x).trans h) (by decide)
def S.f17sig : Sig := ⟨⟨[.hole (.sl (.st (.pair (.int .i64) (.pair (.sl (.st (.pair (.int .i64) (.int .i64)))) (.pair (.int .i64) (.int .i64)))))), .hole (.sl (.int .i64)), .hole .bool, .hole .bool], []⟩, ⟨[.hole (.sl (.int .i64))], []⟩⟩
noncomputable def S.f17Γ : List Con := [S.f42con, S.f43con, S.f44con]
def S.f17ann : Ann :=
  (.seq .leaf (.seq (.seq .leaf (.cond (.seq .leaf .leaf) .leaf)) (.seq .leaf .leaf)))
/- ductus/sim.Reach -/
noncomputable def S.f17F : List (Int × List (Int × Int) × Int × Int) × List Int × Bool × Bool → Option (List Int) :=
  fun (x : List (Int × List (Int × Int) × Int × Int) × List Int × Bool × Bool) =>
  Option.bind (Go.Sx.S.f42F x.1) fun (v1 : Bool) =>
    if (!v1) = Bool.true then Option.some []
    else
      Option.bind (Go.Sx.S.f43F (x.1, x.snd.1, x.snd.snd.1, x.snd.snd.2)) fun (v2 : List (Int × List (Int × Int) × Int × Int) × Bool × Bool × Int × List Bool) =>
        Option.bind (Go.Sx.S.f44F (v2.1, v2.snd.1, v2.snd.snd.1, v2.snd.snd.snd.1, v2.snd.snd.snd.2)) fun (v3 : List Int × List (Int × List (Int × Int) × Int × Int) × Bool × Bool × Int × List Bool) =>
          Option.some v3.1
theorem S.f17eq : ∀ x, runFn S.C S.f17Γ S.f17sig S.f17ann Go.Proofs.Try.f17 x = S.f17F x := by
  intro x
  kernel_rfl
noncomputable def S.f17con : Con := ⟨17, S.f17sig, S.f17F⟩
theorem S.f17ok : Con.Ok Go.Proofs.Try.prog S.C S.f17con :=
  runFn_ok (Γ := S.f17Γ) (an := S.f17ann) ⟨S.Cok, (List.forall_mem_cons.2 ⟨S.f42ok, (List.forall_mem_cons.2 ⟨S.f43ok, (List.forall_mem_cons.2 ⟨S.f44ok, (fun _ h => nomatch h)⟩)⟩)⟩), S.mixed⟩ Go.Proofs.Try.func17 rfl rfl (fun x y h => (S.f17eq x).trans h) (by decide)
def S.f16sig : Sig := ⟨⟨[.hole (.sl (.int .i64)), .hole (.sl (.int .i64))], []⟩, ⟨[.hole .bool], []⟩⟩
noncomputable def S.f16Γ : List Con := []
def S.f16ann : Ann :=
  (.seq .leaf (.seq (.seq .leaf (.cond (.seq .leaf .leaf) .leaf)) (.seq (.seq .leaf (.block (.loop ⟨.normal, [(5, .hole (.int .i64))], []⟩ [⟨(.exit 0), [], []⟩, ⟨.ret, [(4, .hole .bool)], []⟩] (.seq (.seq .leaf (.cond .leaf .leaf)) (.seq (.block (.seq .leaf (.cond (.seq .leaf .leaf) .leaf))) .leaf))))) (.seq .leaf .leaf))))
/- ductus/ductusref01.Ints -/
noncomputable def S.f16F : List Int × List Int → Option (Bool) :=
  fun (x : List Int × List Int) =>
  if ((↑(List.length x.fst) : Int) != (↑(List.length x.snd) : Int)) = Bool.true then Option.some Bool.false
  else
    Option.bind
      (Go.Sx.iter
        (fun (s1 : Int) =>
          if Decidable.decide (s1 < (↑(List.length x.fst) : Int)) = Bool.true then
            if (0 : Int) ≤ s1 ∧ s1 < (↑(List.length x.fst) : Int) then
              if (0 : Int) ≤ s1 ∧ s1 < (↑(List.length x.snd) : Int) then
                if (List.getD x.fst (Int.toNat s1) (0 : Int) != List.getD x.snd (Int.toNat s1) (0 : Int)) = Bool.true then Option.some (Sum.inr (Sum.inr Bool.false))
                else Option.some (Sum.inl (Go.IntKind.wrap Go.IntKind.i64 (s1 + (1 : Int))))
              else Option.none
            else Option.none
          else Option.some (Sum.inr (Sum.inl ())))
        (0 : Int))
      fun (v1 : PUnit ⊕ Bool) => Sum.elim (fun (p2 : PUnit) => Option.some Bool.true) (fun (q2 : Bool) => Option.some q2) v1
theorem S.f16eq : ∀ x, runFn S.C S.f16Γ S.f16sig S.f16ann Go.Proofs.Try.f16 x = S.f16F x := by
  intro x
  kernel_rfl
noncomputable def S.f16con : Con := ⟨16, S.f16sig, S.f16F⟩
theorem S.f16ok : Con.Ok Go.Proofs.Try.prog S.C S.f16con :=
  runFn_ok (Γ := S.f16Γ) (an := S.f16ann) ⟨S.Cok, (fun _ h => nomatch h), S.mixed⟩ Go.Proofs.Try.func16 rfl rfl (fun x y h => (S.f16eq x).trans h) (by decide)
def S.f19sig : Sig := ⟨⟨[.hole (.sl (.st (.pair (.int .i64) (.pair (.sl (.st (.pair (.int .i64) (.int .i64)))) (.pair (.int .i64) (.int .i64)))))), .hole (.sl (.int .i64)), .hole (.int .i64)], []⟩, ⟨[.hole (.sl (.int .i64))], []⟩⟩
noncomputable def S.f19Γ : List Con := [S.f42con, S.f46con]
def S.f19ann : Ann :=
  (.seq .leaf (.seq (.seq .leaf (.cond (.seq .leaf .leaf) .leaf)) (.seq .leaf .leaf)))
/- ductus/sim.Move -/
noncomputable def S.f19F : List (Int × List (Int × Int) × Int × Int) × List Int × Int → Option (List Int) :=
  fun (x : List (Int × List (Int × Int) × Int × Int) × List Int × Int) =>
  Option.bind (Go.Sx.S.f42F x.1) fun (v1 : Bool) => if (!v1) = Bool.true then Option.some [] else Option.bind (Go.Sx.S.f46F (x.1, x.snd.1, x.snd.2)) fun (v2 : List Int) => Option.some v2
theorem S.f19eq : ∀ x, runFn S.C S.f19Γ S.f19sig S.f19ann Go.Proofs.Try.f19 x = S.f19F x := by
  intro x
  kernel_rfl
noncomputable def S.f19con : Con := ⟨19, S.f19sig, S.f19F⟩
theorem S.f19ok : Con.Ok Go.Proofs.Try.prog S.C S.f19con :=
  runFn_ok (Γ := S.f19Γ) (an := S.f19ann) ⟨S.Cok, (List.forall_mem_cons.2 ⟨S.f42ok, (List.forall_mem_cons.2 ⟨S.f46ok, (fun _ h => nomatch h)⟩)⟩), S.mixed⟩ Go.Proofs.Try.func19 rfl rfl (fun x y h => (S.f19eq x).trans h) (by decide)
def S.f51sig : Sig := ⟨⟨[.hole (.int .i64), .ptr 0 0, .ptr 1 0], [.cells [.hole .bool], .cells [.hole (.int .i64)]]⟩, ⟨[.hole .bool], [.cells [.hole .bool], .cells [.hole (.int .i64)]]⟩⟩
noncomputable def S.f51Γ : List Con := []
def S.f51ann : Ann :=
  (.seq .leaf (.seq .leaf (.seq .leaf .leaf)))
/- ductus/sim.Matches$1 -/
noncomputable def S.f51F : Int × Bool × Int → Option (Bool × Bool × Int) :=
  fun (x : Int × Bool × Int) =>
  if x.snd.fst = Bool.true then Option.some (Decidable.decide (x.fst < x.snd.snd), Bool.true, x.snd.2) else Option.some (Decidable.decide (x.fst < x.snd.snd), x.fst == x.snd.snd, x.snd.2)
theorem S.f51eq : ∀ x, runFn S.C S.f51Γ S.f51sig S.f51ann Go.Proofs.Try.f51 x = S.f51F x := by
  intro x
  kernel_rfl
noncomputable def S.f51con : Con := ⟨51, S.f51sig, S.f51F⟩
theorem S.f51ok : Con.Ok Go.Proofs.Try.prog S.C S.f51con :=
  runFn_ok (Γ := S.f51Γ) (an := S.f51ann) ⟨S.Cok, (fun _ h => nomatch h), S.mixed⟩ Go.Proofs.Try.func51 rfl rfl (fun x y h => (S.f51eq x).trans h) (by decide)
def S.s7sig : Sig := ⟨⟨[.hole (.sl (.st (.pair (.int .i64) (.pair (.sl (.st (.pair (.int .i64) (.int .i64)))) (.pair (.int .i64) (.int .i64)))))), .hole (.sl (.int .i64)), .hole (.int .i64), .fnc 51 2, .ptr 0 0, .ptr 1 0], [.cells [.hole .bool], .cells [.hole (.int .i64)]]⟩, ⟨[.hole (.int .i64)], [.cells [.hole .bool], .cells [.hole (.int .i64)]]⟩⟩
noncomputable def S.s7Γ : List Con := [S.f42con, S.f43con, S.f44con, S.s5con, S.f46con, S.f51con]
def S.s7ann : Ann :=
  (.seq .leaf (.seq (.seq (.join [⟨.normal, [(25, .hole .bool)], [.cells [.hole .bool], .cells [.hole (.int .i64)], .cells [.hole (.sl (.st (.pair (.int .i64) (.pair (.sl (.st (.pair (.int .i64) (.int .i64)))) (.pair (.int .i64) (.int .i64))))))]]⟩] .leaf) (.cond (.seq .leaf .leaf) .leaf)) (.seq .leaf (.seq (.block (.loop ⟨.normal, [(8, .hole (.int .i64)), (9, .hole (.sl (.int .i64))), (2, .hole (.int .i64))], [.cells [.hole .bool], .cells [.hole (.int .i64)], .cells [.hole (.sl (.st (.pair (.int .i64) (.pair (.sl (.st (.pair (.int .i64) (.int .i64)))) (.pair (.int .i64) (.int .i64))))))], .gone]⟩ [⟨(.exit 0), [(8, .hole (.int .i64))], [.cells [.hole .bool], .cells [.hole (.int .i64)], .gone, .gone]⟩, ⟨.ret, [(8, .hole (.int .i64))], [.cells [.hole .bool], .cells [.hole (.int .i64)], .gone, .gone]⟩] (.seq (.seq .leaf (.cond .leaf .leaf)) (.seq (.block (.seq .leaf (.seq .leaf (.seq .leaf (.seq .leaf (.seq (.seq (.join [⟨.normal, [(64, .hole .bool)], [.cells [.hole .bool], .cells [.hole (.int .i64)], .cells [.hole (.sl (.st (.pair (.int .i64) (.pair (.sl (.st (.pair (.int .i64) (.int .i64)))) (.pair (.int .i64) (.int .i64))))))], .gone, .gone, .gone, .gone]⟩] .leaf) (.cond (.seq .leaf .leaf) .leaf)) (.tail 6))))))) .leaf)))) (.seq .leaf .leaf)))))
/- ductus/sim.run -/
noncomputable def S.s7F : List (Int × List (Int × Int) × Int × Int) × List Int × Int × Bool × Int → Option (Int × Bool × Int) :=
  fun (x : List (Int × List (Int × Int) × Int × Int) × List Int × Int × Bool × Int) =>
  Option.bind
    (if Decidable.decide (x.snd.snd.fst < (0 : Int)) = Bool.true then Option.some (Bool.true, x.snd.snd.snd.1, x.snd.snd.snd.2, x.1)
    else
      if Decidable.decide (x.snd.snd.fst > (↑(List.length x.snd.fst) : Int)) = Bool.true then Option.some (Bool.true, x.snd.snd.snd.1, x.snd.snd.snd.2, x.1)
      else Option.bind (Go.Sx.S.f42F x.1) fun (v1 : Bool) => Option.some (!v1, x.snd.snd.snd.1, x.snd.snd.snd.2, x.1))
    fun (v1 : Bool × Bool × Int × List (Int × List (Int × Int) × Int × Int)) =>
    if v1.fst = Bool.true then Option.some ((0 : Int), v1.snd.1, v1.snd.snd.1)
    else
      Option.bind
        (Go.Sx.iter
          (fun (s2 : Int × List Int × Int × Bool × Int × List (Int × List (Int × Int) × Int × Int)) =>
            if Decidable.decide ((↑(List.length s2.snd.fst) : Int) > (0 : Int)) = Bool.true then
              Option.bind (Go.Sx.S.f43F (s2.snd.snd.snd.snd.2, s2.snd.1, s2.snd.snd.fst == (0 : Int), s2.snd.snd.fst == (↑(List.length x.snd.fst) : Int)))
                fun (v3 : List (Int × List (Int × Int) × Int × Int) × Bool × Bool × Int × List Bool) =>
                Option.bind (Go.Sx.S.f44F (v3.1, v3.snd.1, v3.snd.snd.1, v3.snd.snd.snd.1, v3.snd.snd.snd.2))
                  fun (v4 : List Int × List (Int × List (Int × Int) × Int × Int) × Bool × Bool × Int × List Bool) =>
                  Option.bind
                    (Option.bind (Go.Sx.S.s5F (v4.1, s2.snd.snd.snd.snd.2)) fun (v5 : Bool × List (Int × List (Int × Int) × Int × Int)) =>
                      if v5.fst = Bool.true then
                        Option.bind (Go.Sx.S.f51F (s2.snd.snd.1, s2.snd.snd.snd.1, s2.snd.snd.snd.snd.1)) fun (v6 : Bool × Bool × Int) =>
                          if (!v6.fst) = Bool.true then Option.some (Bool.true, v6.snd.1, v6.snd.2, v5.2)
                          else Option.some (s2.snd.snd.fst == (↑(List.length x.snd.fst) : Int), v6.snd.1, v6.snd.2, v5.2)
                      else Option.some (s2.snd.snd.fst == (↑(List.length x.snd.fst) : Int), s2.snd.snd.snd.1, s2.snd.snd.snd.snd.1, v5.2))
                    fun (v5 : Bool × Bool × Int × List (Int × List (Int × Int) × Int × Int)) =>
                    if v5.fst = Bool.true then Option.some (Sum.inr (Sum.inr (Go.IntKind.wrap Go.IntKind.i64 (s2.fst + v3.snd.snd.snd.fst), v5.snd.1, v5.snd.snd.1)))
                    else
                      if (0 : Int) ≤ s2.snd.snd.fst ∧ s2.snd.snd.fst < (↑(List.length x.snd.fst) : Int) then
                        Option.bind (Go.Sx.S.f46F (v5.snd.snd.2, v4.1, List.getD x.snd.fst (Int.toNat s2.snd.snd.fst) (0 : Int))) fun (v6 : List Int) =>
                          Option.some
                            (Sum.inl
                              (Go.IntKind.wrap Go.IntKind.i64 (s2.fst + v3.snd.snd.snd.fst), v6, Go.IntKind.wrap Go.IntKind.i64 (s2.snd.snd.fst + (1 : Int)), v5.snd.1, v5.snd.snd.1, v5.snd.snd.2))
                      else Option.none
            else Option.some (Sum.inr (Sum.inl (s2.1, s2.snd.snd.snd.1, s2.snd.snd.snd.snd.1))))
          ((0 : Int), [(0 : Int)], x.snd.snd.1, v1.snd.1, v1.snd.snd.1, v1.snd.snd.2))
        fun (v2 : Int × Bool × Int ⊕ Int × Bool × Int) =>
        Sum.elim (fun (p3 : Int × Bool × Int) => Option.some (p3.1, p3.snd.1, p3.snd.2)) (fun (q3 : Int × Bool × Int) => Option.some (q3.1, q3.snd.1, q3.snd.2)) v2
theorem S.s7eq : ∀ x, runFn S.C S.s7Γ S.s7sig S.s7ann Go.Proofs.Try.f48 x = S.s7F x := by
  intro x
  kernel_rfl
noncomputable def S.s7con : Con := ⟨48, S.s7sig, S.s7F⟩
theorem S.s7ok : Con.Ok Go.Proofs.Try.prog S.C S.s7con :=
  runFn_ok (Γ := S.s7Γ) (an := S.s7ann) ⟨S.Cok, (List.forall_mem_cons.2 ⟨S.f42ok, (List.forall_mem_cons.2 ⟨S.f43ok, (List.forall_mem_cons.2 ⟨S.f44ok, (List.forall_mem_cons.2 ⟨S.s5ok, (List.forall_mem_cons.2 ⟨S.f46ok, (List.forall_mem_cons.2 ⟨S.f51ok, (fun _ h => nomatch h)⟩)⟩)⟩)⟩)⟩)⟩), S.mixed⟩ Go.Proofs.Try.func48 rfl rfl (fun x y h => (S.s7eq x).trans h) (by decide)
def S.f23sig : Sig := ⟨⟨[.hole (.sl (.st (.pair (.int .i64) (.pair (.sl (.st (.pair (.int .i64) (.int .i64)))) (.pair (.int .i64) (.int .i64)))))), .hole (.sl (.int .i64)), .hole (.int .i64), .hole (.int .i64)], []⟩, ⟨[.hole .bool], []⟩⟩
noncomputable def S.f23Γ : List Con := [S.s7con]
def S.f23ann : Ann :=
  (.seq .leaf (.seq .leaf (.seq .leaf (.seq .leaf .leaf))))
/- ductus/sim.Matches -/
noncomputable def S.f23F : List (Int × List (Int × Int) × Int × Int) × List Int × Int × Int → Option (Bool) :=
  fun (x : List (Int × List (Int × Int) × Int × Int) × List Int × Int × Int) =>
  Option.bind (Go.Sx.S.s7F (x.1, x.snd.1, x.snd.snd.1, Bool.false, x.snd.snd.2)) fun (v1 : Int × Bool × Int) => Option.some v1.snd.1
theorem S.f23eq : ∀ x, runFn S.C S.f23Γ S.f23sig S.f23ann Go.Proofs.Try.f23 x = S.f23F x := by
  intro x
  kernel_rfl
noncomputable def S.f23con : Con := ⟨23, S.f23sig, S.f23F⟩
theorem S.f23ok : Con.Ok Go.Proofs.Try.prog S.C S.f23con :=
  runFn_ok (Γ := S.f23Γ) (an := S.f23ann) ⟨S.Cok, (List.forall_mem_cons.2 ⟨S.s7ok, (fun _ h => nomatch h)⟩), S.mixed⟩ Go.Proofs.Try.func23 rfl rfl (fun x y h => (S.f23eq x).trans h) (by decide)
def S.f14sig : Sig := ⟨⟨[], []⟩, ⟨[.hole .bool], []⟩⟩
noncomputable def S.f14Γ : List Con := [S.f21con, S.f17con, S.f16con, S.f19con, S.f23con]
def S.f14ann : Ann :=
  (.seq .leaf (.seq .leaf (.seq .leaf (.seq .leaf (.seq .leaf .leaf)))))
/- ductus/ductuslaw20.alive -/
noncomputable def S.f14F : PUnit → Option (Bool) :=
  fun (x : PUnit) =>
  Option.bind
    (Go.Sx.S.f21F
      ([((2 : Int), [], (1 : Int), (3 : Int)), ((1 : Int), [((97 : Int), (97 : Int))], (0 : Int), (0 : Int)), ((3 : Int), [], (0 : Int), (0 : Int)), ((0 : Int), [], (0 : Int), (0 : Int))],
        [(97 : Int), (97 : Int), (98 : Int)], (0 : Int)))
    fun (v1 : Int × Int) =>
    Option.bind
      (Go.Sx.S.f17F
        ([((2 : Int), [], (1 : Int), (3 : Int)), ((1 : Int), [((97 : Int), (97 : Int))], (0 : Int), (0 : Int)), ((3 : Int), [], (0 : Int), (0 : Int)), ((0 : Int), [], (0 : Int), (0 : Int))],
          [(0 : Int)], Bool.false, Bool.false))
      fun (v2 : List Int) =>
      Option.bind (Go.Sx.S.f16F (v2, [(0 : Int), (1 : Int), (3 : Int)])) fun (v3 : Bool) =>
        if v3 = Bool.true then
          Option.bind
            (Go.Sx.S.f19F
              ([((2 : Int), [], (1 : Int), (3 : Int)), ((1 : Int), [((97 : Int), (97 : Int))], (0 : Int), (0 : Int)), ((3 : Int), [], (0 : Int), (0 : Int)), ((0 : Int), [], (0 : Int), (0 : Int))],
                [(0 : Int), (1 : Int)], (97 : Int)))
            fun (v4 : List Int) =>
            Option.bind (Go.Sx.S.f16F (v4, [(2 : Int)])) fun (v5 : Bool) =>
              if v5 = Bool.true then
                if (v1.fst == (2 : Int)) = Bool.true then
                  if (v1.snd == (11 : Int)) = Bool.true then
                    Option.bind
                      (Go.Sx.S.f23F
                        ([((2 : Int), [], (1 : Int), (3 : Int)), ((1 : Int), [((97 : Int), (97 : Int))], (0 : Int), (0 : Int)), ((3 : Int), [], (0 : Int), (0 : Int)),
                            ((0 : Int), [], (0 : Int), (0 : Int))],
                          [(97 : Int), (97 : Int)], (0 : Int), (1 : Int)))
                      fun (v6 : Bool) =>
                      if v6 = Bool.true then
                        Option.bind
                          (Go.Sx.S.f23F
                            ([((2 : Int), [], (1 : Int), (3 : Int)), ((1 : Int), [((97 : Int), (97 : Int))], (0 : Int), (0 : Int)), ((3 : Int), [], (0 : Int), (0 : Int)),
                                ((0 : Int), [], (0 : Int), (0 : Int))],
                              [(98 : Int)], (0 : Int), (1 : Int)))
                          fun (v7 : Bool) => Option.some !v7
                      else Option.some Bool.false
                  else Option.some Bool.false
                else Option.some Bool.false
              else Option.some Bool.false
        else Option.some Bool.false
theorem S.f14eq : ∀ x, runFn S.C S.f14Γ S.f14sig S.f14ann Go.Proofs.Try.f14 x = S.f14F x := by
  intro x
  kernel_rfl
noncomputable def S.f14con : Con := ⟨14, S.f14sig, S.f14F⟩
theorem S.f14ok : Con.Ok Go.Proofs.Try.prog S.C S.f14con :=
  runFn_ok (Γ := S.f14Γ) (an := S.f14ann) ⟨S.Cok, (List.forall_mem_cons.2 ⟨S.f21ok, (List.forall_mem_cons.2 ⟨S.f17ok, (List.forall_mem_cons.2 ⟨S.f16ok, (List.forall_mem_cons.2 ⟨S.f19ok, (List.forall_mem_cons.2 ⟨S.f23ok, (fun _ h => nomatch h)⟩)⟩)⟩)⟩)⟩), S.mixed⟩ Go.Proofs.Try.func14 rfl rfl (fun x y h => (S.f14eq x).trans h) (by decide)
def S.f15sig : Sig := ⟨⟨[.hole (.sl (.st (.pair (.int .i64) (.pair (.sl (.st (.pair (.int .i64) (.int .i64)))) (.pair (.int .i64) (.int .i64))))))], []⟩, ⟨[.hole .bool], []⟩⟩
noncomputable def S.f15Γ : List Con := []
def S.f15ann : Ann :=
  (.seq .leaf (.seq .leaf (.seq (.seq .leaf (.block (.loop ⟨.normal, [(3, .hole (.int .i64)), (4, .hole (.int .i64))], []⟩ [⟨(.exit 0), [(3, .hole (.int .i64))], []⟩] (.seq (.seq (.join [⟨.normal, [(14, .hole .bool)], []⟩] .leaf) (.cond .leaf .leaf)) (.seq (.block .leaf) .leaf))))) (.seq .leaf .leaf))))
/- ductus/ductusref19.Great -/
noncomputable def S.f15F : List (Int × List (Int × Int) × Int × Int) → Option (Bool) :=
  fun (x : List (Int × List (Int × Int) × Int × Int)) =>
  Option.bind
    (Go.Sx.iter
      (fun (s1 : Int × Int) =>
        Option.bind (if Decidable.decide (s1.snd < (↑(List.length x) : Int)) = Bool.true then Option.some (Decidable.decide (s1.fst ≤ (1000 : Int))) else Option.some Bool.false) fun (v2 : Bool) =>
          if v2 = Bool.true then
            if (0 : Int) ≤ s1.snd ∧ s1.snd < (↑(List.length x) : Int) then
              Option.some
                (Sum.inl
                  (Go.IntKind.wrap Go.IntKind.i64 (s1.fst + (↑(List.length (List.getD x (Int.toNat s1.snd) ((0 : Int), [], (0 : Int), (0 : Int))).snd.fst) : Int)),
                    Go.IntKind.wrap Go.IntKind.i64 (s1.snd + (1 : Int))))
            else Option.none
          else Option.some (Sum.inr s1.1))
      ((↑(List.length x) : Int), (0 : Int)))
    fun (v1 : Int) => Option.some (Decidable.decide (v1 > (1000 : Int)))
theorem S.f15eq : ∀ x, runFn S.C S.f15Γ S.f15sig S.f15ann Go.Proofs.Try.f15 x = S.f15F x := by
  intro x
  kernel_rfl
noncomputable def S.f15con : Con := ⟨15, S.f15sig, S.f15F⟩
theorem S.f15ok : Con.Ok Go.Proofs.Try.prog S.C S.f15con :=
  runFn_ok (Γ := S.f15Γ) (an := S.f15ann) ⟨S.Cok, (fun _ h => nomatch h), S.mixed⟩ Go.Proofs.Try.func15 rfl rfl (fun x y h => (S.f15eq x).trans h) (by decide)
def S.f26sig : Sig := ⟨⟨[.hole (.sl (.st (.pair (.int .i64) (.pair (.sl (.st (.pair (.int .i64) (.int .i64)))) (.pair (.int .i64) (.int .i64))))))], []⟩, ⟨[.hole .bool], []⟩⟩
noncomputable def S.f26Γ : List Con := []
def S.f26ann : Ann :=
  (.seq .leaf (.seq (.seq (.join [⟨.normal, [(22, .hole .bool)], []⟩] .leaf) (.cond (.seq .leaf .leaf) .leaf)) (.seq (.seq .leaf (.block (.loop ⟨.normal, [(3, .hole (.int .i64))], []⟩ [⟨(.exit 0), [], []⟩, ⟨.ret, [(2, .hole .bool)], []⟩] (.seq (.seq .leaf (.cond .leaf .leaf)) (.seq (.block (.seq .leaf (.seq (.join [⟨.normal, [(79, .hole .bool)], [.gone]⟩] .leaf) (.cond (.seq .leaf .leaf) .leaf)))) .leaf))))) (.seq .leaf .leaf))))
/- ductus/ductusref19.Right -/
noncomputable def S.f26F : List (Int × List (Int × Int) × Int × Int) → Option (Bool) :=
  fun (x : List (Int × List (Int × Int) × Int × Int)) =>
  Option.bind
    (if Decidable.decide ((↑(List.length x) : Int) < (1 : Int)) = Bool.true then Option.some Bool.true
    else
      if Decidable.decide ((↑(List.length x) : Int) > (1000 : Int)) = Bool.true then Option.some Bool.true
      else
        if (0 : Int) ≤ Go.IntKind.wrap Go.IntKind.i64 ((↑(List.length x) : Int) - (1 : Int)) ∧ Go.IntKind.wrap Go.IntKind.i64 ((↑(List.length x) : Int) - (1 : Int)) < (↑(List.length x) : Int) then
          Option.some ((List.getD x (Int.toNat (Go.IntKind.wrap Go.IntKind.i64 ((↑(List.length x) : Int) - (1 : Int)))) ((0 : Int), [], (0 : Int), (0 : Int))).fst != (0 : Int))
        else Option.none)
    fun (v1 : Bool) =>
    if v1 = Bool.true then Option.some Bool.false
    else
      Option.bind
        (Go.Sx.iter
          (fun (s2 : Int) =>
            if Decidable.decide (s2 < (↑(List.length x) : Int)) = Bool.true then
              if (0 : Int) ≤ s2 ∧ s2 < (↑(List.length x) : Int) then
                Option.bind
                  (if Decidable.decide ((List.getD x (Int.toNat s2) ((0 : Int), [], (0 : Int), (0 : Int))).fst < (0 : Int)) = Bool.true then Option.some Bool.true
                  else
                    if Decidable.decide ((List.getD x (Int.toNat s2) ((0 : Int), [], (0 : Int), (0 : Int))).fst > (5 : Int)) = Bool.true then Option.some Bool.true
                    else
                      if ((List.getD x (Int.toNat s2) ((0 : Int), [], (0 : Int), (0 : Int))).fst == (2 : Int)) = Bool.true then
                        if Decidable.decide ((List.getD x (Int.toNat s2) ((0 : Int), [], (0 : Int), (0 : Int))).snd.snd.fst < (0 : Int)) = Bool.true then Option.some Bool.true
                        else
                          if Decidable.decide ((List.getD x (Int.toNat s2) ((0 : Int), [], (0 : Int), (0 : Int))).snd.snd.fst ≥ (↑(List.length x) : Int)) = Bool.true then Option.some Bool.true
                          else
                            if ((List.getD x (Int.toNat s2) ((0 : Int), [], (0 : Int), (0 : Int))).fst == (2 : Int)) = Bool.true then
                              if Decidable.decide ((List.getD x (Int.toNat s2) ((0 : Int), [], (0 : Int), (0 : Int))).snd.snd.snd < (0 : Int)) = Bool.true then Option.some Bool.true
                              else Option.some (Decidable.decide ((List.getD x (Int.toNat s2) ((0 : Int), [], (0 : Int), (0 : Int))).snd.snd.snd ≥ (↑(List.length x) : Int)))
                            else Option.some Bool.false
                      else
                        if ((List.getD x (Int.toNat s2) ((0 : Int), [], (0 : Int), (0 : Int))).fst == (3 : Int)) = Bool.true then
                          if Decidable.decide ((List.getD x (Int.toNat s2) ((0 : Int), [], (0 : Int), (0 : Int))).snd.snd.fst < (0 : Int)) = Bool.true then Option.some Bool.true
                          else
                            if Decidable.decide ((List.getD x (Int.toNat s2) ((0 : Int), [], (0 : Int), (0 : Int))).snd.snd.fst ≥ (↑(List.length x) : Int)) = Bool.true then Option.some Bool.true
                            else
                              if ((List.getD x (Int.toNat s2) ((0 : Int), [], (0 : Int), (0 : Int))).fst == (2 : Int)) = Bool.true then
                                if Decidable.decide ((List.getD x (Int.toNat s2) ((0 : Int), [], (0 : Int), (0 : Int))).snd.snd.snd < (0 : Int)) = Bool.true then Option.some Bool.true
                                else Option.some (Decidable.decide ((List.getD x (Int.toNat s2) ((0 : Int), [], (0 : Int), (0 : Int))).snd.snd.snd ≥ (↑(List.length x) : Int)))
                              else Option.some Bool.false
                        else
                          if ((List.getD x (Int.toNat s2) ((0 : Int), [], (0 : Int), (0 : Int))).fst == (2 : Int)) = Bool.true then
                            if Decidable.decide ((List.getD x (Int.toNat s2) ((0 : Int), [], (0 : Int), (0 : Int))).snd.snd.snd < (0 : Int)) = Bool.true then Option.some Bool.true
                            else Option.some (Decidable.decide ((List.getD x (Int.toNat s2) ((0 : Int), [], (0 : Int), (0 : Int))).snd.snd.snd ≥ (↑(List.length x) : Int)))
                          else Option.some Bool.false)
                  fun (v3 : Bool) => if v3 = Bool.true then Option.some (Sum.inr (Sum.inr Bool.false)) else Option.some (Sum.inl (Go.IntKind.wrap Go.IntKind.i64 (s2 + (1 : Int))))
              else Option.none
            else Option.some (Sum.inr (Sum.inl ())))
          (0 : Int))
        fun (v2 : PUnit ⊕ Bool) => Sum.elim (fun (p3 : PUnit) => Option.some Bool.true) (fun (q3 : Bool) => Option.some q3) v2
theorem S.f26eq : ∀ x, runFn S.C S.f26Γ S.f26sig S.f26ann Go.Proofs.Try.f26 x = S.f26F x := by
  intro x
  kernel_rfl
noncomputable def S.f26con : Con := ⟨26, S.f26sig, S.f26F⟩
theorem S.f26ok : Con.Ok Go.Proofs.Try.prog S.C S.f26con :=
  runFn_ok (Γ := S.f26Γ) (an := S.f26ann) ⟨S.Cok, (fun _ h => nomatch h), S.mixed⟩ Go.Proofs.Try.func26 rfl rfl (fun x y h => (S.f26eq x).trans h) (by decide)
def S.f45sig : Sig := ⟨⟨[.hole (.sl .bool)], []⟩, ⟨[.hole (.sl (.int .i64))], []⟩⟩
noncomputable def S.f45Γ : List Con := []
def S.f45ann : Ann :=
  (.seq .leaf (.seq .leaf (.seq (.seq .leaf (.block (.loop ⟨.normal, [(3, .own 0), (4, .hole (.int .i64))], [.arr 3 (.int .i64)]⟩ [⟨(.exit 0), [(3, .own 0)], [.arr 3 (.int .i64)]⟩] (.seq (.seq .leaf (.cond .leaf .leaf)) (.seq (.block (.seq .leaf (.cond .leaf .leaf))) .leaf))))) (.seq .leaf .leaf))))
/- ductus/ductusref20.rising -/
noncomputable def S.f45F : List Bool → Option (List Int) :=
  fun (x : List Bool) =>
  Option.bind
    (Go.Sx.iter
      (fun (s1 : Int × List Int) =>
        if Decidable.decide (s1.fst < (↑(List.length x) : Int)) = Bool.true then
          if (0 : Int) ≤ s1.fst ∧ s1.fst < (↑(List.length x) : Int) then
            if List.getD x (Int.toNat s1.fst) Bool.false = Bool.true then
              if
                  Go.Sx.roomOk (List.length s1.snd + List.length [s1.1])
                    { kind := Go.Sx.TK.int Go.IntKind.i64, size := (1 : Nat), bytes := (8 : Nat), ty := Option.some (Go.Sx.Ty.int Go.IntKind.i64),
                        zero := [Go.Sx.SV.val (Go.Sx.Ty.int Go.IntKind.i64) (0 : Int)] : Go.Sx.TI }.bytes then
                Option.some (Sum.inl (Go.IntKind.wrap Go.IntKind.i64 (s1.fst + (1 : Int)), s1.2 ++ [s1.1]))
              else Option.none
            else Option.some (Sum.inl (Go.IntKind.wrap Go.IntKind.i64 (s1.fst + (1 : Int)), s1.2))
          else Option.none
        else Option.some (Sum.inr s1.2))
      ((0 : Int), []))
    fun (v1 : List Int) => Option.some v1
theorem S.f45eq : ∀ x, runFn S.C S.f45Γ S.f45sig S.f45ann Go.Proofs.Try.f45 x = S.f45F x := by
  intro x
  kernel_rfl
noncomputable def S.f45con : Con := ⟨45, S.f45sig, S.f45F⟩
theorem S.f45ok : Con.Ok Go.Proofs.Try.prog S.C S.f45con :=
  runFn_ok (Γ := S.f45Γ) (an := S.f45ann) ⟨S.Cok, (fun _ h => nomatch h), S.mixed⟩ Go.Proofs.Try.func45 rfl rfl (fun x y h => (S.f45eq x).trans h) (by decide)
def S.f18sig : Sig := ⟨⟨[.hole (.sl (.st (.pair (.int .i64) (.pair (.sl (.st (.pair (.int .i64) (.int .i64)))) (.pair (.int .i64) (.int .i64)))))), .hole (.sl (.int .i64)), .hole .bool, .hole .bool], []⟩, ⟨[.hole (.sl (.int .i64))], []⟩⟩
noncomputable def S.f18Γ : List Con := [S.f26con, S.f45con]
def S.f18ann : Ann :=
  (.seq .leaf (.seq (.seq .leaf (.cond (.seq .leaf .leaf) .leaf)) (.seq .leaf (.seq (.seq .leaf (.block (.loop ⟨.normal, [(10, .hole (.int .i64))], [.arr 4 .bool]⟩ [⟨(.exit 0), [], [.arr 4 .bool]⟩] (.seq (.seq .leaf (.cond .leaf .leaf)) (.seq (.block (.seq (.join [⟨.normal, [(41, .hole .bool)], [.arr 4 .bool]⟩] .leaf) (.cond .leaf .leaf))) .leaf))))) (.seq .leaf (.seq (.block (.loop ⟨.normal, [(11, .hole .bool)], [.arr 4 .bool]⟩ [⟨(.exit 2), [], [.arr 4 .bool]⟩] (.seq (.seq .leaf (.cond .leaf .leaf)) (.block (.seq .leaf (.seq .leaf (.block (.loop ⟨.normal, [(11, .hole .bool), (12, .hole (.int .i64))], [.arr 4 .bool]⟩ [⟨(.exit 4), [(11, .hole .bool)], [.arr 4 .bool]⟩] (.seq (.seq .leaf (.cond .leaf .leaf)) (.seq (.block (.seq (.seq .leaf (.cond .leaf .leaf)) (.seq .leaf (.seq (.join [⟨.normal, [(13, .hole (.int .i64)), (14, .hole (.int .i64))], [.arr 4 .bool]⟩] (.block (.seq .leaf (.cond .leaf (.seq .leaf (.cond .leaf (.seq (.join [⟨.normal, [(91, .hole .bool)], [.arr 4 .bool]⟩] (.seq (.join [⟨.normal, [(91, .hole .bool)], [.arr 4 .bool]⟩] .leaf) (.cond .leaf .leaf))) (.cond .leaf .leaf)))))))) (.seq (.join [⟨.normal, [(11, .hole .bool)], [.arr 4 .bool]⟩] .leaf) .leaf))))) .leaf)))))))))) (.seq .leaf .leaf)))))))
/- ductus/ductusref20.Reach -/
noncomputable def S.f18F : List (Int × List (Int × Int) × Int × Int) × List Int × Bool × Bool → Option (List Int) :=
  fun (x : List (Int × List (Int × Int) × Int × Int) × List Int × Bool × Bool) =>
  Option.bind (Go.Sx.S.f26F x.1) fun (v1 : Bool) =>
    if (!v1) = Bool.true then Option.some []
    else
      if
          (0 : Int) ≤ Go.IntKind.wrap Go.IntKind.i64 ((↑(List.length x.fst) : Int) + (1 : Int)) ∧
            Go.IntKind.wrap Go.IntKind.i64 ((↑(List.length x.fst) : Int) + (1 : Int)) ≤ Go.IntKind.wrap Go.IntKind.i64 ((↑(List.length x.fst) : Int) + (1 : Int)) ∧
              Go.Sx.roomOk (Int.toNat (Go.IntKind.wrap Go.IntKind.i64 ((↑(List.length x.fst) : Int) + (1 : Int))))
                { kind := Go.Sx.TK.bool, size := (1 : Nat), bytes := (1 : Nat), ty := Option.some Go.Sx.Ty.bool, zero := [Go.Sx.SV.bit Bool.false] : Go.Sx.TI }.bytes then
        Option.bind
          (Go.Sx.iter
            (fun (s2 : Int × List Bool) =>
              if Decidable.decide (s2.fst < (↑(List.length x.snd.fst) : Int)) = Bool.true then
                Option.bind
                  (if (0 : Int) ≤ s2.fst ∧ s2.fst < (↑(List.length x.snd.fst) : Int) then
                    if Decidable.decide (List.getD x.snd.fst (Int.toNat s2.fst) (0 : Int) ≥ (0 : Int)) = Bool.true then
                      if (0 : Int) ≤ s2.fst ∧ s2.fst < (↑(List.length x.snd.fst) : Int) then
                        Option.some (Decidable.decide (List.getD x.snd.fst (Int.toNat s2.fst) (0 : Int) < (↑(List.length x.fst) : Int)), s2.2)
                      else Option.none
                    else Option.some (Bool.false, s2.2)
                  else Option.none)
                  fun (v3 : Bool × List Bool) =>
                  if v3.fst = Bool.true then
                    if (0 : Int) ≤ s2.fst ∧ s2.fst < (↑(List.length x.snd.fst) : Int) then
                      if (0 : Int) ≤ List.getD x.snd.fst (Int.toNat s2.fst) (0 : Int) ∧ List.getD x.snd.fst (Int.toNat s2.fst) (0 : Int) < (↑(List.length v3.snd) : Int) then
                        Option.some (Sum.inl (Go.IntKind.wrap Go.IntKind.i64 (s2.fst + (1 : Int)), List.set v3.2 (Int.toNat (List.getD x.snd.fst (Int.toNat s2.fst) (0 : Int))) Bool.true))
                      else Option.none
                    else Option.none
                  else Option.some (Sum.inl (Go.IntKind.wrap Go.IntKind.i64 (s2.fst + (1 : Int)), v3.2))
              else Option.some (Sum.inr s2.2))
            ((0 : Int), List.replicate (Int.toNat (Go.IntKind.wrap Go.IntKind.i64 ((↑(List.length x.fst) : Int) + (1 : Int)))) Bool.false))
          fun (v2 : List Bool) =>
          Option.bind
            (Go.Sx.iter
              (fun (s3 : Bool × List Bool) =>
                if s3.fst = Bool.true then
                  Option.bind
                    (Go.Sx.iter
                      (fun (s4 : Bool × Int × List Bool) =>
                        if Decidable.decide (s4.snd.fst < (↑(List.length x.fst) : Int)) = Bool.true then
                          if (0 : Int) ≤ s4.snd.fst ∧ s4.snd.fst < (↑(List.length s4.snd.snd) : Int) then
                            if (!List.getD s4.snd.2 (Int.toNat s4.snd.fst) Bool.false) = Bool.true then Option.some (Sum.inl (s4.1, Go.IntKind.wrap Go.IntKind.i64 (s4.snd.fst + (1 : Int)), s4.snd.2))
                            else
                              Option.bind
                                (if (0 : Int) ≤ s4.snd.fst ∧ s4.snd.fst < (↑(List.length x.fst) : Int) then
                                  if ((List.getD x.fst (Int.toNat s4.snd.fst) ((0 : Int), [], (0 : Int), (0 : Int))).fst == (2 : Int)) = Bool.true then
                                    if (0 : Int) ≤ s4.snd.fst ∧ s4.snd.fst < (↑(List.length x.fst) : Int) then
                                      if (0 : Int) ≤ s4.snd.fst ∧ s4.snd.fst < (↑(List.length x.fst) : Int) then
                                        Option.some
                                          ((List.getD x.fst (Int.toNat s4.snd.fst) ((0 : Int), [], (0 : Int), (0 : Int))).snd.snd.1,
                                            (List.getD x.fst (Int.toNat s4.snd.fst) ((0 : Int), [], (0 : Int), (0 : Int))).snd.snd.2, s4.snd.2)
                                      else Option.none
                                    else Option.none
                                  else
                                    if (0 : Int) ≤ s4.snd.fst ∧ s4.snd.fst < (↑(List.length x.fst) : Int) then
                                      if ((List.getD x.fst (Int.toNat s4.snd.fst) ((0 : Int), [], (0 : Int), (0 : Int))).fst == (3 : Int)) = Bool.true then
                                        if (0 : Int) ≤ s4.snd.fst ∧ s4.snd.fst < (↑(List.length x.fst) : Int) then
                                          Option.some ((List.getD x.fst (Int.toNat s4.snd.fst) ((0 : Int), [], (0 : Int), (0 : Int))).snd.snd.1, s4.snd.1, s4.snd.2)
                                        else Option.none
                                      else
                                        Option.bind
                                          (Option.bind
                                            (if (0 : Int) ≤ s4.snd.fst ∧ s4.snd.fst < (↑(List.length x.fst) : Int) then
                                              if ((List.getD x.fst (Int.toNat s4.snd.fst) ((0 : Int), [], (0 : Int), (0 : Int))).fst == (4 : Int)) = Bool.true then Option.some (x.snd.snd.1, s4.snd.2)
                                              else Option.some (Bool.false, s4.snd.2)
                                            else Option.none)
                                            fun (v5 : Bool × List Bool) =>
                                            if v5.fst = Bool.true then Option.some (Bool.true, v5.2)
                                            else
                                              if (0 : Int) ≤ s4.snd.fst ∧ s4.snd.fst < (↑(List.length x.fst) : Int) then
                                                if ((List.getD x.fst (Int.toNat s4.snd.fst) ((0 : Int), [], (0 : Int), (0 : Int))).fst == (5 : Int)) = Bool.true then Option.some (x.snd.snd.2, v5.2)
                                                else Option.some (Bool.false, v5.2)
                                              else Option.none)
                                          fun (v5 : Bool × List Bool) =>
                                          if v5.fst = Bool.true then Option.some (Go.IntKind.wrap Go.IntKind.i64 (s4.snd.fst + (1 : Int)), s4.snd.1, v5.2) else Option.some (s4.snd.1, s4.snd.1, v5.2)
                                    else Option.none
                                else Option.none)
                                fun (v5 : Int × Int × List Bool) =>
                                Option.bind
                                  (if s4.fst = Bool.true then Option.some (Bool.true, v5.snd.2)
                                  else
                                    if (0 : Int) ≤ v5.fst ∧ v5.fst < (↑(List.length v5.snd.snd) : Int) then
                                      if (!List.getD v5.snd.2 (Int.toNat v5.fst) Bool.false) = Bool.true then Option.some (Bool.true, v5.snd.2)
                                      else
                                        if (0 : Int) ≤ v5.snd.fst ∧ v5.snd.fst < (↑(List.length v5.snd.snd) : Int) then Option.some (!List.getD v5.snd.2 (Int.toNat v5.snd.fst) Bool.false, v5.snd.2)
                                        else Option.none
                                    else Option.none)
                                  fun (v6 : Bool × List Bool) =>
                                  if (0 : Int) ≤ v5.fst ∧ v5.fst < (↑(List.length v6.snd) : Int) then
                                    if (0 : Int) ≤ v5.snd.fst ∧ v5.snd.fst < (↑(List.length (List.set v6.2 (Int.toNat v5.fst) Bool.true)) : Int) then
                                      Option.some
                                        (Sum.inl
                                          (v6.1, Go.IntKind.wrap Go.IntKind.i64 (s4.snd.fst + (1 : Int)), List.set (List.set v6.2 (Int.toNat v5.fst) Bool.true) (Int.toNat v5.snd.fst) Bool.true))
                                    else Option.none
                                  else Option.none
                          else Option.none
                        else Option.some (Sum.inr (s4.1, s4.snd.2)))
                      (Bool.false, (0 : Int), s3.2))
                    fun (v4 : Bool × List Bool) => Option.some (Sum.inl (v4.1, v4.2))
                else Option.some (Sum.inr s3.2))
              (Bool.true, v2))
            fun (v3 : List Bool) =>
            if (0 : Int) ≤ (↑(List.length x.fst) : Int) ∧ (↑(List.length x.fst) : Int) ≤ (↑(List.length v3) : Int) then
              Option.bind (Go.Sx.S.f45F (List.take (Int.toNat (↑(List.length x.fst) : Int)) v3)) fun (v4 : List Int) => Option.some v4
            else Option.none
      else Option.none
theorem S.f18eq : ∀ x, runFn S.C S.f18Γ S.f18sig S.f18ann Go.Proofs.Try.f18 x = S.f18F x := by
  intro x
  kernel_rfl
noncomputable def S.f18con : Con := ⟨18, S.f18sig, S.f18F⟩
theorem S.f18ok : Con.Ok Go.Proofs.Try.prog S.C S.f18con :=
  runFn_ok (Γ := S.f18Γ) (an := S.f18ann) ⟨S.Cok, (List.forall_mem_cons.2 ⟨S.f26ok, (List.forall_mem_cons.2 ⟨S.f45ok, (fun _ h => nomatch h)⟩)⟩), S.mixed⟩ Go.Proofs.Try.func18 rfl rfl (fun x y h => (S.f18eq x).trans h) (by decide)
def S.f47sig : Sig := ⟨⟨[.hole (.sl (.st (.pair (.int .i64) (.int .i64)))), .hole (.int .i64)], []⟩, ⟨[.hole .bool], []⟩⟩
noncomputable def S.f47Γ : List Con := []
def S.f47ann : Ann :=
  (.seq .leaf (.seq (.seq .leaf (.block (.loop ⟨.normal, [(5, .hole (.int .i64))], []⟩ [⟨(.exit 0), [], []⟩, ⟨.ret, [(4, .hole .bool)], []⟩] (.seq (.seq .leaf (.cond .leaf .leaf)) (.seq (.block (.seq (.join [⟨.normal, [(27, .hole .bool)], []⟩] .leaf) (.cond (.seq .leaf .leaf) .leaf))) .leaf))))) (.seq .leaf .leaf)))
/- ductus/ductusref16.Has -/
noncomputable def S.f47F : List (Int × Int) × Int → Option (Bool) :=
  fun (x : List (Int × Int) × Int) =>
  Option.bind
    (Go.Sx.iter
      (fun (s1 : Int) =>
        if Decidable.decide (s1 < (↑(List.length x.fst) : Int)) = Bool.true then
          Option.bind
            (if (0 : Int) ≤ s1 ∧ s1 < (↑(List.length x.fst) : Int) then
              if Decidable.decide (x.snd ≥ (List.getD x.fst (Int.toNat s1) ((0 : Int), (0 : Int))).fst) = Bool.true then
                if (0 : Int) ≤ s1 ∧ s1 < (↑(List.length x.fst) : Int) then Option.some (Decidable.decide (x.snd ≤ (List.getD x.fst (Int.toNat s1) ((0 : Int), (0 : Int))).snd)) else Option.none
              else Option.some Bool.false
            else Option.none)
            fun (v2 : Bool) => if v2 = Bool.true then Option.some (Sum.inr (Sum.inr Bool.true)) else Option.some (Sum.inl (Go.IntKind.wrap Go.IntKind.i64 (s1 + (1 : Int))))
        else Option.some (Sum.inr (Sum.inl ())))
      (0 : Int))
    fun (v1 : PUnit ⊕ Bool) => Sum.elim (fun (p2 : PUnit) => Option.some Bool.false) (fun (q2 : Bool) => Option.some q2) v1
theorem S.f47eq : ∀ x, runFn S.C S.f47Γ S.f47sig S.f47ann Go.Proofs.Try.f47 x = S.f47F x := by
  intro x
  kernel_rfl
noncomputable def S.f47con : Con := ⟨47, S.f47sig, S.f47F⟩
theorem S.f47ok : Con.Ok Go.Proofs.Try.prog S.C S.f47con :=
  runFn_ok (Γ := S.f47Γ) (an := S.f47ann) ⟨S.Cok, (fun _ h => nomatch h), S.mixed⟩ Go.Proofs.Try.func47 rfl rfl (fun x y h => (S.f47eq x).trans h) (by decide)
def S.f20sig : Sig := ⟨⟨[.hole (.sl (.st (.pair (.int .i64) (.pair (.sl (.st (.pair (.int .i64) (.int .i64)))) (.pair (.int .i64) (.int .i64)))))), .hole (.sl (.int .i64)), .hole (.int .i64)], []⟩, ⟨[.hole (.sl (.int .i64))], []⟩⟩
noncomputable def S.f20Γ : List Con := [S.f26con, S.f47con, S.f45con]
def S.f20ann : Ann :=
  (.seq .leaf (.seq (.seq .leaf (.cond (.seq .leaf .leaf) .leaf)) (.seq .leaf (.seq (.seq .leaf (.block (.loop ⟨.normal, [(8, .hole (.int .i64))], [.arr 4 .bool]⟩ [⟨(.exit 0), [], [.arr 4 .bool]⟩] (.seq (.seq .leaf (.cond .leaf .leaf)) (.seq (.block (.seq .leaf (.seq (.join [⟨.normal, [(51, .hole .bool)], [.arr 4 .bool]⟩] .leaf) (.cond .leaf .leaf)))) .leaf))))) (.seq .leaf .leaf)))))
/- ductus/ductusref20.Move -/
noncomputable def S.f20F : List (Int × List (Int × Int) × Int × Int) × List Int × Int → Option (List Int) :=
  fun (x : List (Int × List (Int × Int) × Int × Int) × List Int × Int) =>
  Option.bind (Go.Sx.S.f26F x.1) fun (v1 : Bool) =>
    if (!v1) = Bool.true then Option.some []
    else
      if
          (0 : Int) ≤ Go.IntKind.wrap Go.IntKind.i64 ((↑(List.length x.fst) : Int) + (1 : Int)) ∧
            Go.IntKind.wrap Go.IntKind.i64 ((↑(List.length x.fst) : Int) + (1 : Int)) ≤ Go.IntKind.wrap Go.IntKind.i64 ((↑(List.length x.fst) : Int) + (1 : Int)) ∧
              Go.Sx.roomOk (Int.toNat (Go.IntKind.wrap Go.IntKind.i64 ((↑(List.length x.fst) : Int) + (1 : Int))))
                { kind := Go.Sx.TK.bool, size := (1 : Nat), bytes := (1 : Nat), ty := Option.some Go.Sx.Ty.bool, zero := [Go.Sx.SV.bit Bool.false] : Go.Sx.TI }.bytes then
        Option.bind
          (Go.Sx.iter
            (fun (s2 : Int × List Bool) =>
              if Decidable.decide (s2.fst < (↑(List.length x.snd.fst) : Int)) = Bool.true then
                if (0 : Int) ≤ s2.fst ∧ s2.fst < (↑(List.length x.snd.fst) : Int) then
                  Option.bind
                    (if Decidable.decide (List.getD x.snd.fst (Int.toNat s2.fst) (0 : Int) ≥ (0 : Int)) = Bool.true then
                      if Decidable.decide (List.getD x.snd.fst (Int.toNat s2.fst) (0 : Int) < (↑(List.length x.fst) : Int)) = Bool.true then
                        if (0 : Int) ≤ List.getD x.snd.fst (Int.toNat s2.fst) (0 : Int) ∧ List.getD x.snd.fst (Int.toNat s2.fst) (0 : Int) < (↑(List.length x.fst) : Int) then
                          if ((List.getD x.fst (Int.toNat (List.getD x.snd.fst (Int.toNat s2.fst) (0 : Int))) ((0 : Int), [], (0 : Int), (0 : Int))).fst == (1 : Int)) = Bool.true then
                            if (0 : Int) ≤ List.getD x.snd.fst (Int.toNat s2.fst) (0 : Int) ∧ List.getD x.snd.fst (Int.toNat s2.fst) (0 : Int) < (↑(List.length x.fst) : Int) then
                              Option.bind (Go.Sx.S.f47F ((List.getD x.fst (Int.toNat (List.getD x.snd.fst (Int.toNat s2.fst) (0 : Int))) ((0 : Int), [], (0 : Int), (0 : Int))).snd.1, x.snd.2))
                                fun (v3 : Bool) => Option.some (v3, s2.2)
                            else Option.none
                          else Option.some (Bool.false, s2.2)
                        else Option.none
                      else Option.some (Bool.false, s2.2)
                    else Option.some (Bool.false, s2.2))
                    fun (v3 : Bool × List Bool) =>
                    if v3.fst = Bool.true then
                      if
                          (0 : Int) ≤ Go.IntKind.wrap Go.IntKind.i64 (List.getD x.snd.fst (Int.toNat s2.fst) (0 : Int) + (1 : Int)) ∧
                            Go.IntKind.wrap Go.IntKind.i64 (List.getD x.snd.fst (Int.toNat s2.fst) (0 : Int) + (1 : Int)) < (↑(List.length v3.snd) : Int) then
                        Option.some
                          (Sum.inl
                            (Go.IntKind.wrap Go.IntKind.i64 (s2.fst + (1 : Int)),
                              List.set v3.2 (Int.toNat (Go.IntKind.wrap Go.IntKind.i64 (List.getD x.snd.fst (Int.toNat s2.fst) (0 : Int) + (1 : Int)))) Bool.true))
                      else Option.none
                    else Option.some (Sum.inl (Go.IntKind.wrap Go.IntKind.i64 (s2.fst + (1 : Int)), v3.2))
                else Option.none
              else Option.some (Sum.inr s2.2))
            ((0 : Int), List.replicate (Int.toNat (Go.IntKind.wrap Go.IntKind.i64 ((↑(List.length x.fst) : Int) + (1 : Int)))) Bool.false))
          fun (v2 : List Bool) => Option.bind (Go.Sx.S.f45F v2) fun (v3 : List Int) => Option.some v3
      else Option.none
theorem S.f20eq : ∀ x, runFn S.C S.f20Γ S.f20sig S.f20ann Go.Proofs.Try.f20 x = S.f20F x := by
  intro x
  kernel_rfl
noncomputable def S.f20con : Con := ⟨20, S.f20sig, S.f20F⟩
theorem S.f20ok : Con.Ok Go.Proofs.Try.prog S.C S.f20con :=
  runFn_ok (Γ := S.f20Γ) (an := S.f20ann) ⟨S.Cok, (List.forall_mem_cons.2 ⟨S.f26ok, (List.forall_mem_cons.2 ⟨S.f47ok, (List.forall_mem_cons.2 ⟨S.f45ok, (fun _ h => nomatch h)⟩)⟩)⟩), S.mixed⟩ Go.Proofs.Try.func20 rfl rfl (fun x y h => (S.f20eq x).trans h) (by decide)
def S.f3sig : Sig := ⟨⟨[.hole (.sl (.st (.pair (.int .i64) (.pair (.sl (.st (.pair (.int .i64) (.int .i64)))) (.pair (.int .i64) (.int .i64)))))), .hole (.sl (.int .i64)), .hole (.int .i64)], []⟩, ⟨[.hole .bool], []⟩⟩
noncomputable def S.f3Γ : List Con := [S.f14con, S.f15con, S.f17con, S.f18con, S.f16con, S.f19con, S.f20con]
def S.f3ann : Ann :=
  (.seq .leaf (.seq (.seq .leaf (.cond (.seq .leaf .leaf) .leaf)) (.seq (.seq (.join [⟨.normal, [(16, .hole .bool)], []⟩] .leaf) (.cond (.seq .leaf .leaf) .leaf)) (.seq (.seq .leaf (.block (.loop ⟨.normal, [(7, .hole (.int .i64))], []⟩ [⟨(.exit 0), [], []⟩, ⟨.ret, [(6, .hole .bool)], []⟩] (.seq (.seq .leaf (.cond .leaf .leaf)) (.seq (.block (.seq .leaf (.cond (.seq .leaf .leaf) .leaf))) .leaf))))) (.seq .leaf .leaf)))))
/- ductus/ductuslaw20.SimSets -/
noncomputable def S.f3F : List (Int × List (Int × Int) × Int × Int) × List Int × Int → Option (Bool) :=
  fun (x : List (Int × List (Int × Int) × Int × Int) × List Int × Int) =>
  Option.bind (Go.Sx.S.f14F ()) fun (v1 : Bool) =>
    if (!v1) = Bool.true then Option.some Bool.false
    else
      Option.bind (Option.bind (Go.Sx.S.f15F x.1) fun (v2 : Bool) => if v2 = Bool.true then Option.some Bool.true else Option.some (Decidable.decide ((↑(List.length x.snd.fst) : Int) > (300 : Int))))
        fun (v2 : Bool) =>
        if v2 = Bool.true then Option.some Bool.true
        else
          Option.bind
            (Go.Sx.iter
              (fun (s3 : Int) =>
                if Decidable.decide (s3 < (4 : Int)) = Bool.true then
                  Option.bind (Go.Sx.S.f17F (x.1, x.snd.1, Int.tmod s3 (2 : Int) == (1 : Int), Go.IntKind.wrap Go.IntKind.i64 (Int.tdiv s3 (2 : Int)) == (1 : Int))) fun (v4 : List Int) =>
                    Option.bind (Go.Sx.S.f18F (x.1, x.snd.1, Int.tmod s3 (2 : Int) == (1 : Int), Go.IntKind.wrap Go.IntKind.i64 (Int.tdiv s3 (2 : Int)) == (1 : Int))) fun (v5 : List Int) =>
                      Option.bind (Go.Sx.S.f16F (v4, v5)) fun (v6 : Bool) =>
                        if (!v6) = Bool.true then Option.some (Sum.inr (Sum.inr Bool.false)) else Option.some (Sum.inl (Go.IntKind.wrap Go.IntKind.i64 (s3 + (1 : Int))))
                else Option.some (Sum.inr (Sum.inl ())))
              (0 : Int))
            fun (v3 : PUnit ⊕ Bool) =>
            Sum.elim
              (fun (p4 : PUnit) =>
                Option.bind (Go.Sx.S.f19F (x.1, x.snd.1, x.snd.2)) fun (v5 : List Int) =>
                  Option.bind (Go.Sx.S.f20F (x.1, x.snd.1, x.snd.2)) fun (v6 : List Int) => Option.bind (Go.Sx.S.f16F (v5, v6)) fun (v7 : Bool) => Option.some v7)
              (fun (q4 : Bool) => Option.some q4) v3
theorem S.f3eq : ∀ x, runFn S.C S.f3Γ S.f3sig S.f3ann Go.Proofs.Try.f3 x = S.f3F x := by
  intro x
  kernel_rfl
noncomputable def S.f3con : Con := ⟨3, S.f3sig, S.f3F⟩
theorem S.f3ok : Con.Ok Go.Proofs.Try.prog S.C S.f3con :=
  runFn_ok (Γ := S.f3Γ) (an := S.f3ann) ⟨S.Cok, (List.forall_mem_cons.2 ⟨S.f14ok, (List.forall_mem_cons.2 ⟨S.f15ok, (List.forall_mem_cons.2 ⟨S.f17ok, (List.forall_mem_cons.2 ⟨S.f18ok, (List.forall_mem_cons.2 ⟨S.f16ok, (List.forall_mem_cons.2 ⟨S.f19ok, (List.forall_mem_cons.2 ⟨S.f20ok, (fun _ h => nomatch h)⟩)⟩)⟩)⟩)⟩)⟩)⟩), S.mixed⟩ Go.Proofs.Try.func3 rfl rfl (fun x y h => (S.f3eq x).trans h) (by decide)
def S.f78sig : Sig := ⟨⟨[.hole (.sl (.st (.pair (.int .i64) (.pair (.sl (.st (.pair (.int .i64) (.int .i64)))) (.pair (.int .i64) (.int .i64)))))), .hole (.sl (.int .i64))], []⟩, ⟨[.hole .bool], []⟩⟩
noncomputable def S.f78Γ : List Con := []
def S.f78ann : Ann :=
  (.seq .leaf (.seq (.seq .leaf (.block (.loop ⟨.normal, [(5, .hole (.int .i64))], []⟩ [⟨(.exit 0), [], []⟩, ⟨.ret, [(4, .hole .bool)], []⟩] (.seq (.seq .leaf (.cond .leaf .leaf)) (.seq (.block (.seq .leaf (.cond (.seq .leaf .leaf) .leaf))) .leaf))))) (.seq .leaf .leaf)))
/- ductus/ductusref20.ends -/
noncomputable def S.f78F : List (Int × List (Int × Int) × Int × Int) × List Int → Option (Bool) :=
  fun (x : List (Int × List (Int × Int) × Int × Int) × List Int) =>
  Option.bind
    (Go.Sx.iter
      (fun (s1 : Int) =>
        if Decidable.decide (s1 < (↑(List.length x.snd) : Int)) = Bool.true then
          if (0 : Int) ≤ s1 ∧ s1 < (↑(List.length x.snd) : Int) then
            if (0 : Int) ≤ List.getD x.snd (Int.toNat s1) (0 : Int) ∧ List.getD x.snd (Int.toNat s1) (0 : Int) < (↑(List.length x.fst) : Int) then
              if ((List.getD x.fst (Int.toNat (List.getD x.snd (Int.toNat s1) (0 : Int))) ((0 : Int), [], (0 : Int), (0 : Int))).fst == (0 : Int)) = Bool.true then
                Option.some (Sum.inr (Sum.inr Bool.true))
              else Option.some (Sum.inl (Go.IntKind.wrap Go.IntKind.i64 (s1 + (1 : Int))))
            else Option.none
          else Option.none
        else Option.some (Sum.inr (Sum.inl ())))
      (0 : Int))
    fun (v1 : PUnit ⊕ Bool) => Sum.elim (fun (p2 : PUnit) => Option.some Bool.false) (fun (q2 : Bool) => Option.some q2) v1
theorem S.f78eq : ∀ x, runFn S.C S.f78Γ S.f78sig S.f78ann Go.Proofs.Try.f78 x = S.f78F x := by
  intro x
  kernel_rfl
noncomputable def S.f78con : Con := ⟨78, S.f78sig, S.f78F⟩
theorem S.f78ok : Con.Ok Go.Proofs.Try.prog S.C S.f78con :=
  runFn_ok (Γ := S.f78Γ) (an := S.f78ann) ⟨S.Cok, (fun _ h => nomatch h), S.mixed⟩ Go.Proofs.Try.func78 rfl rfl (fun x y h => (S.f78eq x).trans h) (by decide)
def S.f50sig : Sig := ⟨⟨[.hole (.sl (.st (.pair (.int .i64) (.pair (.sl (.st (.pair (.int .i64) (.int .i64)))) (.pair (.int .i64) (.int .i64)))))), .hole (.sl (.int .i64)), .hole (.int .i64)], []⟩, ⟨[.hole (.sl (.int .i64)), .hole (.int .i64)], []⟩⟩
noncomputable def S.f50Γ : List Con := [S.f26con, S.f18con, S.f78con, S.f20con]
def S.f50ann : Ann :=
  (.seq .leaf (.seq .leaf (.seq .leaf (.seq (.seq (.join [⟨.normal, [(25, .hole .bool)], []⟩] .leaf) (.cond (.seq .leaf .leaf) .leaf)) (.seq .leaf (.seq (.seq .leaf (.block (.loop ⟨.normal, [(9, .hole (.int .i64)), (8, .own 1), (10, .hole (.sl (.int .i64))), (11, .hole (.int .i64))], [.gone, .arr 3 (.int .i64)]⟩ [⟨(.exit 0), [(9, .hole (.int .i64)), (8, .own 1)], [.gone, .arr 3 (.int .i64)]⟩] (.seq (.seq .leaf (.cond .leaf .leaf)) (.seq (.block (.seq .leaf (.seq .leaf (.seq (.join [⟨.normal, [(8, .own 2)], [.gone, .gone, .arr 3 (.int .i64)]⟩] (.seq .leaf (.cond .leaf .leaf))) (.seq .leaf (.seq .leaf (.cond .leaf .leaf))))))) .leaf))))) (.seq .leaf .leaf)))))))
/- ductus/ductusref20.walk -/
noncomputable def S.f50F : List (Int × List (Int × Int) × Int × Int) × List Int × Int → Option (List Int × Int) :=
  fun (x : List (Int × List (Int × Int) × Int × Int) × List Int × Int) =>
  Option.bind
    (Option.bind (Go.Sx.S.f26F x.1) fun (v1 : Bool) =>
      if (!v1) = Bool.true then Option.some Bool.true
      else if Decidable.decide (x.snd.snd < (0 : Int)) = Bool.true then Option.some Bool.true else Option.some (Decidable.decide (x.snd.snd > (↑(List.length x.snd.fst) : Int))))
    fun (v1 : Bool) =>
    if v1 = Bool.true then Option.some ([], (0 : Int))
    else
      Option.bind
        (Go.Sx.iter
          (fun (s2 : Int × List Int × Int × List Int) =>
            if Decidable.decide ((↑(List.length s2.snd.fst) : Int) > (0 : Int)) = Bool.true then
              Option.bind (Go.Sx.S.f18F (x.1, s2.snd.1, s2.snd.snd.fst == (0 : Int), s2.snd.snd.fst == (↑(List.length x.snd.fst) : Int))) fun (v3 : List Int) =>
                Option.bind
                  (Option.bind (Go.Sx.S.f78F (x.1, v3)) fun (v4 : Bool) =>
                    if v4 = Bool.true then
                      if
                          Go.Sx.roomOk (List.length s2.snd.snd.snd + List.length [s2.snd.snd.1])
                            { kind := Go.Sx.TK.int Go.IntKind.i64, size := (1 : Nat), bytes := (8 : Nat), ty := Option.some (Go.Sx.Ty.int Go.IntKind.i64),
                                zero := [Go.Sx.SV.val (Go.Sx.Ty.int Go.IntKind.i64) (0 : Int)] : Go.Sx.TI }.bytes then
                        Option.some (s2.snd.snd.2 ++ [s2.snd.snd.1])
                      else Option.none
                    else Option.some s2.snd.snd.2)
                  fun (v4 : List Int) =>
                  if Decidable.decide (s2.snd.snd.fst < (↑(List.length x.snd.fst) : Int)) = Bool.true then
                    if (0 : Int) ≤ s2.snd.snd.fst ∧ s2.snd.snd.fst < (↑(List.length x.snd.fst) : Int) then
                      Option.bind (Go.Sx.S.f20F (x.1, v3, List.getD x.snd.fst (Int.toNat s2.snd.snd.fst) (0 : Int))) fun (v5 : List Int) =>
                        Option.some (Sum.inl (Go.IntKind.wrap Go.IntKind.i64 (s2.fst + (↑(List.length v3) : Int)), v5, Go.IntKind.wrap Go.IntKind.i64 (s2.snd.snd.fst + (1 : Int)), v4))
                    else Option.none
                  else Option.some (Sum.inl (Go.IntKind.wrap Go.IntKind.i64 (s2.fst + (↑(List.length v3) : Int)), [], Go.IntKind.wrap Go.IntKind.i64 (s2.snd.snd.fst + (1 : Int)), v4))
            else Option.some (Sum.inr (s2.1, s2.snd.snd.2)))
          ((0 : Int), [(0 : Int)], x.snd.2, []))
        fun (v2 : Int × List Int) => Option.some (v2.2, v2.1)
theorem S.f50eq : ∀ x, runFn S.C S.f50Γ S.f50sig S.f50ann Go.Proofs.Try.f50 x = S.f50F x := by
  intro x
  kernel_rfl
noncomputable def S.f50con : Con := ⟨50, S.f50sig, S.f50F⟩
theorem S.f50ok : Con.Ok Go.Proofs.Try.prog S.C S.f50con :=
  runFn_ok (Γ := S.f50Γ) (an := S.f50ann) ⟨S.Cok, (List.forall_mem_cons.2 ⟨S.f26ok, (List.forall_mem_cons.2 ⟨S.f18ok, (List.forall_mem_cons.2 ⟨S.f78ok, (List.forall_mem_cons.2 ⟨S.f20ok, (fun _ h => nomatch h)⟩)⟩)⟩)⟩), S.mixed⟩ Go.Proofs.Try.func50 rfl rfl (fun x y h => (S.f50eq x).trans h) (by decide)
def S.f22sig : Sig := ⟨⟨[.hole (.sl (.st (.pair (.int .i64) (.pair (.sl (.st (.pair (.int .i64) (.int .i64)))) (.pair (.int .i64) (.int .i64)))))), .hole (.sl (.int .i64)), .hole (.int .i64)], []⟩, ⟨[.hole (.int .i64), .hole (.int .i64)], []⟩⟩
noncomputable def S.f22Γ : List Con := [S.f50con]
def S.f22ann : Ann :=
  (.seq .leaf (.seq .leaf (.seq (.seq .leaf (.cond (.seq .leaf .leaf) .leaf)) (.seq .leaf .leaf))))
/- ductus/ductusref20.Longest -/
noncomputable def S.f22F : List (Int × List (Int × Int) × Int × Int) × List Int × Int → Option (Int × Int) :=
  fun (x : List (Int × List (Int × Int) × Int × Int) × List Int × Int) =>
  Option.bind (Go.Sx.S.f50F (x.1, x.snd.1, x.snd.2)) fun (v1 : List Int × Int) =>
    if ((↑(List.length v1.fst) : Int) == (0 : Int)) = Bool.true then Option.some ((-1 : Int), v1.2)
    else
      if
          (0 : Int) ≤ Go.IntKind.wrap Go.IntKind.i64 ((↑(List.length v1.fst) : Int) - (1 : Int)) ∧
            Go.IntKind.wrap Go.IntKind.i64 ((↑(List.length v1.fst) : Int) - (1 : Int)) < (↑(List.length v1.fst) : Int) then
        Option.some (List.getD v1.fst (Int.toNat (Go.IntKind.wrap Go.IntKind.i64 ((↑(List.length v1.fst) : Int) - (1 : Int)))) (0 : Int), v1.2)
      else Option.none
theorem S.f22eq : ∀ x, runFn S.C S.f22Γ S.f22sig S.f22ann Go.Proofs.Try.f22 x = S.f22F x := by
  intro x
  kernel_rfl
noncomputable def S.f22con : Con := ⟨22, S.f22sig, S.f22F⟩
theorem S.f22ok : Con.Ok Go.Proofs.Try.prog S.C S.f22con :=
  runFn_ok (Γ := S.f22Γ) (an := S.f22ann) ⟨S.Cok, (List.forall_mem_cons.2 ⟨S.f50ok, (fun _ h => nomatch h)⟩), S.mixed⟩ Go.Proofs.Try.func22 rfl rfl (fun x y h => (S.f22eq x).trans h) (by decide)
def S.f24sig : Sig := ⟨⟨[.hole (.sl (.st (.pair (.int .i64) (.pair (.sl (.st (.pair (.int .i64) (.int .i64)))) (.pair (.int .i64) (.int .i64)))))), .hole (.sl (.int .i64)), .hole (.int .i64), .hole (.int .i64)], []⟩, ⟨[.hole .bool], []⟩⟩
noncomputable def S.f24Γ : List Con := [S.f50con]
def S.f24ann : Ann :=
  (.seq .leaf (.seq .leaf (.seq (.seq .leaf (.block (.loop ⟨.normal, [(11, .hole (.int .i64))], []⟩ [⟨(.exit 0), [], []⟩, ⟨.ret, [(8, .hole .bool)], []⟩] (.seq (.seq .leaf (.cond .leaf .leaf)) (.seq (.block (.seq .leaf (.cond (.seq .leaf .leaf) .leaf))) .leaf))))) (.seq .leaf .leaf))))
/- ductus/ductusref20.Matches -/
noncomputable def S.f24F : List (Int × List (Int × Int) × Int × Int) × List Int × Int × Int → Option (Bool) :=
  fun (x : List (Int × List (Int × Int) × Int × Int) × List Int × Int × Int) =>
  Option.bind (Go.Sx.S.f50F (x.1, x.snd.1, x.snd.snd.1)) fun (v1 : List Int × Int) =>
    Option.bind
      (Go.Sx.iter
        (fun (s2 : Int) =>
          if Decidable.decide (s2 < (↑(List.length v1.fst) : Int)) = Bool.true then
            if (0 : Int) ≤ s2 ∧ s2 < (↑(List.length v1.fst) : Int) then
              if (List.getD v1.fst (Int.toNat s2) (0 : Int) == x.snd.snd.snd) = Bool.true then Option.some (Sum.inr (Sum.inr Bool.true))
              else Option.some (Sum.inl (Go.IntKind.wrap Go.IntKind.i64 (s2 + (1 : Int))))
            else Option.none
          else Option.some (Sum.inr (Sum.inl ())))
        (0 : Int))
      fun (v2 : PUnit ⊕ Bool) => Sum.elim (fun (p3 : PUnit) => Option.some Bool.false) (fun (q3 : Bool) => Option.some q3) v2
theorem S.f24eq : ∀ x, runFn S.C S.f24Γ S.f24sig S.f24ann Go.Proofs.Try.f24 x = S.f24F x := by
  intro x
  kernel_rfl
noncomputable def S.f24con : Con := ⟨24, S.f24sig, S.f24F⟩
theorem S.f24ok : Con.Ok Go.Proofs.Try.prog S.C S.f24con :=
  runFn_ok (Γ := S.f24Γ) (an := S.f24ann) ⟨S.Cok, (List.forall_mem_cons.2 ⟨S.f50ok, (fun _ h => nomatch h)⟩), S.mixed⟩ Go.Proofs.Try.func24 rfl rfl (fun x y h => (S.f24eq x).trans h) (by decide)
def S.f4sig : Sig := ⟨⟨[.hole (.sl (.st (.pair (.int .i64) (.pair (.sl (.st (.pair (.int .i64) (.int .i64)))) (.pair (.int .i64) (.int .i64)))))), .hole (.sl (.int .i64)), .hole (.arr 2 (.int .i64))], []⟩, ⟨[.hole .bool], []⟩⟩
noncomputable def S.f4Γ : List Con := [S.f14con, S.f15con, S.f21con, S.f22con, S.f23con, S.f24con]
def S.f4ann : Ann :=
  (.seq .leaf (.seq (.seq .leaf (.cond (.seq .leaf .leaf) .leaf)) (.seq (.seq (.join [⟨.normal, [(24, .hole .bool)], [.cells [.hole (.int .i64), .hole (.int .i64)]]⟩] .leaf) (.cond (.seq .leaf .leaf) .leaf)) (.seq .leaf (.seq .leaf (.seq .leaf .leaf))))))
/- ductus/ductuslaw20.SimRuns -/
noncomputable def S.f4F : List (Int × List (Int × Int) × Int × Int) × List Int × List Int → Option (Bool) :=
  fun (x : List (Int × List (Int × Int) × Int × Int) × List Int × List Int) =>
  Option.bind (Go.Sx.S.f14F ()) fun (v1 : Bool) =>
    if (!v1) = Bool.true then Option.some Bool.false
    else
      Option.bind
        (Option.bind (Go.Sx.S.f15F x.1) fun (v2 : Bool) =>
          if v2 = Bool.true then Option.some (Bool.true, List.getD x.snd.snd (nat_lit 0) (0 : Int), List.getD x.snd.snd (nat_lit 1) (0 : Int))
          else
            if Decidable.decide ((↑(List.length x.fst) : Int) > (200 : Int)) = Bool.true then
              Option.some (Bool.true, List.getD x.snd.snd (nat_lit 0) (0 : Int), List.getD x.snd.snd (nat_lit 1) (0 : Int))
            else Option.some (Decidable.decide ((↑(List.length x.snd.fst) : Int) > (40 : Int)), List.getD x.snd.snd (nat_lit 0) (0 : Int), List.getD x.snd.snd (nat_lit 1) (0 : Int)))
        fun (v2 : Bool × Int × Int) =>
        if v2.fst = Bool.true then Option.some Bool.true
        else
          if (0 : Int) ≤ (0 : Int) ∧ (0 : Int) < (↑(2 : Nat) : Int) then
            Option.bind (Go.Sx.S.f21F (x.1, x.snd.1, v2.snd.1)) fun (v3 : Int × Int) =>
              if (0 : Int) ≤ (0 : Int) ∧ (0 : Int) < (↑(2 : Nat) : Int) then
                Option.bind (Go.Sx.S.f22F (x.1, x.snd.1, v2.snd.1)) fun (v4 : Int × Int) =>
                  if (v3.fst == v4.fst) = Bool.true then
                    if (v3.snd == v4.snd) = Bool.true then
                      if (0 : Int) ≤ (0 : Int) ∧ (0 : Int) < (↑(2 : Nat) : Int) then
                        if (0 : Int) ≤ (1 : Int) ∧ (1 : Int) < (↑(2 : Nat) : Int) then
                          Option.bind (Go.Sx.S.f23F (x.1, x.snd.1, v2.snd.1, v2.snd.2)) fun (v5 : Bool) =>
                            if (0 : Int) ≤ (0 : Int) ∧ (0 : Int) < (↑(2 : Nat) : Int) then
                              if (0 : Int) ≤ (1 : Int) ∧ (1 : Int) < (↑(2 : Nat) : Int) then Option.bind (Go.Sx.S.f24F (x.1, x.snd.1, v2.snd.1, v2.snd.2)) fun (v6 : Bool) => Option.some (v5 == v6)
                              else Option.none
                            else Option.none
                        else Option.none
                      else Option.none
                    else Option.some Bool.false
                  else Option.some Bool.false
              else Option.none
          else Option.none
theorem S.f4eq : ∀ x, runFn S.C S.f4Γ S.f4sig S.f4ann Go.Proofs.Try.f4 x = S.f4F x := by
  intro x
  kernel_rfl
noncomputable def S.f4con : Con := ⟨4, S.f4sig, S.f4F⟩
theorem S.f4ok : Con.Ok Go.Proofs.Try.prog S.C S.f4con :=
  runFn_ok (Γ := S.f4Γ) (an := S.f4ann) ⟨S.Cok, (List.forall_mem_cons.2 ⟨S.f14ok, (List.forall_mem_cons.2 ⟨S.f15ok, (List.forall_mem_cons.2 ⟨S.f21ok, (List.forall_mem_cons.2 ⟨S.f22ok, (List.forall_mem_cons.2 ⟨S.f23ok, (List.forall_mem_cons.2 ⟨S.f24ok, (fun _ h => nomatch h)⟩)⟩)⟩)⟩)⟩)⟩), S.mixed⟩ Go.Proofs.Try.func4 rfl rfl (fun x y h => (S.f4eq x).trans h) (by decide)
def S.f25sig : Sig := ⟨⟨[.hole (.sl (.int .i64)), .hole (.sl (.int .i64))], []⟩, ⟨[.hole .bool], []⟩⟩
noncomputable def S.f25Γ : List Con := []
def S.f25ann : Ann :=
  (.seq .leaf (.seq .leaf (.seq (.seq .leaf (.block (.loop ⟨.normal, [(5, .hole (.int .i64)), (6, .hole (.int .i64))], []⟩ [⟨(.exit 0), [], []⟩, ⟨.ret, [(4, .hole .bool)], []⟩] (.seq (.seq .leaf (.cond .leaf .leaf)) (.seq (.block (.seq (.block (.loop ⟨.normal, [(5, .hole (.int .i64))], []⟩ [⟨(.exit 2), [(5, .hole (.int .i64))], []⟩] (.seq (.seq (.join [⟨.normal, [(27, .hole .bool)], []⟩] .leaf) (.cond .leaf .leaf)) (.block .leaf)))) (.seq (.join [⟨.normal, [(44, .hole .bool)], []⟩] .leaf) (.cond (.seq .leaf .leaf) .leaf)))) .leaf))))) (.seq .leaf .leaf))))
/- ductus/ductuslaw20.within -/
noncomputable def S.f25F : List Int × List Int → Option (Bool) :=
  fun (x : List Int × List Int) =>
  Option.bind
    (Go.Sx.iter
      (fun (s1 : Int × Int) =>
        if Decidable.decide (s1.snd < (↑(List.length x.fst) : Int)) = Bool.true then
          Option.bind
            (Go.Sx.iter
              (fun (s2 : Int) =>
                Option.bind
                  (if Decidable.decide (s2 < (↑(List.length x.snd) : Int)) = Bool.true then
                    if (0 : Int) ≤ s2 ∧ s2 < (↑(List.length x.snd) : Int) then
                      if (0 : Int) ≤ s1.snd ∧ s1.snd < (↑(List.length x.fst) : Int) then
                        Option.some (Decidable.decide (List.getD x.snd (Int.toNat s2) (0 : Int) < List.getD x.fst (Int.toNat s1.snd) (0 : Int)))
                      else Option.none
                    else Option.none
                  else Option.some Bool.false)
                  fun (v3 : Bool) => if v3 = Bool.true then Option.some (Sum.inl (Go.IntKind.wrap Go.IntKind.i64 (s2 + (1 : Int)))) else Option.some (Sum.inr s2))
              s1.1)
            fun (v2 : Int) =>
            Option.bind
              (if (v2 == (↑(List.length x.snd) : Int)) = Bool.true then Option.some Bool.true
              else
                if (0 : Int) ≤ v2 ∧ v2 < (↑(List.length x.snd) : Int) then
                  if (0 : Int) ≤ s1.snd ∧ s1.snd < (↑(List.length x.fst) : Int) then Option.some (List.getD x.snd (Int.toNat v2) (0 : Int) != List.getD x.fst (Int.toNat s1.snd) (0 : Int))
                  else Option.none
                else Option.none)
              fun (v3 : Bool) => if v3 = Bool.true then Option.some (Sum.inr (Sum.inr Bool.false)) else Option.some (Sum.inl (v2, Go.IntKind.wrap Go.IntKind.i64 (s1.snd + (1 : Int))))
        else Option.some (Sum.inr (Sum.inl ())))
      ((0 : Int), (0 : Int)))
    fun (v1 : PUnit ⊕ Bool) => Sum.elim (fun (p2 : PUnit) => Option.some Bool.true) (fun (q2 : Bool) => Option.some q2) v1
theorem S.f25eq : ∀ x, runFn S.C S.f25Γ S.f25sig S.f25ann Go.Proofs.Try.f25 x = S.f25F x := by
  intro x
  kernel_rfl
noncomputable def S.f25con : Con := ⟨25, S.f25sig, S.f25F⟩
theorem S.f25ok : Con.Ok Go.Proofs.Try.prog S.C S.f25con :=
  runFn_ok (Γ := S.f25Γ) (an := S.f25ann) ⟨S.Cok, (fun _ h => nomatch h), S.mixed⟩ Go.Proofs.Try.func25 rfl rfl (fun x y h => (S.f25eq x).trans h) (by decide)
def S.f5sig : Sig := ⟨⟨[.hole (.sl (.st (.pair (.int .i64) (.pair (.sl (.st (.pair (.int .i64) (.int .i64)))) (.pair (.int .i64) (.int .i64)))))), .hole (.sl (.int .i64)), .hole (.sl (.int .i64))], []⟩, ⟨[.hole .bool], []⟩⟩
noncomputable def S.f5Γ : List Con := [S.f14con, S.f15con, S.f17con, S.f16con, S.f25con]
def S.f5ann : Ann :=
  (.seq .leaf (.seq (.seq .leaf (.cond (.seq .leaf .leaf) .leaf)) (.seq (.seq (.join [⟨.normal, [(28, .hole .bool)], []⟩] .leaf) (.cond (.seq .leaf .leaf) .leaf)) (.seq .leaf (.seq .leaf (.seq .leaf (.seq .leaf .leaf)))))))
/- ductus/ductuslaw20.SimReaches -/
noncomputable def S.f5F : List (Int × List (Int × Int) × Int × Int) × List Int × List Int → Option (Bool) :=
  fun (x : List (Int × List (Int × Int) × Int × Int) × List Int × List Int) =>
  Option.bind (Go.Sx.S.f14F ()) fun (v1 : Bool) =>
    if (!v1) = Bool.true then Option.some Bool.false
    else
      Option.bind
        (Option.bind (Go.Sx.S.f15F x.1) fun (v2 : Bool) =>
          if v2 = Bool.true then Option.some Bool.true
          else
            if Decidable.decide ((↑(List.length x.fst) : Int) > (200 : Int)) = Bool.true then Option.some Bool.true
            else
              if Decidable.decide ((↑(List.length x.snd.fst) : Int) > (300 : Int)) = Bool.true then Option.some Bool.true
              else Option.some (Decidable.decide ((↑(List.length x.snd.snd) : Int) > (300 : Int))))
        fun (v2 : Bool) =>
        if v2 = Bool.true then Option.some Bool.true
        else
          Option.bind (Go.Sx.S.f17F (x.1, x.snd.1, Bool.false, Bool.false)) fun (v3 : List Int) =>
            if
                Go.Sx.roomOk ((0 : Nat) + List.length x.snd.1)
                  { kind := Go.Sx.TK.int Go.IntKind.i64, size := (1 : Nat), bytes := (8 : Nat), ty := Option.some (Go.Sx.Ty.int Go.IntKind.i64),
                      zero := [Go.Sx.SV.val (Go.Sx.Ty.int Go.IntKind.i64) (0 : Int)] : Go.Sx.TI }.bytes then
              if
                  Go.Sx.roomOk (List.length ([] ++ x.snd.1) + List.length x.snd.2)
                    { kind := Go.Sx.TK.int Go.IntKind.i64, size := (1 : Nat), bytes := (8 : Nat), ty := Option.some (Go.Sx.Ty.int Go.IntKind.i64),
                        zero := [Go.Sx.SV.val (Go.Sx.Ty.int Go.IntKind.i64) (0 : Int)] : Go.Sx.TI }.bytes then
                Option.bind (Go.Sx.S.f17F (x.1, [] ++ x.snd.1 ++ x.snd.2, Bool.false, Bool.false)) fun (v4 : List Int) =>
                  Option.bind (Go.Sx.S.f17F (x.1, x.snd.1, Bool.true, Bool.true)) fun (v5 : List Int) =>
                    Option.bind (Go.Sx.S.f17F (x.1, v3, Bool.false, Bool.false)) fun (v6 : List Int) =>
                      Option.bind (Go.Sx.S.f16F (v6, v3)) fun (v7 : Bool) =>
                        if v7 = Bool.true then
                          Option.bind (Go.Sx.S.f25F (v3, v4)) fun (v8 : Bool) =>
                            if v8 = Bool.true then Option.bind (Go.Sx.S.f25F (v3, v5)) fun (v9 : Bool) => Option.some v9 else Option.some Bool.false
                        else Option.some Bool.false
              else Option.none
            else Option.none
theorem S.f5eq : ∀ x, runFn S.C S.f5Γ S.f5sig S.f5ann Go.Proofs.Try.f5 x = S.f5F x := by
  intro x
  kernel_rfl
noncomputable def S.f5con : Con := ⟨5, S.f5sig, S.f5F⟩
theorem S.f5ok : Con.Ok Go.Proofs.Try.prog S.C S.f5con :=
  runFn_ok (Γ := S.f5Γ) (an := S.f5ann) ⟨S.Cok, (List.forall_mem_cons.2 ⟨S.f14ok, (List.forall_mem_cons.2 ⟨S.f15ok, (List.forall_mem_cons.2 ⟨S.f17ok, (List.forall_mem_cons.2 ⟨S.f16ok, (List.forall_mem_cons.2 ⟨S.f25ok, (fun _ h => nomatch h)⟩)⟩)⟩)⟩)⟩), S.mixed⟩ Go.Proofs.Try.func5 rfl rfl (fun x y h => (S.f5eq x).trans h) (by decide)
def S.f6sig : Sig := ⟨⟨[.hole (.sl (.st (.pair (.int .i64) (.pair (.sl (.st (.pair (.int .i64) (.int .i64)))) (.pair (.int .i64) (.int .i64)))))), .hole (.sl (.int .i64)), .hole (.int .u8)], []⟩, ⟨[.hole .bool], []⟩⟩
noncomputable def S.f6Γ : List Con := [S.f14con, S.f15con, S.f21con, S.f26con, S.f23con]
def S.f6ann : Ann :=
  (.seq .leaf (.seq (.seq .leaf (.cond (.seq .leaf .leaf) .leaf)) (.seq (.seq (.join [⟨.normal, [(24, .hole .bool)], []⟩] .leaf) (.cond (.seq .leaf .leaf) .leaf)) (.seq .leaf (.seq .leaf (.seq (.seq .leaf (.cond (.seq .leaf .leaf) .leaf)) (.seq (.seq (.join [⟨.normal, [(67, .hole .bool)], []⟩] .leaf) (.cond (.seq .leaf .leaf) .leaf)) (.seq (.seq .leaf (.block (.loop ⟨.normal, [(10, .hole (.int .i64))], []⟩ [⟨(.exit 0), [], []⟩, ⟨.ret, [(6, .hole .bool)], []⟩] (.seq (.seq .leaf (.cond .leaf .leaf)) (.seq (.block (.seq .leaf (.cond (.seq .leaf .leaf) .leaf))) .leaf))))) (.seq .leaf .leaf)))))))))
/- ductus/ductuslaw20.SimLongests -/
noncomputable def S.f6F : List (Int × List (Int × Int) × Int × Int) × List Int × Int → Option (Bool) :=
  fun (x : List (Int × List (Int × Int) × Int × Int) × List Int × Int) =>
  Option.bind (Go.Sx.S.f14F ()) fun (v1 : Bool) =>
    if (!v1) = Bool.true then Option.some Bool.false
    else
      Option.bind
        (Option.bind (Go.Sx.S.f15F x.1) fun (v2 : Bool) =>
          if v2 = Bool.true then Option.some Bool.true
          else
            if Decidable.decide ((↑(List.length x.fst) : Int) > (100 : Int)) = Bool.true then Option.some Bool.true else Option.some (Decidable.decide ((↑(List.length x.snd.fst) : Int) > (30 : Int))))
        fun (v2 : Bool) =>
        if v2 = Bool.true then Option.some Bool.true
        else
          if Go.IntKind.wrap Go.IntKind.i64 ((↑(List.length x.snd.fst) : Int) + (1 : Int)) = (0 : Int) then Option.none
          else
            Option.bind (Go.Sx.S.f21F (x.1, x.snd.1, Int.tmod (Go.IntKind.wrap Go.IntKind.i64 x.snd.snd) (Go.IntKind.wrap Go.IntKind.i64 ((↑(List.length x.snd.fst) : Int) + (1 : Int)))))
              fun (v3 : Int × Int) =>
              Option.bind (Go.Sx.S.f26F x.1) fun (v4 : Bool) =>
                if (!v4) = Bool.true then if (v3.fst == (-1 : Int)) = Bool.true then Option.some (v3.snd == (0 : Int)) else Option.some Bool.false
                else
                  Option.bind
                    (if Decidable.decide (v3.fst ≥ (0 : Int)) = Bool.true then
                      if
                          Decidable.decide (v3.fst < Int.tmod (Go.IntKind.wrap Go.IntKind.i64 x.snd.snd) (Go.IntKind.wrap Go.IntKind.i64 ((↑(List.length x.snd.fst) : Int) + (1 : Int)))) =
                            Bool.true then
                        Option.some Bool.true
                      else
                        if Decidable.decide (v3.fst > (↑(List.length x.snd.fst) : Int)) = Bool.true then Option.some Bool.true
                        else
                          Option.bind
                            (Go.Sx.S.f23F (x.1, x.snd.1, Int.tmod (Go.IntKind.wrap Go.IntKind.i64 x.snd.snd) (Go.IntKind.wrap Go.IntKind.i64 ((↑(List.length x.snd.fst) : Int) + (1 : Int))), v3.1))
                            fun (v5 : Bool) => Option.some !v5
                    else Option.some Bool.false)
                    fun (v5 : Bool) =>
                    if v5 = Bool.true then Option.some Bool.false
                    else
                      Option.bind
                        (Go.Sx.iter
                          (fun (s6 : Int) =>
                            if Decidable.decide (s6 ≤ (↑(List.length x.snd.fst) : Int)) = Bool.true then
                              Option.bind
                                (Go.Sx.S.f23F (x.1, x.snd.1, Int.tmod (Go.IntKind.wrap Go.IntKind.i64 x.snd.snd) (Go.IntKind.wrap Go.IntKind.i64 ((↑(List.length x.snd.fst) : Int) + (1 : Int))), s6))
                                fun (v7 : Bool) => if v7 = Bool.true then Option.some (Sum.inr (Sum.inr Bool.false)) else Option.some (Sum.inl (Go.IntKind.wrap Go.IntKind.i64 (s6 + (1 : Int))))
                            else Option.some (Sum.inr (Sum.inl ())))
                          (if Go.IntKind.wrap Go.IntKind.i64 (v3.fst + (1 : Int)) > (0 : Int) then Go.IntKind.wrap Go.IntKind.i64 (v3.fst + (1 : Int)) else (0 : Int)))
                        fun (v6 : PUnit ⊕ Bool) =>
                        Sum.elim
                          (fun (p7 : PUnit) =>
                            if Decidable.decide (v3.snd > (0 : Int)) = Bool.true then
                              Option.bind
                                (Go.Sx.S.f23F
                                  (x.1, x.snd.1, Int.tmod (Go.IntKind.wrap Go.IntKind.i64 x.snd.snd) (Go.IntKind.wrap Go.IntKind.i64 ((↑(List.length x.snd.fst) : Int) + (1 : Int))),
                                    Go.IntKind.wrap Go.IntKind.i64
                                      (Int.tmod (Go.IntKind.wrap Go.IntKind.i64 x.snd.snd) (Go.IntKind.wrap Go.IntKind.i64 ((↑(List.length x.snd.fst) : Int) + (1 : Int))) - (1 : Int))))
                                fun (v8 : Bool) =>
                                if (!v8) = Bool.true then
                                  Option.bind
                                    (Go.Sx.S.f23F
                                      (x.1, x.snd.1, (-1 : Int), Int.tmod (Go.IntKind.wrap Go.IntKind.i64 x.snd.snd) (Go.IntKind.wrap Go.IntKind.i64 ((↑(List.length x.snd.fst) : Int) + (1 : Int)))))
                                    fun (v9 : Bool) => Option.some !v9
                                else Option.some Bool.false
                            else Option.some Bool.false)
                          (fun (q7 : Bool) => Option.some q7) v6
theorem S.f6eq : ∀ x, runFn S.C S.f6Γ S.f6sig S.f6ann Go.Proofs.Try.f6 x = S.f6F x := by
  intro x
  kernel_rfl
noncomputable def S.f6con : Con := ⟨6, S.f6sig, S.f6F⟩
theorem S.f6ok : Con.Ok Go.Proofs.Try.prog S.C S.f6con :=
  runFn_ok (Γ := S.f6Γ) (an := S.f6ann) ⟨S.Cok, (List.forall_mem_cons.2 ⟨S.f14ok, (List.forall_mem_cons.2 ⟨S.f15ok, (List.forall_mem_cons.2 ⟨S.f21ok, (List.forall_mem_cons.2 ⟨S.f26ok, (List.forall_mem_cons.2 ⟨S.f23ok, (fun _ h => nomatch h)⟩)⟩)⟩)⟩)⟩), S.mixed⟩ Go.Proofs.Try.func6 rfl rfl (fun x y h => (S.f6eq x).trans h) (by decide)
end Go.Sx
