import Derived.Test.YtpmbmobjnknnhaaSxP
import Derived.Test.YtpmbmobjnknnhaaSxFl
import Derived.Test.YtpmbmobjnknnhaaProg
import Derived.KernelRfl
import Derived.Laws.Externs
import Derived.Tactics
import Derived.Test.YtpmbmobjnknnhaaSxS
set_option maxRecDepth 100000
set_option linter.unusedVariables false
set_option linter.unusedSimpArgs false
namespace Go.Sx
open Go.Proofs
def U.truncF (x : Nat) : Option Nat := if (Ieee.double.read x).isNaN = true then none else some (fTrunc x)
def U.trunc : Con := ⟨55, ⟨⟨[.hole .flt], []⟩, ⟨[.hole .flt], []⟩⟩, U.truncF⟩
def U.TT : List (TypeId × TI) := [
  (3, ⟨(.int .i64), 1, 8, some (.int .i64), [.val (.int .i64) (0 : Int)]⟩),
  (4, ⟨.bool, 1, 1, some .bool, [.bit false]⟩),
  (5, ⟨(.int .u8), 1, 1, some (.int .u8), [.val (.int .u8) (0 : Int)]⟩),
  (20, ⟨.other, 1, 16, none, [.und]⟩),
  (22, ⟨(.slice 56), 1, 24, some (.sl (.st (.pair (.int .i64) (.pair (.int .i64) (.sl (.int .i64)))))), [.nils]⟩),
  (23, ⟨(.slice 50), 1, 24, some (.sl (.st (.pair (.int .i64) (.int .i64)))), [.nils]⟩),
  (24, ⟨(.array 2 3), 2, 16, some (.arr 2 (.int .i64)), [.val (.int .i64) (0 : Int), .val (.int .i64) (0 : Int)]⟩),
  (28, ⟨(.slice 30), 1, 24, some (.sl .cplx), [.nils]⟩),
  (30, ⟨.other, 1, 16, some .cplx, [.val .cplx ((0, 0) : Nat × Nat)]⟩),
  (33, ⟨(.slice 36), 1, 24, some (.sl (.arr 2 (.int .u16))), [.nils]⟩),
  (34, ⟨.flt, 1, 8, some .flt, [.val .flt (0 : Nat)]⟩),
  (35, ⟨(.int .u16), 1, 2, some (.int .u16), [.val (.int .u16) (0 : Int)]⟩),
  (36, ⟨(.array 2 35), 2, 4, some (.arr 2 (.int .u16)), [.val (.int .u16) (0 : Int), .val (.int .u16) (0 : Int)]⟩),
  (37, ⟨.other, 1, 0, none, [.und]⟩),
  (39, ⟨(.slice 4), 1, 24, some (.sl .bool), [.nils]⟩),
  (41, ⟨(.slice 3), 1, 24, some (.sl (.int .i64)), [.nils]⟩),
  (50, ⟨(.struct [(3, 0, 1, false), (3, 1, 1, false)]), 2, 16, some (.st (.pair (.int .i64) (.int .i64))), [.val (.int .i64) (0 : Int), .val (.int .i64) (0 : Int)]⟩),
  (51, ⟨.other, 1, 8, none, [.und]⟩),
  (56, ⟨(.struct [(3, 0, 1, false), (3, 1, 1, false), (41, 2, 1, false)]), 3, 40, some (.st (.pair (.int .i64) (.pair (.int .i64) (.sl (.int .i64))))), [.val (.int .i64) (0 : Int), .val (.int .i64) (0 : Int), .nils]⟩),
  (57, ⟨.other, 1, 8, none, [.und]⟩),
  (60, ⟨.other, 1, 0, none, [.und]⟩)]
noncomputable def U.C : Ctx := ⟨U.TT, [], [], [], []⟩
theorem U.Cok : U.C.ok Go.Proofs.Try.prog := checkTT_ok (by kernel_rfl)
theorem U.mixed : Go.Proofs.Try.prog.follows .mixedOrders = true := by kernel_rfl
theorem U.trunc72 (x : Nat) (y : Nat) (h : U.truncF x = some y) (w : World) : (callFunc 72 #[.float .f64 x]).run Go.Proofs.Try.prog w = .ok (.value (.float .f64 y)) w := by
  rw [run_callFunc_extern (e := Extern.MathFloor.toIntegral "math.archTrunc" .zero) Go.Proofs.Try.func72 rfl rfl rfl (by kernel_rfl)]
  unfold U.truncF at h
  split at h
  · cases h
  · rename_i hn
    obtain rfl := Option.some.inj h
    have hd : FloatKind.decode .f64 x = Ieee.double.read x := rfl
    have e : Extern.MathFloor.toIntegral "math.archTrunc" .zero #[.float .f64 x] = (match FloatKind.f64.decode x with
        | .nan s t => if FloatKind.f64.format.quiet t = t then pure (.float .f64 x) else do
            let kept ← choose (.extern "math.Floor,Ceil,Trunc,RoundToEven.signallingNaN kept" 2)
            pure (.float .f64 (if kept == 1 then x else FloatKind.f64.encode (.nan s (FloatKind.f64.format.quiet t))))
        | d => pure (.float .f64 (FloatKind.f64.encode (d.integral .zero)))) := rfl
    rw [e, hd]
    cases hr : Ieee.double.read x with
    | nan s t => rw [hr] at hn; exact absurd rfl hn
    | number s m p => simp [fTrunc, FloatKind.encode, FloatKind.format, hr]
    | infinity s => simp [fTrunc, FloatKind.encode, FloatKind.format, hr]
theorem U.op1 {P : Program} {ops : Array Oper} {Q : Exit → Act → World → Prop} {a : Act} {w : World} {rest : List Oper} {o : Oper} {v : Value} (hg : o.guard = none)
    (he : (execOp a.eval o).run P w = .ok (.value v) w) (h : wpList P ops Q rest (a.put o.dst v) w) : wpList P ops Q (o :: rest) a w := by
  unfold wpList
  rw [if_pos (by simp [Region.wanted, hg])]
  left
  unfold Oper.wp
  rw [he]
  exact h
theorem U.truncok : U.trunc.Ok Go.Proofs.Try.prog U.C where
  there := ⟨_, Go.Proofs.Try.func55, rfl, rfl⟩
  calls := by
    intro E w args (x : Nat) (y : Nat) W hg hs hh hxy
    have hargs : ∃ v, args = [v] ∧ (SV.val .flt x).sat E v := by
      obtain ⟨v, ws, e, h1, h2⟩ := (show SV.satL E [.val .flt x] args from hs)
      simp only [SV.satL] at h2
      subst h2
      exact ⟨v, e, h1⟩
    obtain ⟨v0, rfl, hv0⟩ := hargs
    have ev0 : v0 = .float .f64 x := rep_flt (by simpa only [SV.sat] using hv0)
    subst ev0
    have hc := U.trunc72 x y hxy
    refine calls_of_wp Go.Proofs.Try.func55 (c := _) rfl ?_
    generalize hQ : bodyPost Go.Proofs.Try.prog Go.Proofs.Try.f55 _ = Q
    have hsz : (#[Value.float .f64 x] ++ Array.replicate (Go.Proofs.Try.f55.ntmps - #[Value.float .f64 x].size) undef) = #[.float .f64 x, undef, undef, undef, undef, undef, undef] := by
      rw [show Go.Proofs.Try.f55.ntmps - #[Value.float .f64 x].size = 6 by kernel_rfl]
      rfl
    rw [show [Value.float .f64 x].toArray = #[Value.float .f64 x] from rfl, hsz]
    refine wp_seq ?_
    refine wp_region_list (U.op1 (v := .float .f64 0) rfl (by simp [execOp, Act.eval]) ?_)
    show Code.wp _ _ _ _ _
    refine wp_seq ?_
    refine wp_cond (t := true) rfl ?_
    rw [if_pos rfl]
    refine wp_seq ?_
    refine wp_region_list (U.op1 (v := .float .f64 x) rfl (by simp [execOp, Act.eval, Act.put]) ?_)
    refine U.op1 (v := .float .f64 y) rfl (by simp [execOp, resolve, invoke, Deferred.ofValue, Act.eval, Act.put, hc]) ?_
    refine U.op1 (v := .float .f64 y) rfl (by simp [execOp, Act.eval, Act.put]) ?_
    show Code.wp _ _ _ _ _
    refine wp_ret ?_
    subst hQ
    refine ⟨rfl, .float .f64 y, ?_, E, [.float .f64 y], rfl, ?_, hh, fun j e hj he => he⟩
    · refine (results_tmp (t := 2) rfl _ _ _).trans ?_
      rfl
    · show SV.satL E [.val .flt y] _
      simp only [SV.satL]
      exact ⟨_, _, rfl, sat_flt y, rfl⟩
def U.f36sig : Sig := ⟨⟨[.hole .flt], []⟩, ⟨[.hole .bool], []⟩⟩
noncomputable def U.f36Γ : List Con := [U.trunc]
def U.f36ann : Ann :=
  (.seq .leaf (.seq .leaf .leaf))
noncomputable def U.f36F : Nat → Option (Bool) :=
  fun (x : Nat) =>
  if (Go.Sx.fOrd x (0 : Nat) Ordering.gt || Go.Sx.fOrd x (0 : Nat) Ordering.eq) = Bool.true then
    if (Go.Sx.fOrd x (4697254411347427328 : Nat) Ordering.lt || Go.Sx.fOrd x (4697254411347427328 : Nat) Ordering.eq) = Bool.true then
      Option.bind (Go.Sx.U.truncF x) fun (v1 : Nat) => Option.some (Ieee.Format.order Ieee.double v1 x == Option.some Ordering.eq)
    else Option.some Bool.false
  else Option.some Bool.false
theorem U.f36eq : ∀ x, runFn U.C U.f36Γ U.f36sig U.f36ann Go.Proofs.Try.f36 x = U.f36F x := by
  intro x
  kernel_rfl
noncomputable def U.f36con : Con := ⟨36, U.f36sig, U.f36F⟩
theorem U.f36ok : Con.Ok Go.Proofs.Try.prog U.C U.f36con :=
  runFn_ok (Γ := U.f36Γ) (an := U.f36ann) ⟨U.Cok, (List.forall_mem_cons.2 ⟨U.truncok, (fun _ h => nomatch h)⟩), U.mixed⟩ Go.Proofs.Try.func36 rfl rfl (fun x y h => (U.f36eq x).trans h) (by decide)
def U.f18sig : Sig := ⟨⟨[.hole .cplx], []⟩, ⟨[.hole .bool], []⟩⟩
noncomputable def U.f18Γ : List Con := [U.f36con]
def U.f18ann : Ann :=
  (.seq .leaf (.seq .leaf .leaf))
noncomputable def U.f18F : Nat × Nat → Option (Bool) :=
  fun (x : Nat × Nat) => Option.bind (Go.Sx.U.f36F x.1) fun (v1 : Bool) => if v1 = Bool.true then Option.bind (Go.Sx.U.f36F x.2) fun (v2 : Bool) => Option.some v2 else Option.some Bool.false
theorem U.f18eq : ∀ x, runFn U.C U.f18Γ U.f18sig U.f18ann Go.Proofs.Try.f18 x = U.f18F x := by
  intro x
  kernel_rfl
noncomputable def U.f18con : Con := ⟨18, U.f18sig, U.f18F⟩
theorem U.f18ok : Con.Ok Go.Proofs.Try.prog U.C U.f18con :=
  runFn_ok (Γ := U.f18Γ) (an := U.f18ann) ⟨U.Cok, (List.forall_mem_cons.2 ⟨U.f36ok, (fun _ h => nomatch h)⟩), U.mixed⟩ Go.Proofs.Try.func18 rfl rfl (fun x y h => (U.f18eq x).trans h) (by decide)
def U.f27sig : Sig := ⟨⟨[.hole .cplx, .hole .cplx], []⟩, ⟨[.hole (.int .i64)], []⟩⟩
noncomputable def U.f27Γ : List Con := []
def U.f27ann : Ann :=
  (.seq .leaf (.seq (.seq .leaf (.block (.seq (.join [⟨.normal, [(9, .hole .bool)], []⟩] (.seq .leaf (.cond .leaf .leaf))) (.cond (.seq .leaf .leaf) (.seq .leaf (.cond (.seq .leaf .leaf) .leaf)))))) (.seq .leaf .leaf)))
noncomputable def U.f27F : (Nat × Nat) × Nat × Nat → Option (Int) :=
  fun (x : (Nat × Nat) × Nat × Nat) =>
  if Go.Sx.fOk x.snd.fst x.fst.fst ∧ Go.Sx.fOk x.snd.snd x.fst.snd then
    Option.bind
      (if Go.Sx.fOrd (Go.Sx.fDiff x.snd.fst x.fst.fst) (0 : Nat) Ordering.gt = Bool.true then Option.some Bool.true
      else
        if Go.Sx.fOrd (Go.Sx.fDiff x.snd.fst x.fst.fst) (0 : Nat) Ordering.eq = Bool.true then
          Option.some (Ieee.Format.order Ieee.double (Go.Sx.fDiff x.snd.snd x.fst.snd) (0 : Nat) == Option.some Ordering.gt)
        else Option.some Bool.false)
      fun (v1 : Bool) =>
      if v1 = Bool.true then Option.some (-1 : Int)
      else
        if (Go.Sx.fOrd (Go.Sx.fDiff x.snd.fst x.fst.fst) (0 : Nat) Ordering.eq && Go.Sx.fOrd (Go.Sx.fDiff x.snd.snd x.fst.snd) (0 : Nat) Ordering.eq) = Bool.true then Option.some (0 : Int)
        else Option.some (1 : Int)
  else Option.none
theorem U.f27eq : ∀ x, runFn U.C U.f27Γ U.f27sig U.f27ann Go.Proofs.Try.f27 x = U.f27F x := by
  intro x
  kernel_rfl
noncomputable def U.f27con : Con := ⟨27, U.f27sig, U.f27F⟩
theorem U.f27ok : Con.Ok Go.Proofs.Try.prog U.C U.f27con :=
  runFn_ok (Γ := U.f27Γ) (an := U.f27ann) ⟨U.Cok, (fun _ h => nomatch h), U.mixed⟩ Go.Proofs.Try.func27 rfl rfl (fun x y h => (U.f27eq x).trans h) (by decide)
def U.f26sig : Sig := ⟨⟨[.hole .cplx, .ptr 0 0], [.cells [.hole .cplx]]⟩, ⟨[.hole .bool], [.cells [.hole .cplx]]⟩⟩
noncomputable def U.f26Γ : List Con := [U.f18con, U.f27con]
def U.f26ann : Ann :=
  (.seq .leaf (.seq .leaf .leaf))
noncomputable def U.f26F : (Nat × Nat) × Nat × Nat → Option (Bool × Nat × Nat) :=
  fun (x : (Nat × Nat) × Nat × Nat) =>
  Option.bind (Go.Sx.U.f18F x.2) fun (v1 : Bool) =>
    if (!v1) = Bool.true then Option.some (Bool.true, x.2) else Option.bind (Go.Sx.U.f27F (x.2, x.1)) fun (v2 : Int) => Option.some (Decidable.decide (v2 < (0 : Int)), x.2)
theorem U.f26eq : ∀ x, runFn U.C U.f26Γ U.f26sig U.f26ann Go.Proofs.Try.f26 x = U.f26F x := by
  intro x
  kernel_rfl
noncomputable def U.f26con : Con := ⟨26, U.f26sig, U.f26F⟩
theorem U.f26ok : Con.Ok Go.Proofs.Try.prog U.C U.f26con :=
  runFn_ok (Γ := U.f26Γ) (an := U.f26ann) ⟨U.Cok, (List.forall_mem_cons.2 ⟨U.f18ok, (List.forall_mem_cons.2 ⟨U.f27ok, (fun _ h => nomatch h)⟩)⟩), U.mixed⟩ Go.Proofs.Try.func26 rfl rfl (fun x y h => (U.f26eq x).trans h) (by decide)
def U.f28sig : Sig := ⟨⟨[.hole .cplx, .hole .cplx], []⟩, ⟨[.hole .bool], []⟩⟩
noncomputable def U.f28Γ : List Con := [U.f27con]
def U.f28ann : Ann :=
  (.seq .leaf (.seq .leaf .leaf))
noncomputable def U.f28F : (Nat × Nat) × Nat × Nat → Option (Bool) :=
  fun (x : (Nat × Nat) × Nat × Nat) => Option.bind (Go.Sx.U.f27F (x.1, x.2)) fun (v1 : Int) => Option.some (Decidable.decide (v1 < (0 : Int)))
theorem U.f28eq : ∀ x, runFn U.C U.f28Γ U.f28sig U.f28ann Go.Proofs.Try.f28 x = U.f28F x := by
  intro x
  kernel_rfl
noncomputable def U.f28con : Con := ⟨28, U.f28sig, U.f28F⟩
theorem U.f28ok : Con.Ok Go.Proofs.Try.prog U.C U.f28con :=
  runFn_ok (Γ := U.f28Γ) (an := U.f28ann) ⟨U.Cok, (List.forall_mem_cons.2 ⟨U.f27ok, (fun _ h => nomatch h)⟩), U.mixed⟩ Go.Proofs.Try.func28 rfl rfl (fun x y h => (U.f28eq x).trans h) (by decide)
def U.s0sig : Sig := ⟨⟨[.hole (.sl .cplx), .fnc 26 1, .ptr 0 0, .fnc 28 0], [.cells [.hole .cplx]]⟩, ⟨[.hole (.int .i64)], [.cells [.hole .cplx]]⟩⟩
noncomputable def U.s0Γ : List Con := [U.f18con, U.f26con, U.f28con]
def U.s0ann : Ann :=
  (.seq .leaf (.seq .leaf (.seq (.seq .leaf (.block (.loop ⟨.normal, [(7, .hole (.int .i64)), (12, .hole (.int .i64))], [.cells [.hole .cplx]]⟩ [⟨(.exit 0), [(7, .hole (.int .i64))], [.cells [.hole .cplx]]⟩] (.seq .leaf (.seq (.cond .leaf .leaf) (.seq (.block (.seq .leaf (.seq (.join [⟨.normal, [(36, .hole .bool)], [.cells [.hole .cplx]]⟩] .leaf) (.cond .leaf .leaf)))) .leaf)))))) (.seq .leaf .leaf))))
noncomputable def U.s0F : List (Nat × Nat) × Nat × Nat → Option (Int × Nat × Nat) :=
  fun (x : List (Nat × Nat) × Nat × Nat) =>
  Option.bind
    (Go.Sx.iter
      (fun (s1 : Int × Int × Nat × Nat) =>
        if Decidable.decide (s1.snd.fst < (↑(List.length x.fst) : Int)) = Bool.true then
          if (0 : Int) ≤ s1.snd.fst ∧ s1.snd.fst < (↑(List.length x.fst) : Int) then
            Option.bind
              (Option.bind (Go.Sx.U.f18F (List.getD x.fst (Int.toNat s1.snd.fst) ((0 : Nat), (0 : Nat)))) fun (v2 : Bool) =>
                if v2 = Bool.true then
                  Option.bind (Go.Sx.U.f26F (List.getD x.fst (Int.toNat s1.snd.fst) ((0 : Nat), (0 : Nat)), s1.snd.2)) fun (v3 : Bool × Nat × Nat) =>
                    if v3.fst = Bool.true then
                      if (s1.fst == (-1 : Int)) = Bool.true then Option.some (Bool.true, v3.2)
                      else
                        if (0 : Int) ≤ s1.fst ∧ s1.fst < (↑(List.length x.fst) : Int) then
                          Option.bind (Go.Sx.U.f28F (List.getD x.fst (Int.toNat s1.snd.fst) ((0 : Nat), (0 : Nat)), List.getD x.fst (Int.toNat s1.fst) ((0 : Nat), (0 : Nat)))) fun (v4 : Bool) =>
                            Option.some (v4, v3.2)
                        else Option.none
                    else Option.some (Bool.false, v3.2)
                else Option.some (Bool.false, s1.snd.2))
              fun (v2 : Bool × Nat × Nat) =>
              if v2.fst = Bool.true then Option.some (Sum.inl (s1.snd.1, Go.IntKind.wrap Go.IntKind.i64 (s1.snd.fst + (1 : Int)), v2.2))
              else Option.some (Sum.inl (s1.1, Go.IntKind.wrap Go.IntKind.i64 (s1.snd.fst + (1 : Int)), v2.2))
          else Option.none
        else Option.some (Sum.inr (s1.1, s1.snd.2)))
      ((-1 : Int), (0 : Int), x.2))
    fun (v1 : Int × Nat × Nat) => Option.some (v1.1, v1.2)
theorem U.s0eq : ∀ x, runFn U.C U.s0Γ U.s0sig U.s0ann Go.Proofs.Try.f38 x = U.s0F x := by
  intro x
  kernel_rfl
noncomputable def U.s0con : Con := ⟨38, U.s0sig, U.s0F⟩
theorem U.s0ok : Con.Ok Go.Proofs.Try.prog U.C U.s0con :=
  runFn_ok (Γ := U.s0Γ) (an := U.s0ann) ⟨U.Cok, (List.forall_mem_cons.2 ⟨U.f18ok, (List.forall_mem_cons.2 ⟨U.f26ok, (List.forall_mem_cons.2 ⟨U.f28ok, (fun _ h => nomatch h)⟩)⟩)⟩), U.mixed⟩ Go.Proofs.Try.func38 rfl rfl (fun x y h => (U.s0eq x).trans h) (by decide)
def U.f39sig : Sig := ⟨⟨[.hole .cplx], []⟩, ⟨[.hole .bool], []⟩⟩
noncomputable def U.f39Γ : List Con := []
def U.f39ann : Ann :=
  (.seq .leaf (.seq .leaf .leaf))
noncomputable def U.f39F : Nat × Nat → Option (Bool) :=
  fun (x : Nat × Nat) => Option.some Bool.true
theorem U.f39eq : ∀ x, runFn U.C U.f39Γ U.f39sig U.f39ann Go.Proofs.Try.f39 x = U.f39F x := by
  intro x
  kernel_rfl
noncomputable def U.f39con : Con := ⟨39, U.f39sig, U.f39F⟩
theorem U.f39ok : Con.Ok Go.Proofs.Try.prog U.C U.f39con :=
  runFn_ok (Γ := U.f39Γ) (an := U.f39ann) ⟨U.Cok, (fun _ h => nomatch h), U.mixed⟩ Go.Proofs.Try.func39 rfl rfl (fun x y h => (U.f39eq x).trans h) (by decide)
def U.s1sig : Sig := ⟨⟨[.hole (.sl .cplx), .fnc 39 0, .fnc 28 0], []⟩, ⟨[.hole (.int .i64)], []⟩⟩
noncomputable def U.s1Γ : List Con := [U.f18con, U.f39con, U.f28con]
def U.s1ann : Ann :=
  (.seq .leaf (.seq .leaf (.seq (.seq .leaf (.block (.loop ⟨.normal, [(7, .hole (.int .i64)), (12, .hole (.int .i64))], []⟩ [⟨(.exit 0), [(7, .hole (.int .i64))], []⟩] (.seq .leaf (.seq (.cond .leaf .leaf) (.seq (.block (.seq .leaf (.seq (.join [⟨.normal, [(36, .hole .bool)], []⟩] .leaf) (.cond .leaf .leaf)))) .leaf)))))) (.seq .leaf .leaf))))
noncomputable def U.s1F : List (Nat × Nat) → Option (Int) :=
  fun (x : List (Nat × Nat)) =>
  Option.bind
    (Go.Sx.iter
      (fun (s1 : Int × Int) =>
        if Decidable.decide (s1.snd < (↑(List.length x) : Int)) = Bool.true then
          if (0 : Int) ≤ s1.snd ∧ s1.snd < (↑(List.length x) : Int) then
            Option.bind
              (Option.bind (Go.Sx.U.f18F (List.getD x (Int.toNat s1.snd) ((0 : Nat), (0 : Nat)))) fun (v2 : Bool) =>
                if v2 = Bool.true then
                  Option.bind (Go.Sx.U.f39F (List.getD x (Int.toNat s1.snd) ((0 : Nat), (0 : Nat)))) fun (v3 : Bool) =>
                    if v3 = Bool.true then
                      if (s1.fst == (-1 : Int)) = Bool.true then Option.some Bool.true
                      else
                        if (0 : Int) ≤ s1.fst ∧ s1.fst < (↑(List.length x) : Int) then
                          Option.bind (Go.Sx.U.f28F (List.getD x (Int.toNat s1.snd) ((0 : Nat), (0 : Nat)), List.getD x (Int.toNat s1.fst) ((0 : Nat), (0 : Nat)))) fun (v4 : Bool) => Option.some v4
                        else Option.none
                    else Option.some Bool.false
                else Option.some Bool.false)
              fun (v2 : Bool) =>
              if v2 = Bool.true then Option.some (Sum.inl (s1.2, Go.IntKind.wrap Go.IntKind.i64 (s1.snd + (1 : Int))))
              else Option.some (Sum.inl (s1.1, Go.IntKind.wrap Go.IntKind.i64 (s1.snd + (1 : Int))))
          else Option.none
        else Option.some (Sum.inr s1.1))
      ((-1 : Int), (0 : Int)))
    fun (v1 : Int) => Option.some v1
theorem U.s1eq : ∀ x, runFn U.C U.s1Γ U.s1sig U.s1ann Go.Proofs.Try.f38 x = U.s1F x := by
  intro x
  kernel_rfl
noncomputable def U.s1con : Con := ⟨38, U.s1sig, U.s1F⟩
theorem U.s1ok : Con.Ok Go.Proofs.Try.prog U.C U.s1con :=
  runFn_ok (Γ := U.s1Γ) (an := U.s1ann) ⟨U.Cok, (List.forall_mem_cons.2 ⟨U.f18ok, (List.forall_mem_cons.2 ⟨U.f39ok, (List.forall_mem_cons.2 ⟨U.f28ok, (fun _ h => nomatch h)⟩)⟩)⟩), U.mixed⟩ Go.Proofs.Try.func38 rfl rfl (fun x y h => (U.s1eq x).trans h) (by decide)
def U.s4sig : Sig := ⟨⟨[.hole (.sl .cplx), .fnc 26 1, .ptr 0 0, .fnc 28 0], [.cells [.hole .cplx]]⟩, ⟨[.hole (.int .i64), .hole .bool], [.cells [.hole .cplx]]⟩⟩
noncomputable def U.s4Γ : List Con := [U.s0con, U.s1con, U.f39con, U.f26con, U.f28con]
def U.s4ann : Ann :=
  (.seq .leaf (.seq (.seq .leaf (.seq .leaf (.cond (.seq .leaf .leaf) .leaf))) (.seq .leaf (.seq .leaf .leaf))))
noncomputable def U.s4F : List (Nat × Nat) × Nat × Nat → Option (Int × Bool × Nat × Nat) :=
  fun (x : List (Nat × Nat) × Nat × Nat) =>
  Option.bind (Go.Sx.U.s0F (x.1, x.2)) fun (v1 : Int × Nat × Nat) =>
    if (v1.fst != (-1 : Int)) = Bool.true then Option.some (v1.1, Bool.false, v1.2) else Option.bind (Go.Sx.U.s1F x.1) fun (v2 : Int) => Option.some (v2, v2 != (-1 : Int), v1.2)
theorem U.s4eq : ∀ x, runFn U.C U.s4Γ U.s4sig U.s4ann Go.Proofs.Try.f25 x = U.s4F x := by
  intro x
  kernel_rfl
noncomputable def U.s4con : Con := ⟨25, U.s4sig, U.s4F⟩
theorem U.s4ok : Con.Ok Go.Proofs.Try.prog U.C U.s4con :=
  runFn_ok (Γ := U.s4Γ) (an := U.s4ann) ⟨U.Cok, (List.forall_mem_cons.2 ⟨U.s0ok, (List.forall_mem_cons.2 ⟨U.s1ok, (List.forall_mem_cons.2 ⟨U.f39ok, (List.forall_mem_cons.2 ⟨U.f26ok, (List.forall_mem_cons.2 ⟨U.f28ok, (fun _ h => nomatch h)⟩)⟩)⟩)⟩)⟩), U.mixed⟩ Go.Proofs.Try.func25 rfl rfl (fun x y h => (U.s4eq x).trans h) (by decide)
def U.f13sig : Sig := ⟨⟨[.hole (.sl .cplx), .hole .cplx], []⟩, ⟨[.hole (.int .i64), .hole .bool], []⟩⟩
noncomputable def U.f13Γ : List Con := [U.s4con, U.f28con, U.f26con]
def U.f13ann : Ann :=
  (.seq .leaf (.seq .leaf .leaf))
noncomputable def U.f13F : List (Nat × Nat) × Nat × Nat → Option (Int × Bool) :=
  fun (x : List (Nat × Nat) × Nat × Nat) => Option.bind (Go.Sx.U.s4F (x.1, x.2)) fun (v1 : Int × Bool × Nat × Nat) => Option.some (v1.1, v1.snd.1)
theorem U.f13eq : ∀ x, runFn U.C U.f13Γ U.f13sig U.f13ann Go.Proofs.Try.f13 x = U.f13F x := by
  intro x
  kernel_rfl
noncomputable def U.f13con : Con := ⟨13, U.f13sig, U.f13F⟩
theorem U.f13ok : Con.Ok Go.Proofs.Try.prog U.C U.f13con :=
  runFn_ok (Γ := U.f13Γ) (an := U.f13ann) ⟨U.Cok, (List.forall_mem_cons.2 ⟨U.s4ok, (List.forall_mem_cons.2 ⟨U.f28ok, (List.forall_mem_cons.2 ⟨U.f26ok, (fun _ h => nomatch h)⟩)⟩)⟩), U.mixed⟩ Go.Proofs.Try.func13 rfl rfl (fun x y h => (U.f13eq x).trans h) (by decide)
def U.f29sig : Sig := ⟨⟨[.hole .cplx, .ptr 0 0], [.cells [.hole .cplx]]⟩, ⟨[.hole .bool], [.cells [.hole .cplx]]⟩⟩
noncomputable def U.f29Γ : List Con := [U.f18con, U.f27con]
def U.f29ann : Ann :=
  (.seq .leaf (.seq .leaf .leaf))
noncomputable def U.f29F : (Nat × Nat) × Nat × Nat → Option (Bool × Nat × Nat) :=
  fun (x : (Nat × Nat) × Nat × Nat) =>
  Option.bind (Go.Sx.U.f18F x.2) fun (v1 : Bool) =>
    if (!v1) = Bool.true then Option.some (Bool.true, x.2) else Option.bind (Go.Sx.U.f27F (x.1, x.2)) fun (v2 : Int) => Option.some (Decidable.decide (v2 < (0 : Int)), x.2)
theorem U.f29eq : ∀ x, runFn U.C U.f29Γ U.f29sig U.f29ann Go.Proofs.Try.f29 x = U.f29F x := by
  intro x
  kernel_rfl
noncomputable def U.f29con : Con := ⟨29, U.f29sig, U.f29F⟩
theorem U.f29ok : Con.Ok Go.Proofs.Try.prog U.C U.f29con :=
  runFn_ok (Γ := U.f29Γ) (an := U.f29ann) ⟨U.Cok, (List.forall_mem_cons.2 ⟨U.f18ok, (List.forall_mem_cons.2 ⟨U.f27ok, (fun _ h => nomatch h)⟩)⟩), U.mixed⟩ Go.Proofs.Try.func29 rfl rfl (fun x y h => (U.f29eq x).trans h) (by decide)
def U.f30sig : Sig := ⟨⟨[.hole .cplx, .hole .cplx], []⟩, ⟨[.hole .bool], []⟩⟩
noncomputable def U.f30Γ : List Con := [U.f27con]
def U.f30ann : Ann :=
  (.seq .leaf (.seq .leaf .leaf))
noncomputable def U.f30F : (Nat × Nat) × Nat × Nat → Option (Bool) :=
  fun (x : (Nat × Nat) × Nat × Nat) => Option.bind (Go.Sx.U.f27F (x.1, x.2)) fun (v1 : Int) => Option.some (Decidable.decide (v1 ≥ (0 : Int)))
theorem U.f30eq : ∀ x, runFn U.C U.f30Γ U.f30sig U.f30ann Go.Proofs.Try.f30 x = U.f30F x := by
  intro x
  kernel_rfl
noncomputable def U.f30con : Con := ⟨30, U.f30sig, U.f30F⟩
theorem U.f30ok : Con.Ok Go.Proofs.Try.prog U.C U.f30con :=
  runFn_ok (Γ := U.f30Γ) (an := U.f30ann) ⟨U.Cok, (List.forall_mem_cons.2 ⟨U.f27ok, (fun _ h => nomatch h)⟩), U.mixed⟩ Go.Proofs.Try.func30 rfl rfl (fun x y h => (U.f30eq x).trans h) (by decide)
def U.s2sig : Sig := ⟨⟨[.hole (.sl .cplx), .fnc 29 1, .ptr 0 0, .fnc 30 0], [.cells [.hole .cplx]]⟩, ⟨[.hole (.int .i64)], [.cells [.hole .cplx]]⟩⟩
noncomputable def U.s2Γ : List Con := [U.f18con, U.f29con, U.f30con]
def U.s2ann : Ann :=
  (.seq .leaf (.seq .leaf (.seq (.seq .leaf (.block (.loop ⟨.normal, [(7, .hole (.int .i64)), (12, .hole (.int .i64))], [.cells [.hole .cplx]]⟩ [⟨(.exit 0), [(7, .hole (.int .i64))], [.cells [.hole .cplx]]⟩] (.seq .leaf (.seq (.cond .leaf .leaf) (.seq (.block (.seq .leaf (.seq (.join [⟨.normal, [(36, .hole .bool)], [.cells [.hole .cplx]]⟩] .leaf) (.cond .leaf .leaf)))) .leaf)))))) (.seq .leaf .leaf))))
noncomputable def U.s2F : List (Nat × Nat) × Nat × Nat → Option (Int × Nat × Nat) :=
  fun (x : List (Nat × Nat) × Nat × Nat) =>
  Option.bind
    (Go.Sx.iter
      (fun (s1 : Int × Int × Nat × Nat) =>
        if Decidable.decide (s1.snd.fst < (↑(List.length x.fst) : Int)) = Bool.true then
          if (0 : Int) ≤ s1.snd.fst ∧ s1.snd.fst < (↑(List.length x.fst) : Int) then
            Option.bind
              (Option.bind (Go.Sx.U.f18F (List.getD x.fst (Int.toNat s1.snd.fst) ((0 : Nat), (0 : Nat)))) fun (v2 : Bool) =>
                if v2 = Bool.true then
                  Option.bind (Go.Sx.U.f29F (List.getD x.fst (Int.toNat s1.snd.fst) ((0 : Nat), (0 : Nat)), s1.snd.2)) fun (v3 : Bool × Nat × Nat) =>
                    if v3.fst = Bool.true then
                      if (s1.fst == (-1 : Int)) = Bool.true then Option.some (Bool.true, v3.2)
                      else
                        if (0 : Int) ≤ s1.fst ∧ s1.fst < (↑(List.length x.fst) : Int) then
                          Option.bind (Go.Sx.U.f30F (List.getD x.fst (Int.toNat s1.snd.fst) ((0 : Nat), (0 : Nat)), List.getD x.fst (Int.toNat s1.fst) ((0 : Nat), (0 : Nat)))) fun (v4 : Bool) =>
                            Option.some (v4, v3.2)
                        else Option.none
                    else Option.some (Bool.false, v3.2)
                else Option.some (Bool.false, s1.snd.2))
              fun (v2 : Bool × Nat × Nat) =>
              if v2.fst = Bool.true then Option.some (Sum.inl (s1.snd.1, Go.IntKind.wrap Go.IntKind.i64 (s1.snd.fst + (1 : Int)), v2.2))
              else Option.some (Sum.inl (s1.1, Go.IntKind.wrap Go.IntKind.i64 (s1.snd.fst + (1 : Int)), v2.2))
          else Option.none
        else Option.some (Sum.inr (s1.1, s1.snd.2)))
      ((-1 : Int), (0 : Int), x.2))
    fun (v1 : Int × Nat × Nat) => Option.some (v1.1, v1.2)
theorem U.s2eq : ∀ x, runFn U.C U.s2Γ U.s2sig U.s2ann Go.Proofs.Try.f38 x = U.s2F x := by
  intro x
  kernel_rfl
noncomputable def U.s2con : Con := ⟨38, U.s2sig, U.s2F⟩
theorem U.s2ok : Con.Ok Go.Proofs.Try.prog U.C U.s2con :=
  runFn_ok (Γ := U.s2Γ) (an := U.s2ann) ⟨U.Cok, (List.forall_mem_cons.2 ⟨U.f18ok, (List.forall_mem_cons.2 ⟨U.f29ok, (List.forall_mem_cons.2 ⟨U.f30ok, (fun _ h => nomatch h)⟩)⟩)⟩), U.mixed⟩ Go.Proofs.Try.func38 rfl rfl (fun x y h => (U.s2eq x).trans h) (by decide)
def U.s3sig : Sig := ⟨⟨[.hole (.sl .cplx), .fnc 39 0, .fnc 30 0], []⟩, ⟨[.hole (.int .i64)], []⟩⟩
noncomputable def U.s3Γ : List Con := [U.f18con, U.f39con, U.f30con]
def U.s3ann : Ann :=
  (.seq .leaf (.seq .leaf (.seq (.seq .leaf (.block (.loop ⟨.normal, [(7, .hole (.int .i64)), (12, .hole (.int .i64))], []⟩ [⟨(.exit 0), [(7, .hole (.int .i64))], []⟩] (.seq .leaf (.seq (.cond .leaf .leaf) (.seq (.block (.seq .leaf (.seq (.join [⟨.normal, [(36, .hole .bool)], []⟩] .leaf) (.cond .leaf .leaf)))) .leaf)))))) (.seq .leaf .leaf))))
noncomputable def U.s3F : List (Nat × Nat) → Option (Int) :=
  fun (x : List (Nat × Nat)) =>
  Option.bind
    (Go.Sx.iter
      (fun (s1 : Int × Int) =>
        if Decidable.decide (s1.snd < (↑(List.length x) : Int)) = Bool.true then
          if (0 : Int) ≤ s1.snd ∧ s1.snd < (↑(List.length x) : Int) then
            Option.bind
              (Option.bind (Go.Sx.U.f18F (List.getD x (Int.toNat s1.snd) ((0 : Nat), (0 : Nat)))) fun (v2 : Bool) =>
                if v2 = Bool.true then
                  Option.bind (Go.Sx.U.f39F (List.getD x (Int.toNat s1.snd) ((0 : Nat), (0 : Nat)))) fun (v3 : Bool) =>
                    if v3 = Bool.true then
                      if (s1.fst == (-1 : Int)) = Bool.true then Option.some Bool.true
                      else
                        if (0 : Int) ≤ s1.fst ∧ s1.fst < (↑(List.length x) : Int) then
                          Option.bind (Go.Sx.U.f30F (List.getD x (Int.toNat s1.snd) ((0 : Nat), (0 : Nat)), List.getD x (Int.toNat s1.fst) ((0 : Nat), (0 : Nat)))) fun (v4 : Bool) => Option.some v4
                        else Option.none
                    else Option.some Bool.false
                else Option.some Bool.false)
              fun (v2 : Bool) =>
              if v2 = Bool.true then Option.some (Sum.inl (s1.2, Go.IntKind.wrap Go.IntKind.i64 (s1.snd + (1 : Int))))
              else Option.some (Sum.inl (s1.1, Go.IntKind.wrap Go.IntKind.i64 (s1.snd + (1 : Int))))
          else Option.none
        else Option.some (Sum.inr s1.1))
      ((-1 : Int), (0 : Int)))
    fun (v1 : Int) => Option.some v1
theorem U.s3eq : ∀ x, runFn U.C U.s3Γ U.s3sig U.s3ann Go.Proofs.Try.f38 x = U.s3F x := by
  intro x
  kernel_rfl
noncomputable def U.s3con : Con := ⟨38, U.s3sig, U.s3F⟩
theorem U.s3ok : Con.Ok Go.Proofs.Try.prog U.C U.s3con :=
  runFn_ok (Γ := U.s3Γ) (an := U.s3ann) ⟨U.Cok, (List.forall_mem_cons.2 ⟨U.f18ok, (List.forall_mem_cons.2 ⟨U.f39ok, (List.forall_mem_cons.2 ⟨U.f30ok, (fun _ h => nomatch h)⟩)⟩)⟩), U.mixed⟩ Go.Proofs.Try.func38 rfl rfl (fun x y h => (U.s3eq x).trans h) (by decide)
def U.s5sig : Sig := ⟨⟨[.hole (.sl .cplx), .fnc 29 1, .ptr 0 0, .fnc 30 0], [.cells [.hole .cplx]]⟩, ⟨[.hole (.int .i64), .hole .bool], [.cells [.hole .cplx]]⟩⟩
noncomputable def U.s5Γ : List Con := [U.s2con, U.s3con, U.f39con, U.f29con, U.f30con]
def U.s5ann : Ann :=
  (.seq .leaf (.seq (.seq .leaf (.seq .leaf (.cond (.seq .leaf .leaf) .leaf))) (.seq .leaf (.seq .leaf .leaf))))
noncomputable def U.s5F : List (Nat × Nat) × Nat × Nat → Option (Int × Bool × Nat × Nat) :=
  fun (x : List (Nat × Nat) × Nat × Nat) =>
  Option.bind (Go.Sx.U.s2F (x.1, x.2)) fun (v1 : Int × Nat × Nat) =>
    if (v1.fst != (-1 : Int)) = Bool.true then Option.some (v1.1, Bool.false, v1.2) else Option.bind (Go.Sx.U.s3F x.1) fun (v2 : Int) => Option.some (v2, v2 != (-1 : Int), v1.2)
theorem U.s5eq : ∀ x, runFn U.C U.s5Γ U.s5sig U.s5ann Go.Proofs.Try.f25 x = U.s5F x := by
  intro x
  kernel_rfl
noncomputable def U.s5con : Con := ⟨25, U.s5sig, U.s5F⟩
theorem U.s5ok : Con.Ok Go.Proofs.Try.prog U.C U.s5con :=
  runFn_ok (Γ := U.s5Γ) (an := U.s5ann) ⟨U.Cok, (List.forall_mem_cons.2 ⟨U.s2ok, (List.forall_mem_cons.2 ⟨U.s3ok, (List.forall_mem_cons.2 ⟨U.f39ok, (List.forall_mem_cons.2 ⟨U.f29ok, (List.forall_mem_cons.2 ⟨U.f30ok, (fun _ h => nomatch h)⟩)⟩)⟩)⟩)⟩), U.mixed⟩ Go.Proofs.Try.func25 rfl rfl (fun x y h => (U.s5eq x).trans h) (by decide)
def U.f14sig : Sig := ⟨⟨[.hole (.sl .cplx), .hole .cplx], []⟩, ⟨[.hole (.int .i64), .hole .bool], []⟩⟩
noncomputable def U.f14Γ : List Con := [U.s5con, U.f30con, U.f29con]
def U.f14ann : Ann :=
  (.seq .leaf (.seq .leaf .leaf))
noncomputable def U.f14F : List (Nat × Nat) × Nat × Nat → Option (Int × Bool) :=
  fun (x : List (Nat × Nat) × Nat × Nat) => Option.bind (Go.Sx.U.s5F (x.1, x.2)) fun (v1 : Int × Bool × Nat × Nat) => Option.some (v1.1, v1.snd.1)
theorem U.f14eq : ∀ x, runFn U.C U.f14Γ U.f14sig U.f14ann Go.Proofs.Try.f14 x = U.f14F x := by
  intro x
  kernel_rfl
noncomputable def U.f14con : Con := ⟨14, U.f14sig, U.f14F⟩
theorem U.f14ok : Con.Ok Go.Proofs.Try.prog U.C U.f14con :=
  runFn_ok (Γ := U.f14Γ) (an := U.f14ann) ⟨U.Cok, (List.forall_mem_cons.2 ⟨U.s5ok, (List.forall_mem_cons.2 ⟨U.f30ok, (List.forall_mem_cons.2 ⟨U.f29ok, (fun _ h => nomatch h)⟩)⟩)⟩), U.mixed⟩ Go.Proofs.Try.func14 rfl rfl (fun x y h => (U.f14eq x).trans h) (by decide)
def U.f37sig : Sig := ⟨⟨[.hole (.sl (.int .i64)), .hole (.int .i64)], []⟩, ⟨[.hole (.int .i64)], []⟩⟩
noncomputable def U.f37Γ : List Con := []
def U.f37ann : Ann :=
  (.seq .leaf (.seq (.seq .leaf (.block (.loop ⟨.normal, [(8, .hole (.int .i64))], []⟩ [⟨(.exit 0), [], []⟩, ⟨.ret, [(4, .hole (.int .i64))], []⟩] (.seq .leaf (.seq (.cond .leaf .leaf) (.seq (.block (.seq .leaf (.seq .leaf (.cond (.seq .leaf .leaf) .leaf)))) .leaf)))))) (.seq .leaf .leaf)))
noncomputable def U.f37F : List Int × Int → Option (Int) :=
  fun (x : List Int × Int) =>
  Option.bind
    (Go.Sx.iter
      (fun (s1 : Int) =>
        if Decidable.decide (s1 < (↑(List.length x.fst) : Int)) = Bool.true then
          if (0 : Int) ≤ s1 ∧ s1 < (↑(List.length x.fst) : Int) then
            if (x.snd == List.getD x.fst (Int.toNat s1) (0 : Int)) = Bool.true then Option.some (Sum.inr (Sum.inr s1)) else Option.some (Sum.inl (Go.IntKind.wrap Go.IntKind.i64 (s1 + (1 : Int))))
          else Option.none
        else Option.some (Sum.inr (Sum.inl ())))
      (0 : Int))
    fun (v1 : PUnit ⊕ Int) => Sum.elim (fun (p2 : PUnit) => Option.some (-1 : Int)) (fun (q2 : Int) => Option.some q2) v1
theorem U.f37eq : ∀ x, runFn U.C U.f37Γ U.f37sig U.f37ann Go.Proofs.Try.f37 x = U.f37F x := by
  intro x
  kernel_rfl
noncomputable def U.f37con : Con := ⟨37, U.f37sig, U.f37F⟩
theorem U.f37ok : Con.Ok Go.Proofs.Try.prog U.C U.f37con :=
  runFn_ok (Γ := U.f37Γ) (an := U.f37ann) ⟨U.Cok, (fun _ h => nomatch h), U.mixed⟩ Go.Proofs.Try.func37 rfl rfl (fun x y h => (U.f37eq x).trans h) (by decide)
def U.f23sig : Sig := ⟨⟨[.hole (.sl (.st (.pair (.int .i64) (.pair (.int .i64) (.sl (.int .i64)))))), .hole (.int .i64)], []⟩, ⟨[.hole (.int .i64), .hole (.int .i64)], []⟩⟩
noncomputable def U.f23Γ : List Con := [U.f37con]
def U.f23ann : Ann :=
  (.seq .leaf (.seq (.seq .leaf (.block (.loop ⟨.normal, [(11, .hole (.int .i64))], []⟩ [⟨(.exit 0), [], []⟩, ⟨.ret, [(4, .hole (.int .i64)), (5, .hole (.int .i64))], []⟩] (.seq .leaf (.seq (.cond .leaf .leaf) (.seq (.block (.seq .leaf (.seq .leaf (.seq .leaf (.cond (.seq .leaf .leaf) .leaf))))) .leaf)))))) (.seq .leaf .leaf)))
noncomputable def U.f23F : List (Int × Int × List Int) × Int → Option (Int × Int) :=
  fun (x : List (Int × Int × List Int) × Int) =>
  Option.bind
    (Go.Sx.iter
      (fun (s1 : Int) =>
        if Decidable.decide (s1 < (↑(List.length x.fst) : Int)) = Bool.true then
          if (0 : Int) ≤ s1 ∧ s1 < (↑(List.length x.fst) : Int) then
            Option.bind (Go.Sx.U.f37F ((List.getD x.fst (Int.toNat s1) ((0 : Int), (0 : Int), [])).snd.2, x.2)) fun (v2 : Int) =>
              if Decidable.decide (v2 ≥ (0 : Int)) = Bool.true then Option.some (Sum.inr (Sum.inr (s1, v2))) else Option.some (Sum.inl (Go.IntKind.wrap Go.IntKind.i64 (s1 + (1 : Int))))
          else Option.none
        else Option.some (Sum.inr (Sum.inl ())))
      (0 : Int))
    fun (v1 : PUnit ⊕ Int × Int) => Sum.elim (fun (p2 : PUnit) => Option.some ((-1 : Int), (-1 : Int))) (fun (q2 : Int × Int) => Option.some (q2.1, q2.2)) v1
theorem U.f23eq : ∀ x, runFn U.C U.f23Γ U.f23sig U.f23ann Go.Proofs.Try.f23 x = U.f23F x := by
  intro x
  kernel_rfl
noncomputable def U.f23con : Con := ⟨23, U.f23sig, U.f23F⟩
theorem U.f23ok : Con.Ok Go.Proofs.Try.prog U.C U.f23con :=
  runFn_ok (Γ := U.f23Γ) (an := U.f23ann) ⟨U.Cok, (List.forall_mem_cons.2 ⟨U.f37ok, (fun _ h => nomatch h)⟩), U.mixed⟩ Go.Proofs.Try.func23 rfl rfl (fun x y h => (U.f23eq x).trans h) (by decide)
def U.f11sig : Sig := ⟨⟨[.hole (.sl (.st (.pair (.int .i64) (.pair (.int .i64) (.sl (.int .i64)))))), .hole (.int .i64), .hole (.int .i64)], []⟩, ⟨[.hole .cplx], []⟩⟩
noncomputable def U.f11Γ : List Con := [U.f23con]
def U.f11ann : Ann :=
  (.seq .leaf (.seq .leaf (.seq (.seq .leaf (.cond (.seq .leaf .leaf) .leaf)) (.seq (.join [⟨.normal, [(8, .hole (.int .i64))], []⟩] (.seq .leaf (.cond .leaf .leaf))) (.seq (.seq .leaf (.cond (.seq .leaf .leaf) .leaf)) (.seq .leaf .leaf))))))
noncomputable def U.f11F : List (Int × Int × List Int) × Int × Int → Option (Nat × Nat) :=
  fun (x : List (Int × Int × List Int) × Int × Int) =>
  Option.bind (Go.Sx.U.f23F (x.1, x.snd.2)) fun (v1 : Int × Int) =>
    if Decidable.decide (v1.fst < (0 : Int)) = Bool.true then Option.some ((13830554455654793216 : Nat), (0 : Nat))
    else
      Option.bind
        (if (x.snd.fst != (0 : Int)) = Bool.true then
          if (0 : Int) ≤ v1.fst ∧ v1.fst < (↑(List.length x.fst) : Int) then
            Option.some
              (Go.IntKind.wrap Go.IntKind.i64 (Go.IntKind.wrap Go.IntKind.i64 ((↑(List.length (List.getD x.fst (Int.toNat v1.fst) ((0 : Int), (0 : Int), [])).snd.snd) : Int) - v1.snd) - (1 : Int)))
          else Option.none
        else Option.some v1.2)
        fun (v2 : Int) =>
        if Decidable.decide (Go.Sx.maxI v1.fst v2 > (1048576 : Int)) = Bool.true then Option.some ((13830554455654793216 : Nat), (0 : Nat)) else Option.some (Go.Sx.fOfInt v1.fst, Go.Sx.fOfInt v2)
theorem U.f11eq : ∀ x, runFn U.C U.f11Γ U.f11sig U.f11ann Go.Proofs.Try.f11 x = U.f11F x := by
  intro x
  kernel_rfl
noncomputable def U.f11con : Con := ⟨11, U.f11sig, U.f11F⟩
theorem U.f11ok : Con.Ok Go.Proofs.Try.prog U.C U.f11con :=
  runFn_ok (Γ := U.f11Γ) (an := U.f11ann) ⟨U.Cok, (List.forall_mem_cons.2 ⟨U.f23ok, (fun _ h => nomatch h)⟩), U.mixed⟩ Go.Proofs.Try.func11 rfl rfl (fun x y h => (U.f11eq x).trans h) (by decide)
def U.f21sig : Sig := ⟨⟨[.hole (.sl (.int .i64))], []⟩, ⟨[.hole (.int .i64)], []⟩⟩
noncomputable def U.f21Γ : List Con := []
def U.f21ann : Ann :=
  (.seq .leaf (.seq (.seq .leaf (.cond .leaf .leaf)) (.seq .leaf (.seq (.seq .leaf (.block (.loop ⟨.normal, [(3, .hole (.int .i64)), (4, .hole (.int .i64))], []⟩ [⟨(.exit 0), [(3, .hole (.int .i64))], []⟩] (.seq (.seq .leaf (.cond .leaf .leaf)) (.seq (.block .leaf) .leaf))))) (.seq .leaf .leaf)))))
noncomputable def U.f21F : List Int → Option (Int) :=
  fun (x : List Int) =>
  if Decidable.decide ((↑(List.length x) : Int) < (1 : Int)) = Bool.true then Option.none
  else
    if (0 : Int) ≤ (0 : Int) ∧ (0 : Int) < (↑(List.length x) : Int) then
      Option.bind
        (Go.Sx.iter
          (fun (s1 : Int × Int) =>
            if Decidable.decide (s1.snd < (↑(List.length x) : Int)) = Bool.true then
              if (0 : Int) ≤ s1.snd ∧ s1.snd < (↑(List.length x) : Int) then
                Option.some (Sum.inl (Go.Sx.minI s1.fst (List.getD x (Int.toNat s1.snd) (0 : Int)), Go.IntKind.wrap Go.IntKind.i64 (s1.snd + (1 : Int))))
              else Option.none
            else Option.some (Sum.inr s1.1))
          (List.getD x (Int.toNat (0 : Int)) (0 : Int), (1 : Int)))
        fun (v1 : Int) => Option.some v1
    else Option.none
theorem U.f21eq : ∀ x, runFn U.C U.f21Γ U.f21sig U.f21ann Go.Proofs.Try.f21 x = U.f21F x := by
  intro x
  kernel_rfl
noncomputable def U.f21con : Con := ⟨21, U.f21sig, U.f21F⟩
theorem U.f21ok : Con.Ok Go.Proofs.Try.prog U.C U.f21con :=
  runFn_ok (Γ := U.f21Γ) (an := U.f21ann) ⟨U.Cok, (fun _ h => nomatch h), U.mixed⟩ Go.Proofs.Try.func21 rfl rfl (fun x y h => (U.f21eq x).trans h) (by decide)
def U.f9sig : Sig := ⟨⟨[.hole (.sl (.st (.pair (.int .i64) (.pair (.int .i64) (.sl (.int .i64)))))), .hole (.int .i64), .hole (.sl (.st (.pair (.int .i64) (.int .i64))))], []⟩, ⟨[.hole (.sl .cplx)], []⟩⟩
noncomputable def U.f9Γ : List Con := [U.f21con, U.f11con]
def U.f9ann : Ann :=
  (.seq .leaf (.seq .leaf (.seq (.seq .leaf (.block (.loop ⟨.normal, [(7, .own 0), (18, .hole (.int .i64))], [.arr 30 .cplx]⟩ [⟨(.exit 0), [(7, .own 0)], [.arr 30 .cplx]⟩] (.seq .leaf (.seq (.cond .leaf .leaf) (.seq (.block (.seq .leaf (.seq .leaf (.seq (.seq .leaf (.block (.loop ⟨.normal, [(10, .own 2), (24, .hole (.int .i64))], [.arr 30 .cplx, .cells [.hole (.int .i64), .hole (.int .i64)], .arr 3 (.int .i64)]⟩ [⟨(.exit 2), [(10, .own 2)], [.arr 30 .cplx, .gone, .arr 3 (.int .i64)]⟩] (.seq .leaf (.seq (.cond .leaf .leaf) (.seq (.block (.seq .leaf (.seq .leaf (.block (.loop ⟨.normal, [(10, .own 4), (31, .hole (.int .i64))], [.arr 30 .cplx, .cells [.hole (.int .i64), .hole (.int .i64)], .gone, .gone, .arr 3 (.int .i64)]⟩ [⟨(.exit 4), [(10, .own 4)], [.arr 30 .cplx, .cells [.hole (.int .i64), .hole (.int .i64)], .gone, .gone, .arr 3 (.int .i64)]⟩] (.seq .leaf (.seq (.cond .leaf .leaf) (.seq (.block (.seq .leaf (.seq (.join [⟨.normal, [(44, .hole .bool)], [.arr 30 .cplx, .cells [.hole (.int .i64), .hole (.int .i64)], .gone, .gone, .arr 3 (.int .i64)]⟩] .leaf) (.cond .leaf .leaf)))) .leaf)))))))) .leaf)))))) (.seq .leaf (.seq (.seq .leaf (.cond .leaf .leaf)) .leaf)))))) .leaf)))))) (.seq .leaf .leaf))))
noncomputable def U.f9F : List (Int × Int × List Int) × Int × List (Int × Int) → Option (List (Nat × Nat)) :=
  fun (x : List (Int × Int × List Int) × Int × List (Int × Int)) =>
  Option.bind
    (Go.Sx.iter
      (fun (s1 : Int × List (Nat × Nat)) =>
        if Decidable.decide (s1.fst < (↑(List.length x.snd.snd) : Int)) = Bool.true then
          if (0 : Int) ≤ s1.fst ∧ s1.fst < (↑(List.length x.snd.snd) : Int) then
            Option.bind
              (Go.Sx.iter
                (fun (s2 : Int × List (Nat × Nat) × Int × Int × List Int) =>
                  if Decidable.decide (s2.fst < (↑(List.length x.fst) : Int)) = Bool.true then
                    if (0 : Int) ≤ s2.fst ∧ s2.fst < (↑(List.length x.fst) : Int) then
                      Option.bind
                        (Go.Sx.iter
                          (fun (s3 : Int × List (Nat × Nat) × Int × Int × List Int) =>
                            if Decidable.decide (s3.fst < (↑(List.length (List.getD x.fst (Int.toNat s2.fst) ((0 : Int), (0 : Int), [])).snd.snd) : Int)) = Bool.true then
                              if (0 : Int) ≤ s3.fst ∧ s3.fst < (↑(List.length (List.getD x.fst (Int.toNat s2.fst) ((0 : Int), (0 : Int), [])).snd.snd) : Int) then
                                Option.bind
                                  (if
                                      Decidable.decide (List.getD (List.getD x.fst (Int.toNat s2.fst) ((0 : Int), (0 : Int), [])).snd.snd (Int.toNat s3.fst) (0 : Int) ≥ s3.snd.snd.fst) =
                                        Bool.true then
                                    Option.some
                                      (Decidable.decide (List.getD (List.getD x.fst (Int.toNat s2.fst) ((0 : Int), (0 : Int), [])).snd.snd (Int.toNat s3.fst) (0 : Int) < s3.snd.snd.snd.fst), s3.snd.1,
                                        s3.snd.snd.1, s3.snd.snd.snd.1, s3.snd.snd.snd.2)
                                  else Option.some (Bool.false, s3.snd.1, s3.snd.snd.1, s3.snd.snd.snd.1, s3.snd.snd.snd.2))
                                  fun (v4 : Bool × List (Nat × Nat) × Int × Int × List Int) =>
                                  if v4.fst = Bool.true then
                                    if
                                        Go.Sx.roomOk (List.length v4.snd.snd.snd.snd + (1 : Nat))
                                          { kind := Go.Sx.TK.int Go.IntKind.i64, size := (1 : Nat), bytes := (8 : Nat), ty := Option.some (Go.Sx.Ty.int Go.IntKind.i64),
                                              zero := [Go.Sx.SV.val (Go.Sx.Ty.int Go.IntKind.i64) (0 : Int)] : Go.Sx.TI }.bytes then
                                      Option.some
                                        (Sum.inl
                                          (Go.IntKind.wrap Go.IntKind.i64 (s3.fst + (1 : Int)), v4.snd.1, v4.snd.snd.1, v4.snd.snd.snd.1,
                                            v4.snd.snd.snd.2 ++ [List.getD (List.getD x.fst (Int.toNat s2.fst) ((0 : Int), (0 : Int), [])).snd.snd (Int.toNat s3.fst) (0 : Int)]))
                                    else Option.none
                                  else Option.some (Sum.inl (Go.IntKind.wrap Go.IntKind.i64 (s3.fst + (1 : Int)), v4.snd.1, v4.snd.snd.1, v4.snd.snd.snd.1, v4.snd.snd.snd.2))
                              else Option.none
                            else Option.some (Sum.inr (s3.snd.1, s3.snd.snd.1, s3.snd.snd.snd.1, s3.snd.snd.snd.2)))
                          ((0 : Int), s2.snd.1, s2.snd.snd.1, s2.snd.snd.snd.1, s2.snd.snd.snd.2))
                        fun (v3 : List (Nat × Nat) × Int × Int × List Int) => Option.some (Sum.inl (Go.IntKind.wrap Go.IntKind.i64 (s2.fst + (1 : Int)), v3.1, v3.snd.1, v3.snd.snd.1, v3.snd.snd.2))
                    else Option.none
                  else Option.some (Sum.inr (s2.snd.1, s2.snd.snd.snd.2)))
                ((0 : Int), s1.2, (List.getD x.snd.snd (Int.toNat s1.fst) ((0 : Int), (0 : Int))).1, (List.getD x.snd.snd (Int.toNat s1.fst) ((0 : Int), (0 : Int))).2, []))
              fun (v2 : List (Nat × Nat) × List Int) =>
              if Decidable.decide ((↑(List.length v2.snd) : Int) > (0 : Int)) = Bool.true then
                Option.bind (Go.Sx.U.f21F v2.2) fun (v3 : Int) =>
                  Option.bind (Go.Sx.U.f11F (x.1, x.snd.1, v3)) fun (v4 : Nat × Nat) =>
                    if
                        Go.Sx.roomOk (List.length v2.fst + (1 : Nat))
                          { kind := Go.Sx.TK.other, size := (1 : Nat), bytes := (16 : Nat), ty := Option.some Go.Sx.Ty.cplx, zero := [Go.Sx.SV.val Go.Sx.Ty.cplx ((0 : Nat), (0 : Nat))] :
                              Go.Sx.TI }.bytes then
                      Option.some (Sum.inl (Go.IntKind.wrap Go.IntKind.i64 (s1.fst + (1 : Int)), v2.1 ++ [v4]))
                    else Option.none
              else
                if
                    Go.Sx.roomOk (List.length v2.fst + (1 : Nat))
                      { kind := Go.Sx.TK.other, size := (1 : Nat), bytes := (16 : Nat), ty := Option.some Go.Sx.Ty.cplx, zero := [Go.Sx.SV.val Go.Sx.Ty.cplx ((0 : Nat), (0 : Nat))] :
                          Go.Sx.TI }.bytes then
                  Option.some (Sum.inl (Go.IntKind.wrap Go.IntKind.i64 (s1.fst + (1 : Int)), v2.1 ++ [((13830554455654793216 : Nat), (0 : Nat))]))
                else Option.none
          else Option.none
        else Option.some (Sum.inr s1.2))
      ((0 : Int), []))
    fun (v1 : List (Nat × Nat)) => Option.some v1
theorem U.f9eq : ∀ x, runFn U.C U.f9Γ U.f9sig U.f9ann Go.Proofs.Try.f9 x = U.f9F x := by
  intro x
  kernel_rfl
noncomputable def U.f9con : Con := ⟨9, U.f9sig, U.f9F⟩
theorem U.f9ok : Con.Ok Go.Proofs.Try.prog U.C U.f9con :=
  runFn_ok (Γ := U.f9Γ) (an := U.f9ann) ⟨U.Cok, (List.forall_mem_cons.2 ⟨U.f21ok, (List.forall_mem_cons.2 ⟨U.f11ok, (fun _ h => nomatch h)⟩)⟩), U.mixed⟩ Go.Proofs.Try.func9 rfl rfl (fun x y h => (U.f9eq x).trans h) (by decide)
def U.f8sig : Sig := ⟨⟨[.hole (.sl .cplx), .hole (.sl .cplx)], []⟩, ⟨[.hole .bool], []⟩⟩
noncomputable def U.f8Γ : List Con := []
def U.f8ann : Ann :=
  (.seq .leaf (.seq (.seq .leaf (.cond (.seq .leaf .leaf) .leaf)) (.seq (.seq .leaf (.block (.loop ⟨.normal, [(5, .hole (.int .i64))], []⟩ [⟨(.exit 0), [], []⟩, ⟨.ret, [(4, .hole .bool)], []⟩] (.seq (.seq .leaf (.cond .leaf .leaf)) (.seq (.block (.seq .leaf (.cond (.seq .leaf .leaf) .leaf))) .leaf))))) (.seq .leaf .leaf))))
noncomputable def U.f8F : List (Nat × Nat) × List (Nat × Nat) → Option (Bool) :=
  fun (x : List (Nat × Nat) × List (Nat × Nat)) =>
  if ((↑(List.length x.fst) : Int) != (↑(List.length x.snd) : Int)) = Bool.true then Option.some Bool.false
  else
    Option.bind
      (Go.Sx.iter
        (fun (s1 : Int) =>
          if Decidable.decide (s1 < (↑(List.length x.fst) : Int)) = Bool.true then
            if (0 : Int) ≤ s1 ∧ s1 < (↑(List.length x.fst) : Int) then
              if (0 : Int) ≤ s1 ∧ s1 < (↑(List.length x.snd) : Int) then
                if
                    (!(Go.Sx.fOrd (List.getD x.fst (Int.toNat s1) ((0 : Nat), (0 : Nat))).fst (List.getD x.snd (Int.toNat s1) ((0 : Nat), (0 : Nat))).fst Ordering.eq &&
                          Go.Sx.fOrd (List.getD x.fst (Int.toNat s1) ((0 : Nat), (0 : Nat))).snd (List.getD x.snd (Int.toNat s1) ((0 : Nat), (0 : Nat))).snd Ordering.eq)) =
                      Bool.true then
                  Option.some (Sum.inr (Sum.inr Bool.false))
                else Option.some (Sum.inl (Go.IntKind.wrap Go.IntKind.i64 (s1 + (1 : Int))))
              else Option.none
            else Option.none
          else Option.some (Sum.inr (Sum.inl ())))
        (0 : Int))
      fun (v1 : PUnit ⊕ Bool) => Sum.elim (fun (p2 : PUnit) => Option.some Bool.true) (fun (q2 : Bool) => Option.some q2) v1
theorem U.f8eq : ∀ x, runFn U.C U.f8Γ U.f8sig U.f8ann Go.Proofs.Try.f8 x = U.f8F x := by
  intro x
  kernel_rfl
noncomputable def U.f8con : Con := ⟨8, U.f8sig, U.f8F⟩
theorem U.f8ok : Con.Ok Go.Proofs.Try.prog U.C U.f8con :=
  runFn_ok (Γ := U.f8Γ) (an := U.f8ann) ⟨U.Cok, (fun _ h => nomatch h), U.mixed⟩ Go.Proofs.Try.func8 rfl rfl (fun x y h => (U.f8eq x).trans h) (by decide)
def U.f20sig : Sig := ⟨⟨[.hole .cplx, .hole .cplx], []⟩, ⟨[.hole .bool], []⟩⟩
noncomputable def U.f20Γ : List Con := [U.f18con, U.f27con]
def U.f20ann : Ann :=
  (.seq .leaf (.seq .leaf .leaf))
noncomputable def U.f20F : (Nat × Nat) × Nat × Nat → Option (Bool) :=
  fun (x : (Nat × Nat) × Nat × Nat) =>
  Option.bind (Go.Sx.U.f18F x.1) fun (v1 : Bool) =>
    if v1 = Bool.true then
      Option.bind (Go.Sx.U.f18F x.2) fun (v2 : Bool) =>
        if v2 = Bool.true then Option.bind (Go.Sx.U.f27F (x.1, x.2)) fun (v3 : Int) => Option.some (Decidable.decide (v3 < (0 : Int))) else Option.some Bool.false
    else Option.some Bool.false
theorem U.f20eq : ∀ x, runFn U.C U.f20Γ U.f20sig U.f20ann Go.Proofs.Try.f20 x = U.f20F x := by
  intro x
  kernel_rfl
noncomputable def U.f20con : Con := ⟨20, U.f20sig, U.f20F⟩
theorem U.f20ok : Con.Ok Go.Proofs.Try.prog U.C U.f20con :=
  runFn_ok (Γ := U.f20Γ) (an := U.f20ann) ⟨U.Cok, (List.forall_mem_cons.2 ⟨U.f18ok, (List.forall_mem_cons.2 ⟨U.f27ok, (fun _ h => nomatch h)⟩)⟩), U.mixed⟩ Go.Proofs.Try.func20 rfl rfl (fun x y h => (U.f20eq x).trans h) (by decide)
def U.f6sig : Sig := ⟨⟨[], []⟩, ⟨[.hole .bool], []⟩⟩
noncomputable def U.f6Γ : List Con := [U.f13con, U.f14con, U.f11con, U.f9con, U.f8con, U.f18con, U.f20con]
def U.f6ann : Ann :=
  (.seq .leaf (.seq .leaf (.seq .leaf (.seq .leaf (.seq .leaf (.seq .leaf (.seq (.eff 4 [36] [0, 1, 3, 7, 15, 31, 63, 127, 255, 511, 1023, 2047, 4095, 8191, 16383, 32767, 65535, 131071, 262143, 524287, 1048575, 2097151, 4194303, 8388607, 16777215, 33554431, 67108863, 134217727, 268435455, 536870911, 1073741823, 2147483647, 2147483647, 2147483647, 15032385535, 34359738367, 2147483647, 137438953471, 274877906943, 549755813887, 1099511627775, 2199023255551, 4398046511103, 8796093022207, 17592186044415, 35184372088831, 70368744177663, 140737488355327, 281474976710655, 70368744177663, 633318697598975, 1759218604441599, 4503599627370495, 9007199254740991, 18014398509481983]) .leaf)))))))
noncomputable def U.f6F : PUnit → Option (Bool) :=
  fun (x : PUnit) =>
  if (0 : Int) ≤ (0 : Int) ∧ (0 : Int) < (↑((2 : Nat) + (1 : Nat)) : Int) then
    Option.bind
      (Go.Sx.U.f13F
        ([((0 : Nat), (4611686018427387904 : Nat)), ((4607182418800017408 : Nat), (0 : Nat)), ((13830554455654793216 : Nat), (0 : Nat))],
          List.getD [((0 : Nat), (4611686018427387904 : Nat)), ((4607182418800017408 : Nat), (0 : Nat)), ((13830554455654793216 : Nat), (0 : Nat))] (Int.toNat (0 : Int)) ((0 : Nat), (0 : Nat))))
      fun (v1 : Int × Bool) =>
      if (0 : Int) ≤ (1 : Int) ∧ (1 : Int) < (↑((2 : Nat) + (1 : Nat)) : Int) then
        Option.bind
          (Go.Sx.U.f13F
            ([((0 : Nat), (4611686018427387904 : Nat)), ((4607182418800017408 : Nat), (0 : Nat)), ((13830554455654793216 : Nat), (0 : Nat))],
              List.getD [((0 : Nat), (4611686018427387904 : Nat)), ((4607182418800017408 : Nat), (0 : Nat)), ((13830554455654793216 : Nat), (0 : Nat))] (Int.toNat (1 : Int)) ((0 : Nat), (0 : Nat))))
          fun (v2 : Int × Bool) =>
          if (0 : Int) ≤ (0 : Int) ∧ (0 : Int) < (↑((2 : Nat) + (1 : Nat)) : Int) then
            Option.bind
              (Go.Sx.U.f14F
                ([((0 : Nat), (4611686018427387904 : Nat)), ((4607182418800017408 : Nat), (0 : Nat)), ((13830554455654793216 : Nat), (0 : Nat))],
                  List.getD [((0 : Nat), (4611686018427387904 : Nat)), ((4607182418800017408 : Nat), (0 : Nat)), ((13830554455654793216 : Nat), (0 : Nat))] (Int.toNat (0 : Int))
                    ((0 : Nat), (0 : Nat))))
              fun (v3 : Int × Bool) =>
              if (v1.fst == (1 : Int)) = Bool.true then
                if (!v1.snd) = Bool.true then
                  if (v2.fst == (0 : Int)) = Bool.true then
                    if v2.snd = Bool.true then
                      if (v3.fst == (1 : Int)) = Bool.true then
                        if v3.snd = Bool.true then
                          Option.bind (Go.Sx.U.f11F ([((0 : Int), (3 : Int), [(0 : Int), (2 : Int)])], (1 : Int), (0 : Int))) fun (v4 : Nat × Nat) =>
                            if (Go.Sx.fOrd v4.fst (0 : Nat) Ordering.eq && Go.Sx.fOrd v4.snd (4607182418800017408 : Nat) Ordering.eq) = Bool.true then
                              Option.bind (Go.Sx.U.f11F ([((0 : Int), (3 : Int), [(0 : Int), (2 : Int)])], (0 : Int), (1 : Int))) fun (v5 : Nat × Nat) =>
                                if (Go.Sx.fOrd v5.fst (13830554455654793216 : Nat) Ordering.eq && Go.Sx.fOrd v5.snd (0 : Nat) Ordering.eq) = Bool.true then
                                  Option.bind (Go.Sx.U.f9F ([((0 : Int), (3 : Int), [(0 : Int), (2 : Int)])], (0 : Int), [((1 : Int), (3 : Int)), ((1 : Int), (2 : Int))]))
                                    fun (v6 : List (Nat × Nat)) =>
                                    Option.bind (Go.Sx.U.f8F (v6, [((0 : Nat), (4607182418800017408 : Nat)), ((13830554455654793216 : Nat), (0 : Nat))])) fun (v7 : Bool) =>
                                      if v7 = Bool.true then
                                        if (0 : Int) ≤ (1 : Int) ∧ (1 : Int) < (↑((2 : Nat) + (1 : Nat)) : Int) then
                                          Option.bind
                                            (Go.Sx.U.f18F
                                              (List.getD [((0 : Nat), (4611686018427387904 : Nat)), ((4607182418800017408 : Nat), (0 : Nat)), ((13830554455654793216 : Nat), (0 : Nat))]
                                                (Int.toNat (1 : Int)) ((0 : Nat), (0 : Nat))))
                                            fun (v8 : Bool) =>
                                            if v8 = Bool.true then
                                              if (0 : Int) ≤ (0 : Int) ∧ (0 : Int) < (↑((2 : Nat) + (1 : Nat)) : Int) then
                                                if (0 : Int) ≤ (1 : Int) ∧ (1 : Int) < (↑((2 : Nat) + (1 : Nat)) : Int) then
                                                  Option.bind
                                                    (Go.Sx.U.f20F
                                                      (List.getD [((0 : Nat), (4611686018427387904 : Nat)), ((4607182418800017408 : Nat), (0 : Nat)), ((13830554455654793216 : Nat), (0 : Nat))]
                                                          (Int.toNat (0 : Int)) ((0 : Nat), (0 : Nat)),
                                                        List.getD [((0 : Nat), (4611686018427387904 : Nat)), ((4607182418800017408 : Nat), (0 : Nat)), ((13830554455654793216 : Nat), (0 : Nat))]
                                                          (Int.toNat (1 : Int)) ((0 : Nat), (0 : Nat))))
                                                    fun (v9 : Bool) => Option.some v9
                                                else Option.none
                                              else Option.none
                                            else Option.some Bool.false
                                        else Option.none
                                      else Option.some Bool.false
                                else Option.some Bool.false
                            else Option.some Bool.false
                        else Option.some Bool.false
                      else Option.some Bool.false
                    else Option.some Bool.false
                  else Option.some Bool.false
                else Option.some Bool.false
              else Option.some Bool.false
          else Option.none
      else Option.none
  else Option.none
theorem U.f6eq : ∀ x, runFn U.C U.f6Γ U.f6sig U.f6ann Go.Proofs.Try.f6 x = U.f6F x := by
  intro x
  kernel_rfl
noncomputable def U.f6con : Con := ⟨6, U.f6sig, U.f6F⟩
theorem U.f6ok : Con.Ok Go.Proofs.Try.prog U.C U.f6con :=
  runFn_ok (Γ := U.f6Γ) (an := U.f6ann) ⟨U.Cok, (List.forall_mem_cons.2 ⟨U.f13ok, (List.forall_mem_cons.2 ⟨U.f14ok, (List.forall_mem_cons.2 ⟨U.f11ok, (List.forall_mem_cons.2 ⟨U.f9ok, (List.forall_mem_cons.2 ⟨U.f8ok, (List.forall_mem_cons.2 ⟨U.f18ok, (List.forall_mem_cons.2 ⟨U.f20ok, (fun _ h => nomatch h)⟩)⟩)⟩)⟩)⟩)⟩)⟩), U.mixed⟩ Go.Proofs.Try.func6 rfl rfl (fun x y h => (U.f6eq x).trans h) (by decide)
def U.f4sig : Sig := ⟨⟨[.hole (.sl (.arr 2 (.int .u16))), .hole (.int .u8)], []⟩, ⟨[.hole .bool], []⟩⟩
noncomputable def U.f4Γ : List Con := [U.f6con, U.f13con, U.f14con]
def U.f4ann : Ann :=
  (.seq .leaf (.seq (.seq .leaf (.cond (.seq .leaf .leaf) .leaf)) (.seq (.seq .leaf (.cond (.seq .leaf .leaf) .leaf)) (.seq .leaf (.seq (.seq .leaf (.block (.loop ⟨.normal, [(5, .own 0), (6, .hole (.int .i64))], [.arr 30 .cplx]⟩ [⟨(.exit 0), [(5, .own 0)], [.arr 30 .cplx]⟩] (.seq (.seq .leaf (.cond .leaf .leaf)) (.seq (.block (.seq .leaf (.seq .leaf (.seq (.seq .leaf (.block (.loop ⟨.normal, [(8, .hole .bool), (9, .hole (.int .i64))], [.arr 30 .cplx]⟩ [⟨(.exit 2), [(8, .hole .bool)], [.arr 30 .cplx]⟩] (.seq (.seq .leaf (.cond .leaf .leaf)) (.seq (.block .leaf) .leaf))))) (.seq .leaf (.cond .leaf .leaf)))))) .leaf))))) (.seq (.seq .leaf (.cond (.seq .leaf (.seq .leaf .leaf)) .leaf)) (.seq .leaf (.seq .leaf (.seq .leaf (.seq (.seq .leaf (.block (.loop ⟨.normal, [(14, .hole (.int .i64)), (12, .hole (.int .i64)), (15, .hole (.int .i64))], [.arr 30 .cplx, .arr 4 .bool]⟩ [⟨(.exit 4), [(14, .hole (.int .i64)), (12, .hole (.int .i64))], [.arr 30 .cplx, .gone]⟩, ⟨.ret, [(4, .hole .bool)], [.gone, .gone]⟩] (.seq (.seq .leaf (.cond .leaf .leaf)) (.seq (.block (.seq .leaf (.seq (.seq (.join [⟨.normal, [(115, .hole .bool)], [.arr 30 .cplx, .arr 4 .bool]⟩] .leaf) (.cond (.seq .leaf .leaf) .leaf)) (.seq .leaf (.seq (.seq (.join [⟨.normal, [(132, .hole .bool)], [.arr 30 .cplx, .arr 4 .bool]⟩] .leaf) (.cond (.seq .leaf .leaf) .leaf)) (.seq (.seq .leaf (.cond .leaf .leaf)) .leaf)))))) .leaf))))) (.seq .leaf .leaf)))))))))))
noncomputable def U.f4F : List (List Int) × Int → Option (Bool) :=
  fun (x : List (List Int) × Int) =>
  Option.bind (Go.Sx.U.f6F ()) fun (v1 : Bool) =>
    if (!v1) = Bool.true then Option.some Bool.false
    else
      if Decidable.decide ((↑(List.length x.fst) : Int) > (60 : Int)) = Bool.true then Option.some Bool.true
      else
        Option.bind
          (Go.Sx.iter
            (fun (s2 : Int × List (Nat × Nat)) =>
              if Decidable.decide (s2.fst < (↑(List.length x.fst) : Int)) = Bool.true then
                if (0 : Int) ≤ s2.fst ∧ s2.fst < (↑(List.length x.fst) : Int) then
                  if (0 : Int) ≤ (0 : Int) ∧ (0 : Int) < (↑(2 : Nat) : Int) then
                    if (0 : Int) ≤ s2.fst ∧ s2.fst < (↑(List.length x.fst) : Int) then
                      if (0 : Int) ≤ (1 : Int) ∧ (1 : Int) < (↑(2 : Nat) : Int) then
                        Option.bind
                          (Go.Sx.iter
                            (fun (s3 : Bool × Int × List (Nat × Nat)) =>
                              if Decidable.decide (s3.snd.fst < (↑(List.length s3.snd.snd) : Int)) = Bool.true then
                                if s3.fst = Bool.true then Option.some (Sum.inl (Bool.true, Go.IntKind.wrap Go.IntKind.i64 (s3.snd.fst + (1 : Int)), s3.snd.2))
                                else
                                  if (0 : Int) ≤ s3.snd.fst ∧ s3.snd.fst < (↑(List.length s3.snd.snd) : Int) then
                                    Option.some
                                      (Sum.inl
                                        (Go.Sx.fOrd (List.getD s3.snd.2 (Int.toNat s3.snd.fst) ((0 : Nat), (0 : Nat))).fst
                                              (Go.Sx.fOfInt (List.getD (List.getD x.fst (Int.toNat s2.fst) (List.replicate (2 : Nat) (0 : Int))) (Int.toNat (0 : Int)) (0 : Int))) Ordering.eq &&
                                            Go.Sx.fOrd (List.getD s3.snd.2 (Int.toNat s3.snd.fst) ((0 : Nat), (0 : Nat))).snd
                                              (Go.Sx.fOfInt (List.getD (List.getD x.fst (Int.toNat s2.fst) (List.replicate (2 : Nat) (0 : Int))) (Int.toNat (1 : Int)) (0 : Int))) Ordering.eq,
                                          Go.IntKind.wrap Go.IntKind.i64 (s3.snd.fst + (1 : Int)), s3.snd.2))
                                  else Option.none
                              else Option.some (Sum.inr (s3.1, s3.snd.2)))
                            (Bool.false, (0 : Int), s2.2))
                          fun (v3 : Bool × List (Nat × Nat)) =>
                          if (!v3.fst) = Bool.true then
                            if
                                Go.Sx.roomOk (List.length v3.snd + (1 : Nat))
                                  { kind := Go.Sx.TK.other, size := (1 : Nat), bytes := (16 : Nat), ty := Option.some Go.Sx.Ty.cplx, zero := [Go.Sx.SV.val Go.Sx.Ty.cplx ((0 : Nat), (0 : Nat))] :
                                      Go.Sx.TI }.bytes then
                              Option.some
                                (Sum.inl
                                  (Go.IntKind.wrap Go.IntKind.i64 (s2.fst + (1 : Int)),
                                    v3.2 ++
                                      [(Go.Sx.fOfInt (List.getD (List.getD x.fst (Int.toNat s2.fst) (List.replicate (2 : Nat) (0 : Int))) (Int.toNat (0 : Int)) (0 : Int)),
                                          Go.Sx.fOfInt (List.getD (List.getD x.fst (Int.toNat s2.fst) (List.replicate (2 : Nat) (0 : Int))) (Int.toNat (1 : Int)) (0 : Int)))]))
                            else Option.none
                          else Option.some (Sum.inl (Go.IntKind.wrap Go.IntKind.i64 (s2.fst + (1 : Int)), v3.2))
                      else Option.none
                    else Option.none
                  else Option.none
                else Option.none
              else Option.some (Sum.inr s2.2))
            ((0 : Int), []))
          fun (v2 : List (Nat × Nat)) =>
          if ((↑(List.length v2) : Int) == (0 : Int)) = Bool.true then
            Option.bind (Go.Sx.U.f13F (v2, (0 : Nat), (0 : Nat))) fun (v3 : Int × Bool) => if (v3.fst == (-1 : Int)) = Bool.true then Option.some !v3.snd else Option.some Bool.false
          else
            if (↑(List.length v2) : Int) = (0 : Int) then Option.none
            else
              if
                  (0 : Int) ≤ (↑(List.length v2) : Int) ∧
                    (↑(List.length v2) : Int) ≤ (↑(List.length v2) : Int) ∧
                      Go.Sx.roomOk (Int.toNat (↑(List.length v2) : Int))
                        { kind := Go.Sx.TK.bool, size := (1 : Nat), bytes := (1 : Nat), ty := Option.some Go.Sx.Ty.bool, zero := [Go.Sx.SV.bit Bool.false] : Go.Sx.TI }.bytes then
                Option.bind
                  (Go.Sx.iter
                    (fun (s3 : Int × Int × Int × List (Nat × Nat) × List Bool) =>
                      if Decidable.decide (s3.snd.snd.fst < (↑(List.length s3.snd.snd.snd.fst) : Int)) = Bool.true then
                        if (0 : Int) ≤ s3.snd.fst ∧ s3.snd.fst < (↑(List.length s3.snd.snd.snd.fst) : Int) then
                          Option.bind (Go.Sx.U.f13F (s3.snd.snd.snd.1, List.getD s3.snd.snd.snd.1 (Int.toNat s3.snd.fst) ((0 : Nat), (0 : Nat)))) fun (v4 : Int × Bool) =>
                            Option.bind
                              (if Decidable.decide (v4.fst < (0 : Int)) = Bool.true then Option.some (Bool.true, s3.snd.snd.snd.1, s3.snd.snd.snd.2)
                              else
                                if Decidable.decide (v4.fst ≥ (↑(List.length s3.snd.snd.snd.fst) : Int)) = Bool.true then Option.some (Bool.true, s3.snd.snd.snd.1, s3.snd.snd.snd.2)
                                else
                                  if (0 : Int) ≤ v4.fst ∧ v4.fst < (↑(List.length s3.snd.snd.snd.snd) : Int) then
                                    Option.some (List.getD s3.snd.snd.snd.2 (Int.toNat v4.fst) Bool.false, s3.snd.snd.snd.1, s3.snd.snd.snd.2)
                                  else Option.none)
                              fun (v5 : Bool × List (Nat × Nat) × List Bool) =>
                              if v5.fst = Bool.true then Option.some (Sum.inr (Sum.inr Bool.false))
                              else
                                if (0 : Int) ≤ v4.fst ∧ v4.fst < (↑(List.length v5.snd.fst) : Int) then
                                  Option.bind (Go.Sx.U.f14F (v5.snd.1, List.getD v5.snd.1 (Int.toNat v4.fst) ((0 : Nat), (0 : Nat)))) fun (v6 : Int × Bool) =>
                                    Option.bind (if (v6.fst != s3.snd.fst) = Bool.true then Option.some (Bool.true, v5.snd.1, v5.snd.2) else Option.some (!v6.snd == v4.snd, v5.snd.1, v5.snd.2))
                                      fun (v7 : Bool × List (Nat × Nat) × List Bool) =>
                                      if v7.fst = Bool.true then Option.some (Sum.inr (Sum.inr Bool.false))
                                      else
                                        if v4.snd = Bool.true then
                                          if (0 : Int) ≤ v4.fst ∧ v4.fst < (↑(List.length v7.snd.snd) : Int) then
                                            Option.some
                                              (Sum.inl
                                                (Go.IntKind.wrap Go.IntKind.i64 (s3.fst + (1 : Int)), v4.1, Go.IntKind.wrap Go.IntKind.i64 (s3.snd.snd.fst + (1 : Int)), v7.snd.1,
                                                  List.set v7.snd.2 (Int.toNat v4.fst) Bool.true))
                                          else Option.none
                                        else
                                          if (0 : Int) ≤ v4.fst ∧ v4.fst < (↑(List.length v7.snd.snd) : Int) then
                                            Option.some (Sum.inl (s3.1, v4.1, Go.IntKind.wrap Go.IntKind.i64 (s3.snd.snd.fst + (1 : Int)), v7.snd.1, List.set v7.snd.2 (Int.toNat v4.fst) Bool.true))
                                          else Option.none
                                else Option.none
                        else Option.none
                      else Option.some (Sum.inr (Sum.inl (s3.1, s3.snd.1, s3.snd.snd.snd.1))))
                    ((0 : Int), Int.tmod (Go.IntKind.wrap Go.IntKind.i64 x.snd) (↑(List.length v2) : Int), (0 : Int), v2, List.replicate (Int.toNat (↑(List.length v2) : Int)) Bool.false))
                  fun (v3 : Int × Int × List (Nat × Nat) ⊕ Bool) =>
                  Sum.elim
                    (fun (p4 : Int × Int × List (Nat × Nat)) =>
                      if (↑(List.length p4.snd.snd) : Int) = (0 : Int) then Option.none
                      else
                        if (p4.snd.fst == Int.tmod (Go.IntKind.wrap Go.IntKind.i64 x.snd) (↑(List.length p4.snd.snd) : Int)) = Bool.true then Option.some (p4.fst == (1 : Int))
                        else Option.some Bool.false)
                    (fun (q4 : Bool) => Option.some q4) v3
              else Option.none
theorem U.f4eq : ∀ x, runFn U.C U.f4Γ U.f4sig U.f4ann Go.Proofs.Try.f4 x = U.f4F x := by
  intro x
  kernel_rfl
noncomputable def U.f4con : Con := ⟨4, U.f4sig, U.f4F⟩
theorem U.f4ok : Con.Ok Go.Proofs.Try.prog U.C U.f4con :=
  runFn_ok (Γ := U.f4Γ) (an := U.f4ann) ⟨U.Cok, (List.forall_mem_cons.2 ⟨U.f6ok, (List.forall_mem_cons.2 ⟨U.f13ok, (List.forall_mem_cons.2 ⟨U.f14ok, (fun _ h => nomatch h)⟩)⟩)⟩), U.mixed⟩ Go.Proofs.Try.func4 rfl rfl (fun x y h => (U.f4eq x).trans h) (by decide)
end Go.Sx
