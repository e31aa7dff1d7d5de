import Derived.Test.YtemngcdlgnconaaSxP
import Derived.Laws.Externs
import Derived.Test.YtemngcdlgnconaaProg
import Derived.KernelRfl
import Derived.Tactics
import Derived.Test.YtemngcdlgnconaaSxS
set_option maxRecDepth 100000
set_option linter.unusedVariables false
set_option linter.unusedSimpArgs false
namespace Go.Sx
open Go.Proofs
def Z.idxF (x : ByteArray × Int) : Option Int := some (firstIdx x.1 x.2.toNat.toUInt8)
def Z.idx : Con := ⟨79, ⟨⟨[.hole .str, .hole (.int .u8)], []⟩, ⟨[.hole (.int .i64)], []⟩⟩, Z.idxF⟩
def Z.TT : List (TypeId × TI) := [
  (3, ⟨(.int .i64), 1, 8, some (.int .i64), [.val (.int .i64) (0 : Int)]⟩),
  (4, ⟨.bool, 1, 1, some .bool, [.bit false]⟩),
  (5, ⟨(.int .u8), 1, 1, some (.int .u8), [.val (.int .u8) (0 : Int)]⟩),
  (9, ⟨.str, 1, 16, some .str, [.val .str ByteArray.empty]⟩),
  (20, ⟨.other, 1, 16, none, [.und]⟩),
  (22, ⟨(.slice 3), 1, 24, some (.sl (.int .i64)), [.nils]⟩),
  (24, ⟨(.slice 30), 1, 24, some (.sl (.st (.pair (.int .i64) (.pair (.int .i64) (.pair (.int .i64) (.pair (.int .i64) (.int .i64))))))), [.nils]⟩),
  (25, ⟨(.int .i64), 1, 8, some (.int .i64), [.val (.int .i64) (0 : Int)]⟩),
  (30, ⟨(.struct [(3, 0, 1, false), (3, 1, 1, false), (3, 2, 1, false), (3, 3, 1, false), (3, 4, 1, false)]), 5, 40, some (.st (.pair (.int .i64) (.pair (.int .i64) (.pair (.int .i64) (.pair (.int .i64) (.int .i64)))))), [.val (.int .i64) (0 : Int), .val (.int .i64) (0 : Int), .val (.int .i64) (0 : Int), .val (.int .i64) (0 : Int), .val (.int .i64) (0 : Int)]⟩),
  (34, ⟨.other, 1, 0, none, [.und]⟩),
  (59, ⟨(.struct [(3, 0, 1, false), (25, 1, 1, false)]), 2, 16, some (.st (.pair (.int .i64) (.int .i64))), [.val (.int .i64) (0 : Int), .val (.int .i64) (0 : Int)]⟩),
  (61, ⟨(.ptr 63), 1, 8, none, [.nilp]⟩),
  (63, ⟨(.struct [(22, 0, 1, false), (3, 1, 1, false), (24, 2, 1, false)]), 3, 56, some (.st (.pair (.sl (.int .i64)) (.pair (.int .i64) (.sl (.st (.pair (.int .i64) (.pair (.int .i64) (.pair (.int .i64) (.pair (.int .i64) (.int .i64)))))))))), [.nils, .val (.int .i64) (0 : Int), .nils]⟩),
  (86, ⟨.other, 1, 0, none, [.und]⟩),
  (97, ⟨.other, 1, 0, none, [.und]⟩)]
noncomputable def Z.C : Ctx := ⟨Z.TT, [], [], [], [30]⟩
theorem Z.Cok : Z.C.ok Go.Proofs.Try.prog := checkTT_ok (by kernel_rfl)
theorem Z.mixed : Go.Proofs.Try.prog.follows .mixedOrders = true := by kernel_rfl
theorem Z.idx100 (s : ByteArray) (c : Int) (w : World) : (callFunc 100 #[.string s, .int .u8 c]).run Go.Proofs.Try.prog w = .ok (.value (.int .i64 (firstIdx s c.toNat.toUInt8))) w := by
  rw [run_callFunc_extern (e := Extern.BytealgIndexByte.indexByte) Go.Proofs.Try.func100 rfl rfl rfl (by kernel_rfl), run_indexByte_string]
  rfl
theorem Z.op1 {P : Program} {ops : Array Oper} {Q : Exit → Act → World → Prop} {a : Act} {w : World} {rest : List Oper} {o : Oper} {v : Value} (hg : o.guard = none)
    (he : (execOp a.eval o).run P w = .ok (.value v) w) (h : wpList P ops Q rest (a.put o.dst v) w) : wpList P ops Q (o :: rest) a w := by
  unfold wpList
  rw [if_pos (by simp [Region.wanted, hg])]
  left
  unfold Oper.wp
  rw [he]
  exact h
theorem Z.idxok : Z.idx.Ok Go.Proofs.Try.prog Z.C where
  there := ⟨_, Go.Proofs.Try.func79, rfl, rfl⟩
  calls := by
    intro E w args (x : ByteArray × Int) (y : Int) W hg hs hh hxy
    obtain ⟨s, c⟩ := x
    have hargs : args = [.string s, .int .u8 c] := by
      obtain ⟨v, ws, e, h1, v', ws', e', h2, h3⟩ := (show SV.satL E [.val .str s, .val (.int .u8) c] args from hs)
      subst e'
      have h3 : ws' = [] := h3
      subst h3
      have e1 : v = .string s := rep_str (by simpa only [SV.sat] using h1)
      have e2 : v' = .int .u8 c := rep_int (by simpa only [SV.sat] using h2)
      rw [e, e1, e2]
    subst hargs
    have hy : y = firstIdx s c.toNat.toUInt8 := (Option.some.inj hxy).symm
    subst hy
    have hc := Z.idx100 s c w
    refine calls_of_wp Go.Proofs.Try.func79 (c := _) rfl ?_
    generalize hQ : bodyPost Go.Proofs.Try.prog Go.Proofs.Try.f79 _ = Q
    have hsz : (#[Value.string s, Value.int .u8 c] ++ Array.replicate (Go.Proofs.Try.f79.ntmps - #[Value.string s, Value.int .u8 c].size) undef) = #[.string s, .int .u8 c, undef, undef, undef, undef, undef, undef] := by
      rw [show Go.Proofs.Try.f79.ntmps - #[Value.string s, Value.int .u8 c].size = 6 by kernel_rfl]
      rfl
    rw [show [Value.string s, Value.int .u8 c].toArray = #[Value.string s, Value.int .u8 c] from rfl, hsz]
    refine wp_seq ?_
    refine wp_region_list (Z.op1 (v := .int .i64 0) rfl (by simp [execOp, Act.eval]) ?_)
    show Code.wp _ _ _ _ _
    refine wp_seq ?_
    refine wp_region_list (Z.op1 (v := .string s) rfl (by simp [execOp, Act.eval, Act.put]) ?_)
    refine Z.op1 (v := .int .u8 c) rfl (by simp [execOp, Act.eval, Act.put]) ?_
    refine Z.op1 (v := .int .i64 (firstIdx s c.toNat.toUInt8)) rfl (by simp [execOp, resolve, invoke, Deferred.ofValue, Act.eval, Act.put, hc]) ?_
    refine Z.op1 (v := .int .i64 (firstIdx s c.toNat.toUInt8)) rfl (by simp [execOp, Act.eval, Act.put]) ?_
    show Code.wp _ _ _ _ _
    refine wp_ret ?_
    subst hQ
    refine ⟨rfl, .int .i64 (firstIdx s c.toNat.toUInt8), ?_, E, [.int .i64 (firstIdx s c.toNat.toUInt8)], rfl, ?_, hh, fun j e hj he => he⟩
    · refine (results_tmp (t := 4) rfl _ _ _).trans ?_
      rfl
    · show SV.satL E [.val (.int .i64) (firstIdx s c.toNat.toUInt8)] _
      simp only [SV.satL]
      exact ⟨_, _, rfl, sat_int _, rfl⟩
def Z.f64sig : Sig := ⟨⟨[.ptr 0 0, .hole (.int .i64)], [.cells [.hole (.sl (.int .i64)), .hole (.int .i64), .own 1], .arr 30 (.st (.pair (.int .i64) (.pair (.int .i64) (.pair (.int .i64) (.pair (.int .i64) (.int .i64))))))]⟩, ⟨[.hole .bool], [.cells [.hole (.sl (.int .i64)), .hole (.int .i64), .own 2], .gone, .arr 30 (.st (.pair (.int .i64) (.pair (.int .i64) (.pair (.int .i64) (.pair (.int .i64) (.int .i64))))))]⟩⟩
noncomputable def Z.f64Γ : List Con := []
def Z.f64ann : Ann :=
  (.seq .leaf (.seq (.seq (.join [⟨.normal, [(28, .hole .bool)], [.cells [.hole (.sl (.int .i64)), .hole (.int .i64), .own 1], .arr 30 (.st (.pair (.int .i64) (.pair (.int .i64) (.pair (.int .i64) (.pair (.int .i64) (.int .i64))))))]⟩] .leaf) (.cond (.seq .leaf (.seq .leaf .leaf)) .leaf)) (.seq .leaf .leaf)))
noncomputable def Z.f64F : Int × List Int × Int × List (Int × Int × Int × Int × Int) → Option (Bool × List Int × Int × List (Int × Int × Int × Int × Int)) :=
  fun (x : Int × List Int × Int × List (Int × Int × Int × Int × Int)) =>
  Option.bind
    (if Decidable.decide (x.snd.snd.fst < (↑(List.length x.snd.fst) : Int)) = Bool.true then
      if (0 : Int) ≤ x.snd.snd.fst ∧ x.snd.snd.fst < (↑(List.length x.snd.fst) : Int) then
        Option.some (List.getD x.snd.fst (Int.toNat x.snd.snd.fst) (0 : Int) == x.fst, x.snd.1, x.snd.snd.1, x.snd.snd.2)
      else Option.none
    else Option.some (Bool.false, x.snd.1, x.snd.snd.1, x.snd.snd.2))
    fun (v1 : Bool × List Int × Int × List (Int × Int × Int × Int × Int)) =>
    if v1.fst = Bool.true then Option.some (Bool.true, v1.snd.1, Go.IntKind.wrap Go.IntKind.i64 (v1.snd.snd.fst + (1 : Int)), v1.snd.snd.2)
    else Option.some (Bool.false, v1.snd.1, v1.snd.snd.1, v1.snd.snd.2)
theorem Z.f64eq : ∀ x, runFn Z.C Z.f64Γ Z.f64sig Z.f64ann Go.Proofs.Try.f64 x = Z.f64F x := by
  intro x
  kernel_rfl
noncomputable def Z.f64con : Con := ⟨64, Z.f64sig, Z.f64F⟩
theorem Z.f64ok : Con.Ok Go.Proofs.Try.prog Z.C Z.f64con :=
  runFn_ok (Γ := Z.f64Γ) (an := Z.f64ann) ⟨Z.Cok, (fun _ h => nomatch h), Z.mixed⟩ Go.Proofs.Try.func64 rfl rfl (fun x y h => (Z.f64eq x).trans h) (by decide)
def Z.f65sig : Sig := ⟨⟨[.ptr 0 0, .hole (.st (.pair (.int .i64) (.pair (.int .i64) (.pair (.int .i64) (.pair (.int .i64) (.int .i64))))))], [.cells [.hole (.sl (.int .i64)), .hole (.int .i64), .own 1], .arr 30 (.st (.pair (.int .i64) (.pair (.int .i64) (.pair (.int .i64) (.pair (.int .i64) (.int .i64))))))]⟩, ⟨[], [.cells [.hole (.sl (.int .i64)), .hole (.int .i64), .own 2], .gone, .arr 30 (.st (.pair (.int .i64) (.pair (.int .i64) (.pair (.int .i64) (.pair (.int .i64) (.int .i64))))))]⟩⟩
noncomputable def Z.f65Γ : List Con := []
def Z.f65ann : Ann :=
  (.seq .leaf (.eff 5 [] [0, 0, 2, 6, 14, 0, 32, 126, 255, 511, 1023]))
noncomputable def Z.f65F : (Int × Int × Int × Int × Int) × List Int × Int × List (Int × Int × Int × Int × Int) → Option (List Int × Int × List (Int × Int × Int × Int × Int)) :=
  fun (x : (Int × Int × Int × Int × Int) × List Int × Int × List (Int × Int × Int × Int × Int)) =>
  if
      Go.Sx.roomOk (List.length x.snd.snd.snd + (1 : Nat))
        {
            kind :=
              Go.Sx.TK.struct
                [((3 : Go.TypeId), (0 : Nat), (1 : Nat), Bool.false), ((3 : Go.TypeId), (1 : Nat), (1 : Nat), Bool.false), ((3 : Go.TypeId), (2 : Nat), (1 : Nat), Bool.false),
                  ((3 : Go.TypeId), (3 : Nat), (1 : Nat), Bool.false), ((3 : Go.TypeId), (4 : Nat), (1 : Nat), Bool.false)],
            size := (5 : Nat), bytes := (40 : Nat),
            ty :=
              Option.some
                (Go.Sx.Ty.st
                  (Go.Sx.Ty.pair (Go.Sx.Ty.int Go.IntKind.i64)
                    (Go.Sx.Ty.pair (Go.Sx.Ty.int Go.IntKind.i64) (Go.Sx.Ty.pair (Go.Sx.Ty.int Go.IntKind.i64) (Go.Sx.Ty.pair (Go.Sx.Ty.int Go.IntKind.i64) (Go.Sx.Ty.int Go.IntKind.i64)))))),
            zero :=
              [Go.Sx.SV.val (Go.Sx.Ty.int Go.IntKind.i64) (0 : Int), Go.Sx.SV.val (Go.Sx.Ty.int Go.IntKind.i64) (0 : Int), Go.Sx.SV.val (Go.Sx.Ty.int Go.IntKind.i64) (0 : Int),
                Go.Sx.SV.val (Go.Sx.Ty.int Go.IntKind.i64) (0 : Int), Go.Sx.SV.val (Go.Sx.Ty.int Go.IntKind.i64) (0 : Int)] :
            Go.Sx.TI }.bytes then
    Option.some (x.snd.1, x.snd.snd.1, x.snd.snd.2 ++ [(x.fst.1, x.fst.snd.1, x.fst.snd.snd.1, x.fst.snd.snd.snd.1, x.fst.snd.snd.snd.2)])
  else Option.none
theorem Z.f65eq : ∀ x, runFn Z.C Z.f65Γ Z.f65sig Z.f65ann Go.Proofs.Try.f65 x = Z.f65F x := by
  intro x
  kernel_rfl
noncomputable def Z.f65con : Con := ⟨65, Z.f65sig, Z.f65F⟩
theorem Z.f65ok : Con.Ok Go.Proofs.Try.prog Z.C Z.f65con :=
  runFn_ok (Γ := Z.f65Γ) (an := Z.f65ann) ⟨Z.Cok, (fun _ h => nomatch h), Z.mixed⟩ Go.Proofs.Try.func65 rfl rfl (fun x y h => (Z.f65eq x).trans h) (by decide)
def Z.f68sig : Sig := ⟨⟨[.hole .str, .hole (.int .u8)], []⟩, ⟨[.hole (.int .i64)], []⟩⟩
noncomputable def Z.f68Γ : List Con := [Z.idx]
def Z.f68ann : Ann :=
  (.seq .leaf (.seq .leaf .leaf))
noncomputable def Z.f68F : ByteArray × Int → Option (Int) :=
  fun (x : ByteArray × Int) => Option.bind (Go.Sx.Z.idxF (x.1, x.2)) fun (v1 : Int) => Option.some v1
theorem Z.f68eq : ∀ x, runFn Z.C Z.f68Γ Z.f68sig Z.f68ann Go.Proofs.Try.f68 x = Z.f68F x := by
  intro x
  kernel_rfl
noncomputable def Z.f68con : Con := ⟨68, Z.f68sig, Z.f68F⟩
theorem Z.f68ok : Con.Ok Go.Proofs.Try.prog Z.C Z.f68con :=
  runFn_ok (Γ := Z.f68Γ) (an := Z.f68ann) ⟨Z.Cok, (List.forall_mem_cons.2 ⟨Z.idxok, (fun _ h => nomatch h)⟩), Z.mixed⟩ Go.Proofs.Try.func68 rfl rfl (fun x y h => (Z.f68eq x).trans h) (by decide)
def Z.f45sig : Sig := ⟨⟨[.hole (.int .i64), .hole .str], []⟩, ⟨[.hole .bool], []⟩⟩
noncomputable def Z.f45Γ : List Con := [Z.f68con]
def Z.f45ann : Ann :=
  (.seq .leaf (.seq .leaf .leaf))
noncomputable def Z.f45F : Int × ByteArray → Option (Bool) :=
  fun (x : Int × ByteArray) =>
  if Decidable.decide (x.fst ≥ (0 : Int)) = Bool.true then
    if Decidable.decide (x.fst < (128 : Int)) = Bool.true then Option.bind (Go.Sx.Z.f68F (x.2, Go.IntKind.wrap Go.IntKind.u8 x.fst)) fun (v1 : Int) => Option.some (Decidable.decide (v1 ≥ (0 : Int)))
    else Option.some Bool.false
  else Option.some Bool.false
theorem Z.f45eq : ∀ x, runFn Z.C Z.f45Γ Z.f45sig Z.f45ann Go.Proofs.Try.f45 x = Z.f45F x := by
  intro x
  kernel_rfl
noncomputable def Z.f45con : Con := ⟨45, Z.f45sig, Z.f45F⟩
theorem Z.f45ok : Con.Ok Go.Proofs.Try.prog Z.C Z.f45con :=
  runFn_ok (Γ := Z.f45Γ) (an := Z.f45ann) ⟨Z.Cok, (List.forall_mem_cons.2 ⟨Z.f68ok, (fun _ h => nomatch h)⟩), Z.mixed⟩ Go.Proofs.Try.func45 rfl rfl (fun x y h => (Z.f45eq x).trans h) (by decide)
def Z.f78sig : Sig := ⟨⟨[.ptr 0 0], [.cells [.hole (.sl (.int .i64)), .hole (.int .i64), .own 1], .arr 30 (.st (.pair (.int .i64) (.pair (.int .i64) (.pair (.int .i64) (.pair (.int .i64) (.int .i64))))))]⟩, ⟨[.hole (.int .i64), .hole .bool], [.cells [.hole (.sl (.int .i64)), .hole (.int .i64), .own 2], .gone, .arr 30 (.st (.pair (.int .i64) (.pair (.int .i64) (.pair (.int .i64) (.pair (.int .i64) (.int .i64))))))]⟩⟩
noncomputable def Z.f78Γ : List Con := [Z.f45con]
def Z.f78ann : Ann :=
  (.seq .leaf (.seq .leaf (.seq (.block (.loop ⟨.normal, [(2, .hole (.int .i64))], [.cells [.hole (.sl (.int .i64)), .hole (.int .i64), .own 1], .arr 30 (.st (.pair (.int .i64) (.pair (.int .i64) (.pair (.int .i64) (.pair (.int .i64) (.int .i64))))))]⟩ [⟨(.exit 0), [(2, .hole (.int .i64))], [.cells [.hole (.sl (.int .i64)), .hole (.int .i64), .own 1], .arr 30 (.st (.pair (.int .i64) (.pair (.int .i64) (.pair (.int .i64) (.pair (.int .i64) (.int .i64))))))]⟩] (.seq (.seq (.join [⟨.normal, [(31, .hole .bool)], [.cells [.hole (.sl (.int .i64)), .hole (.int .i64), .own 1], .arr 30 (.st (.pair (.int .i64) (.pair (.int .i64) (.pair (.int .i64) (.pair (.int .i64) (.int .i64))))))]⟩] .leaf) (.cond .leaf .leaf)) (.block (.seq (.join [⟨.normal, [(2, .hole (.int .i64))], [.cells [.hole (.sl (.int .i64)), .hole (.int .i64), .own 1], .arr 30 (.st (.pair (.int .i64) (.pair (.int .i64) (.pair (.int .i64) (.pair (.int .i64) (.int .i64))))))]⟩] (.seq .leaf (.seq .leaf (.cond .leaf .leaf)))) .leaf))))) (.seq (.join [⟨.normal, [(2, .hole (.int .i64))], [.cells [.hole (.sl (.int .i64)), .hole (.int .i64), .own 1], .arr 30 (.st (.pair (.int .i64) (.pair (.int .i64) (.pair (.int .i64) (.pair (.int .i64) (.int .i64))))))]⟩] (.seq (.join [⟨.normal, [(75, .hole .bool)], [.cells [.hole (.sl (.int .i64)), .hole (.int .i64), .own 1], .arr 30 (.st (.pair (.int .i64) (.pair (.int .i64) (.pair (.int .i64) (.pair (.int .i64) (.int .i64))))))]⟩] .leaf) (.cond .leaf .leaf))) (.seq .leaf .leaf)))))
noncomputable def Z.f78F : List Int × Int × List (Int × Int × Int × Int × Int) → Option (Int × Bool × List Int × Int × List (Int × Int × Int × Int × Int)) :=
  fun (x : List Int × Int × List (Int × Int × Int × Int × Int)) =>
  Option.bind
    (Go.Sx.iter
      (fun (s1 : Int × List Int × Int × List (Int × Int × Int × Int × Int)) =>
        Option.bind
          (if Decidable.decide (s1.snd.snd.fst < (↑(List.length s1.snd.fst) : Int)) = Bool.true then
            if (0 : Int) ≤ s1.snd.snd.fst ∧ s1.snd.snd.fst < (↑(List.length s1.snd.fst) : Int) then
              Option.bind
                (Go.Sx.Z.f45F
                  (List.getD s1.snd.fst (Int.toNat s1.snd.snd.fst) (0 : Int),
                    { data := #[(48 : UInt8), (49 : UInt8), (50 : UInt8), (51 : UInt8), (52 : UInt8), (53 : UInt8), (54 : UInt8), (55 : UInt8), (56 : UInt8), (57 : UInt8)] : ByteArray }))
                fun (v2 : Bool) => Option.some (v2, s1.snd.1, s1.snd.snd.1, s1.snd.snd.2)
            else Option.none
          else Option.some (Bool.false, s1.snd.1, s1.snd.snd.1, s1.snd.snd.2))
          fun (v2 : Bool × List Int × Int × List (Int × Int × Int × Int × Int)) =>
          if v2.fst = Bool.true then
            Option.bind
              (if (0 : Int) ≤ v2.snd.snd.fst ∧ v2.snd.snd.fst < (↑(List.length v2.snd.fst) : Int) then
                if
                    Decidable.decide
                        (Go.IntKind.wrap Go.IntKind.i64
                            (Go.IntKind.wrap Go.IntKind.i64 (Go.IntKind.wrap Go.IntKind.i64 ((10 : Int) * s1.fst) + List.getD v2.snd.fst (Int.toNat v2.snd.snd.fst) (0 : Int)) - (48 : Int)) >
                          (20 : Int)) =
                      Bool.true then
                  Option.some ((21 : Int), v2.snd.1, v2.snd.snd.1, v2.snd.snd.2)
                else
                  Option.some
                    (Go.IntKind.wrap Go.IntKind.i64
                        (Go.IntKind.wrap Go.IntKind.i64 (Go.IntKind.wrap Go.IntKind.i64 ((10 : Int) * s1.fst) + List.getD v2.snd.fst (Int.toNat v2.snd.snd.fst) (0 : Int)) - (48 : Int)),
                      v2.snd.1, v2.snd.snd.1, v2.snd.snd.2)
              else Option.none)
              fun (v3 : Int × List Int × Int × List (Int × Int × Int × Int × Int)) => Option.some (Sum.inl (v3.1, v3.snd.1, Go.IntKind.wrap Go.IntKind.i64 (v3.snd.snd.fst + (1 : Int)), v3.snd.snd.2))
          else Option.some (Sum.inr (s1.1, v2.snd.1, v2.snd.snd.1, v2.snd.snd.2)))
      ((0 : Int), x.1, x.snd.1, x.snd.2))
    fun (v1 : Int × List Int × Int × List (Int × Int × Int × Int × Int)) =>
    Option.bind
      (Option.bind
        (if Decidable.decide (v1.fst > (20 : Int)) = Bool.true then Option.some (Bool.true, v1.snd.1, v1.snd.snd.1, v1.snd.snd.2)
        else
          if Decidable.decide (v1.snd.snd.fst > Go.IntKind.wrap Go.IntKind.i64 (x.snd.fst + (1 : Int))) = Bool.true then
            if (0 : Int) ≤ x.snd.fst ∧ x.snd.fst < (↑(List.length v1.snd.fst) : Int) then
              Option.some (List.getD v1.snd.fst (Int.toNat x.snd.fst) (0 : Int) == (48 : Int), v1.snd.1, v1.snd.snd.1, v1.snd.snd.2)
            else Option.none
          else Option.some (Bool.false, v1.snd.1, v1.snd.snd.1, v1.snd.snd.2))
        fun (v2 : Bool × List Int × Int × List (Int × Int × Int × Int × Int)) =>
        if v2.fst = Bool.true then Option.some ((-1 : Int), v2.snd.1, v2.snd.snd.1, v2.snd.snd.2) else Option.some (v1.1, v2.snd.1, v2.snd.snd.1, v2.snd.snd.2))
      fun (v2 : Int × List Int × Int × List (Int × Int × Int × Int × Int)) => Option.some (v2.1, Decidable.decide (v2.snd.snd.fst > x.snd.fst), v2.snd.1, v2.snd.snd.1, v2.snd.snd.2)
theorem Z.f78eq : ∀ x, runFn Z.C Z.f78Γ Z.f78sig Z.f78ann Go.Proofs.Try.f78 x = Z.f78F x := by
  intro x
  kernel_rfl
noncomputable def Z.f78con : Con := ⟨78, Z.f78sig, Z.f78F⟩
theorem Z.f78ok : Con.Ok Go.Proofs.Try.prog Z.C Z.f78con :=
  runFn_ok (Γ := Z.f78Γ) (an := Z.f78ann) ⟨Z.Cok, (List.forall_mem_cons.2 ⟨Z.f45ok, (fun _ h => nomatch h)⟩), Z.mixed⟩ Go.Proofs.Try.func78 rfl rfl (fun x y h => (Z.f78eq x).trans h) (by decide)
def Z.f70sig : Sig := ⟨⟨[.ro (.st (.pair (.sl (.int .i64)) (.pair (.int .i64) (.sl (.st (.pair (.int .i64) (.pair (.int .i64) (.pair (.int .i64) (.pair (.int .i64) (.int .i64))))))))))], []⟩, ⟨[.hole (.int .i64)], []⟩⟩
noncomputable def Z.f70Γ : List Con := []
noncomputable def Z.f70Θ : List PCon := []
def Z.f70ann : Ann :=
  (.seq .leaf (.seq (.seq .leaf (.cond .throw .leaf)) (.seq .leaf .leaf)))
noncomputable def Z.f70F : List Int × Int × List (Int × Int × Int × Int × Int) → Option ((Int) ⊕ (Int × Int)) :=
  fun (x : List Int × Int × List (Int × Int × Int × Int × Int)) =>
  if Decidable.decide (x.snd.fst ≥ (↑(List.length x.fst) : Int)) = Bool.true then Option.some (Sum.inr (x.snd.1, (4 : Int)))
  else if (0 : Int) ≤ x.snd.fst ∧ x.snd.fst < (↑(List.length x.fst) : Int) then Option.some (Sum.inl (List.getD x.fst (Int.toNat x.snd.fst) (0 : Int))) else Option.none
theorem Z.f70eq : ∀ x, runFnP Z.C Z.f70Γ Z.f70Θ Z.f70sig 59 (.st (.pair (.int .i64) (.int .i64))) Z.f70ann Go.Proofs.Try.f70 x = Z.f70F x := by
  intro x
  kernel_rfl
noncomputable def Z.f70p : PCon := ⟨70, Z.f70sig, 59, (.st (.pair (.int .i64) (.int .i64))), Z.f70F⟩
theorem Z.f70ok : PCon.Ok Go.Proofs.Try.prog Z.C Z.f70p :=
  runFnP_ok (Γ := Z.f70Γ) (Θ := Z.f70Θ) (an := Z.f70ann) ⟨Z.Cok, (fun _ h => nomatch h), Z.mixed⟩ (fun _ h => nomatch h) Go.Proofs.Try.func70 rfl rfl (fun x y h => (Z.f70eq x).trans h) (by decide)
def Z.f66sig : Sig := ⟨⟨[.ptr 0 0], [.cells [.hole (.sl (.int .i64)), .hole (.int .i64), .own 1], .arr 30 (.st (.pair (.int .i64) (.pair (.int .i64) (.pair (.int .i64) (.pair (.int .i64) (.int .i64))))))]⟩, ⟨[.hole (.int .i64), .hole (.int .i64), .hole .bool], [.cells [.hole (.sl (.int .i64)), .hole (.int .i64), .own 2], .gone, .arr 30 (.st (.pair (.int .i64) (.pair (.int .i64) (.pair (.int .i64) (.pair (.int .i64) (.int .i64))))))]⟩⟩
noncomputable def Z.f66Γ : List Con := [Z.f78con, Z.f64con]
noncomputable def Z.f66Θ : List PCon := [Z.f70p]
def Z.f66ann : Ann :=
  (.seq .leaf (.seq .leaf (.seq (.seq (.callp 1) (.seq .leaf (.cond (.seq .leaf .leaf) .leaf))) (.seq (.seq .leaf (.cond (.seq .leaf .leaf) .leaf)) (.seq (.seq .leaf (.cond (.seq .leaf .leaf) .leaf)) (.seq (.seq (.callp 1) (.seq .leaf (.cond (.seq .leaf .leaf) .leaf))) (.seq .leaf (.seq (.seq (.callp 1) (.seq (.join [⟨.normal, [(44, .hole .bool)], [.cells [.hole (.sl (.int .i64)), .hole (.int .i64), .own 7], .gone, .gone, .gone, .gone, .gone, .gone, .arr 30 (.st (.pair (.int .i64) (.pair (.int .i64) (.pair (.int .i64) (.pair (.int .i64) (.int .i64))))))]⟩] .leaf) (.cond (.seq .leaf .leaf) .leaf))) (.seq .leaf .leaf)))))))))
noncomputable def Z.f66F : List Int × Int × List (Int × Int × Int × Int × Int) → Option ((Int × Int × Bool × List Int × Int × List (Int × Int × Int × Int × Int)) ⊕ (Int × Int)) :=
  fun (x : List Int × Int × List (Int × Int × Int × Int × Int)) =>
  Option.bind (Go.Sx.Z.f78F (x.1, x.snd.1, x.snd.2)) fun (v1 : Int × Bool × List Int × Int × List (Int × Int × Int × Int × Int)) =>
    Option.bind (Go.Sx.Z.f70F (v1.snd.snd.1, v1.snd.snd.snd.1, v1.snd.snd.snd.2)) fun (v2 : Int ⊕ Int × Int) =>
      Sum.elim
        (fun (p3 : Int) =>
          if (!v1.snd.fst) = Bool.true then Option.some (Sum.inl ((0 : Int), (0 : Int), Bool.false, v1.snd.snd.1, v1.snd.snd.snd.1, v1.snd.snd.snd.2))
          else
            Option.bind (Go.Sx.Z.f64F ((125 : Int), v1.snd.snd.1, v1.snd.snd.snd.1, v1.snd.snd.snd.2)) fun (v4 : Bool × List Int × Int × List (Int × Int × Int × Int × Int)) =>
              if v4.fst = Bool.true then Option.some (Sum.inl (v1.1, v1.1, Decidable.decide (v1.fst ≥ (0 : Int)), v4.snd.1, v4.snd.snd.1, v4.snd.snd.2))
              else
                Option.bind (Go.Sx.Z.f64F ((44 : Int), v4.snd.1, v4.snd.snd.1, v4.snd.snd.2)) fun (v5 : Bool × List Int × Int × List (Int × Int × Int × Int × Int)) =>
                  if (!v5.fst) = Bool.true then Option.some (Sum.inl ((0 : Int), (0 : Int), Bool.false, v5.snd.1, v5.snd.snd.1, v5.snd.snd.2))
                  else
                    Option.bind (Go.Sx.Z.f70F (v5.snd.1, v5.snd.snd.1, v5.snd.snd.2)) fun (v6 : Int ⊕ Int × Int) =>
                      Sum.elim
                        (fun (p7 : Int) =>
                          Option.bind (Go.Sx.Z.f64F ((125 : Int), v5.snd.1, v5.snd.snd.1, v5.snd.snd.2)) fun (v8 : Bool × List Int × Int × List (Int × Int × Int × Int × Int)) =>
                            if v8.fst = Bool.true then Option.some (Sum.inl (v1.1, (-1 : Int), Decidable.decide (v1.fst ≥ (0 : Int)), v8.snd.1, v8.snd.snd.1, v8.snd.snd.2))
                            else
                              Option.bind (Go.Sx.Z.f78F (v8.snd.1, v8.snd.snd.1, v8.snd.snd.2)) fun (v9 : Int × Bool × List Int × Int × List (Int × Int × Int × Int × Int)) =>
                                Option.bind (Go.Sx.Z.f70F (v9.snd.snd.1, v9.snd.snd.snd.1, v9.snd.snd.snd.2)) fun (v10 : Int ⊕ Int × Int) =>
                                  Sum.elim
                                    (fun (p11 : Int) =>
                                      Option.bind
                                        (if (!v9.snd.fst) = Bool.true then Option.some (Bool.true, v9.snd.snd.1, v9.snd.snd.snd.1, v9.snd.snd.snd.2)
                                        else
                                          Option.bind (Go.Sx.Z.f64F ((125 : Int), v9.snd.snd.1, v9.snd.snd.snd.1, v9.snd.snd.snd.2))
                                            fun (v12 : Bool × List Int × Int × List (Int × Int × Int × Int × Int)) => Option.some (!v12.fst, v12.snd.1, v12.snd.snd.1, v12.snd.snd.2))
                                        fun (v12 : Bool × List Int × Int × List (Int × Int × Int × Int × Int)) =>
                                        if v12.fst = Bool.true then Option.some (Sum.inl ((0 : Int), (0 : Int), Bool.false, v12.snd.1, v12.snd.snd.1, v12.snd.snd.2))
                                        else
                                          if Decidable.decide (v1.fst ≥ (0 : Int)) = Bool.true then
                                            Option.some (Sum.inl (v1.1, v9.1, Decidable.decide (v9.fst ≥ v1.fst), v12.snd.1, v12.snd.snd.1, v12.snd.snd.2))
                                          else Option.some (Sum.inl (v1.1, v9.1, Bool.false, v12.snd.1, v12.snd.snd.1, v12.snd.snd.2)))
                                    (fun (q11 : Int × Int) => Option.some (Sum.inr q11)) v10)
                        (fun (q7 : Int × Int) => Option.some (Sum.inr q7)) v6)
        (fun (q3 : Int × Int) => Option.some (Sum.inr q3)) v2
theorem Z.f66eq : ∀ x, runFnP Z.C Z.f66Γ Z.f66Θ Z.f66sig 59 (.st (.pair (.int .i64) (.int .i64))) Z.f66ann Go.Proofs.Try.f66 x = Z.f66F x := by
  intro x
  kernel_rfl
noncomputable def Z.f66p : PCon := ⟨66, Z.f66sig, 59, (.st (.pair (.int .i64) (.int .i64))), Z.f66F⟩
theorem Z.f66ok : PCon.Ok Go.Proofs.Try.prog Z.C Z.f66p :=
  runFnP_ok (Γ := Z.f66Γ) (Θ := Z.f66Θ) (an := Z.f66ann) ⟨Z.Cok, (List.forall_mem_cons.2 ⟨Z.f78ok, (List.forall_mem_cons.2 ⟨Z.f64ok, (fun _ h => nomatch h)⟩)⟩), Z.mixed⟩ (List.forall_mem_cons.2 ⟨Z.f70ok, (fun _ h => nomatch h)⟩) Go.Proofs.Try.func66 rfl rfl (fun x y h => (Z.f66eq x).trans h) (by decide)
def Z.f67sig : Sig := ⟨⟨[.ptr 0 0, .hole (.int .i64), .hole (.int .i64), .hole (.int .i64)], [.cells [.hole (.sl (.int .i64)), .hole (.int .i64), .own 1], .arr 30 (.st (.pair (.int .i64) (.pair (.int .i64) (.pair (.int .i64) (.pair (.int .i64) (.int .i64))))))]⟩, ⟨[], [.cells [.hole (.sl (.int .i64)), .hole (.int .i64), .own 2], .gone, .arr 30 (.st (.pair (.int .i64) (.pair (.int .i64) (.pair (.int .i64) (.pair (.int .i64) (.int .i64))))))]⟩⟩
noncomputable def Z.f67Γ : List Con := [Z.f65con, Z.f64con]
def Z.f67ann : Ann :=
  (.seq .leaf (.seq .leaf (.seq .leaf (.cond .leaf .leaf))))
noncomputable def Z.f67F : Int × Int × Int × List Int × Int × List (Int × Int × Int × Int × Int) → Option (List Int × Int × List (Int × Int × Int × Int × Int)) :=
  fun (x : Int × Int × Int × List Int × Int × List (Int × Int × Int × Int × Int)) =>
  Option.bind (Go.Sx.Z.f65F (((6 : Int), (0 : Int), x.snd.1, x.snd.snd.1, x.1), x.snd.snd.snd.1, x.snd.snd.snd.snd.1, x.snd.snd.snd.snd.2))
    fun (v1 : List Int × Int × List (Int × Int × Int × Int × Int)) =>
    Option.bind (Go.Sx.Z.f64F ((63 : Int), v1.1, v1.snd.1, v1.snd.2)) fun (v2 : Bool × List Int × Int × List (Int × Int × Int × Int × Int)) =>
      if v2.fst = Bool.true then
        Option.bind (Go.Sx.Z.f65F (((13 : Int), (0 : Int), (0 : Int), (0 : Int), v1.snd.1), v2.snd.1, v2.snd.snd.1, v2.snd.snd.2)) fun (v3 : List Int × Int × List (Int × Int × Int × Int × Int)) =>
          Option.some (v3.1, v3.snd.1, v3.snd.2)
      else Option.some (v2.snd.1, v2.snd.snd.1, v2.snd.snd.2)
theorem Z.f67eq : ∀ x, runFn Z.C Z.f67Γ Z.f67sig Z.f67ann Go.Proofs.Try.f67 x = Z.f67F x := by
  intro x
  kernel_rfl
noncomputable def Z.f67con : Con := ⟨67, Z.f67sig, Z.f67F⟩
theorem Z.f67ok : Con.Ok Go.Proofs.Try.prog Z.C Z.f67con :=
  runFn_ok (Γ := Z.f67Γ) (an := Z.f67ann) ⟨Z.Cok, (List.forall_mem_cons.2 ⟨Z.f65ok, (List.forall_mem_cons.2 ⟨Z.f64ok, (fun _ h => nomatch h)⟩)⟩), Z.mixed⟩ Go.Proofs.Try.func67 rfl rfl (fun x y h => (Z.f67eq x).trans h) (by decide)
def Z.f20sig : Sig := ⟨⟨[.hole (.int .i64)], []⟩, ⟨[.hole .bool], []⟩⟩
noncomputable def Z.f20Γ : List Con := [Z.f45con]
def Z.f20ann : Ann :=
  (.seq .leaf (.seq .leaf .leaf))
noncomputable def Z.f20F : Int → Option (Bool) :=
  fun (x : Int) =>
  Option.bind
    (Go.Sx.Z.f45F
      (x,
        {
          data :=
            #[(46 : UInt8), (40 : UInt8), (41 : UInt8), (124 : UInt8), (94 : UInt8), (36 : UInt8), (63 : UInt8), (42 : UInt8), (43 : UInt8), (123 : UInt8), (125 : UInt8), (91 : UInt8), (93 : UInt8),
              (45 : UInt8), (47 : UInt8), (92 : UInt8)] :
          ByteArray }))
    fun (v1 : Bool) => Option.some v1
theorem Z.f20eq : ∀ x, runFn Z.C Z.f20Γ Z.f20sig Z.f20ann Go.Proofs.Try.f20 x = Z.f20F x := by
  intro x
  kernel_rfl
noncomputable def Z.f20con : Con := ⟨20, Z.f20sig, Z.f20F⟩
theorem Z.f20ok : Con.Ok Go.Proofs.Try.prog Z.C Z.f20con :=
  runFn_ok (Γ := Z.f20Γ) (an := Z.f20ann) ⟨Z.Cok, (List.forall_mem_cons.2 ⟨Z.f45ok, (fun _ h => nomatch h)⟩), Z.mixed⟩ Go.Proofs.Try.func20 rfl rfl (fun x y h => (Z.f20eq x).trans h) (by decide)
def Z.f19sig : Sig := ⟨⟨[.hole (.int .i64)], []⟩, ⟨[.hole (.int .i64), .hole .bool, .hole .bool], []⟩⟩
noncomputable def Z.f19Γ : List Con := [Z.f45con, Z.f20con]
def Z.f19ann : Ann :=
  (.seq .leaf (.seq (.block (.seq .leaf (.cond (.seq .leaf .leaf) (.seq .leaf (.cond (.seq .leaf .leaf) (.seq .leaf (.cond (.seq .leaf .leaf) (.seq .leaf (.cond (.seq .leaf .leaf) .leaf))))))))) (.seq .leaf .leaf)))
noncomputable def Z.f19F : Int → Option (Int × Bool × Bool) :=
  fun (x : Int) =>
  if (x == (110 : Int)) = Bool.true then Option.some ((10 : Int), Bool.false, Bool.true)
  else
    if (x == (116 : Int)) = Bool.true then Option.some ((9 : Int), Bool.false, Bool.true)
    else
      Option.bind (Go.Sx.Z.f45F (x, { data := #[(100 : UInt8), (119 : UInt8), (115 : UInt8), (68 : UInt8), (87 : UInt8), (83 : UInt8)] : ByteArray })) fun (v1 : Bool) =>
        if v1 = Bool.true then Option.some (x, Bool.true, Bool.true)
        else Option.bind (Go.Sx.Z.f20F x) fun (v2 : Bool) => if v2 = Bool.true then Option.some (x, Bool.false, Bool.true) else Option.some ((0 : Int), Bool.false, Bool.false)
theorem Z.f19eq : ∀ x, runFn Z.C Z.f19Γ Z.f19sig Z.f19ann Go.Proofs.Try.f19 x = Z.f19F x := by
  intro x
  kernel_rfl
noncomputable def Z.f19con : Con := ⟨19, Z.f19sig, Z.f19F⟩
theorem Z.f19ok : Con.Ok Go.Proofs.Try.prog Z.C Z.f19con :=
  runFn_ok (Γ := Z.f19Γ) (an := Z.f19ann) ⟨Z.Cok, (List.forall_mem_cons.2 ⟨Z.f45ok, (List.forall_mem_cons.2 ⟨Z.f20ok, (fun _ h => nomatch h)⟩)⟩), Z.mixed⟩ Go.Proofs.Try.func19 rfl rfl (fun x y h => (Z.f19eq x).trans h) (by decide)
def Z.f80sig : Sig := ⟨⟨[.ptr 0 0], [.cells [.hole (.sl (.int .i64)), .hole (.int .i64), .own 1], .arr 30 (.st (.pair (.int .i64) (.pair (.int .i64) (.pair (.int .i64) (.pair (.int .i64) (.int .i64))))))]⟩, ⟨[.hole (.int .i64), .hole .bool], [.cells [.hole (.sl (.int .i64)), .hole (.int .i64), .own 2], .gone, .arr 30 (.st (.pair (.int .i64) (.pair (.int .i64) (.pair (.int .i64) (.pair (.int .i64) (.int .i64))))))]⟩⟩
noncomputable def Z.f80Γ : List Con := [Z.f19con]
noncomputable def Z.f80Θ : List PCon := [Z.f70p]
def Z.f80ann : Ann :=
  (.seq .leaf (.seq .leaf (.seq (.callp 1) (.seq .leaf (.seq (.seq .leaf (.cond (.seq .leaf .leaf) .leaf)) (.seq (.callp 1) (.seq (.seq .leaf (.cond .throw .leaf)) (.seq .leaf (.seq .leaf .leaf)))))))))
noncomputable def Z.f80F : List Int × Int × List (Int × Int × Int × Int × Int) → Option ((Int × Bool × List Int × Int × List (Int × Int × Int × Int × Int)) ⊕ (Int × Int)) :=
  fun (x : List Int × Int × List (Int × Int × Int × Int × Int)) =>
  Option.bind (Go.Sx.Z.f70F (x.1, x.snd.1, x.snd.2)) fun (v1 : Int ⊕ Int × Int) =>
    Sum.elim
      (fun (p2 : Int) =>
        if (p2 != (92 : Int)) = Bool.true then Option.some (Sum.inl (p2, Bool.false, x.1, Go.IntKind.wrap Go.IntKind.i64 (x.snd.fst + (1 : Int)), x.snd.2))
        else
          Option.bind (Go.Sx.Z.f70F (x.1, Go.IntKind.wrap Go.IntKind.i64 (x.snd.fst + (1 : Int)), x.snd.2)) fun (v3 : Int ⊕ Int × Int) =>
            Sum.elim
              (fun (p4 : Int) =>
                Option.bind (Go.Sx.Z.f19F p4) fun (v5 : Int × Bool × Bool) =>
                  if (!v5.snd.snd) = Bool.true then Option.some (Sum.inr (x.snd.1, (6 : Int)))
                  else Option.some (Sum.inl (v5.1, v5.snd.1, x.1, Go.IntKind.wrap Go.IntKind.i64 (Go.IntKind.wrap Go.IntKind.i64 (x.snd.fst + (1 : Int)) + (1 : Int)), x.snd.2)))
              (fun (q4 : Int × Int) => Option.some (Sum.inr q4)) v3)
      (fun (q2 : Int × Int) => Option.some (Sum.inr q2)) v1
theorem Z.f80eq : ∀ x, runFnP Z.C Z.f80Γ Z.f80Θ Z.f80sig 59 (.st (.pair (.int .i64) (.int .i64))) Z.f80ann Go.Proofs.Try.f80 x = Z.f80F x := by
  intro x
  kernel_rfl
noncomputable def Z.f80p : PCon := ⟨80, Z.f80sig, 59, (.st (.pair (.int .i64) (.int .i64))), Z.f80F⟩
theorem Z.f80ok : PCon.Ok Go.Proofs.Try.prog Z.C Z.f80p :=
  runFnP_ok (Γ := Z.f80Γ) (Θ := Z.f80Θ) (an := Z.f80ann) ⟨Z.Cok, (List.forall_mem_cons.2 ⟨Z.f19ok, (fun _ h => nomatch h)⟩), Z.mixed⟩ (List.forall_mem_cons.2 ⟨Z.f70ok, (fun _ h => nomatch h)⟩) Go.Proofs.Try.func80 rfl rfl (fun x y h => (Z.f80eq x).trans h) (by decide)
def Z.f69sig : Sig := ⟨⟨[.ptr 0 0], [.cells [.hole (.sl (.int .i64)), .hole (.int .i64), .own 1], .arr 30 (.st (.pair (.int .i64) (.pair (.int .i64) (.pair (.int .i64) (.pair (.int .i64) (.int .i64))))))]⟩, ⟨[.hole (.st (.pair (.int .i64) (.pair (.int .i64) (.pair (.int .i64) (.pair (.int .i64) (.int .i64))))))], [.cells [.hole (.sl (.int .i64)), .hole (.int .i64), .own 2], .gone, .arr 30 (.st (.pair (.int .i64) (.pair (.int .i64) (.pair (.int .i64) (.pair (.int .i64) (.int .i64))))))]⟩⟩
noncomputable def Z.f69Γ : List Con := []
noncomputable def Z.f69Θ : List PCon := [Z.f80p]
def Z.f69ann : Ann :=
  (.seq .leaf (.seq .leaf (.seq (.callp 1) (.seq (.seq .leaf (.seq .leaf (.cond .leaf .leaf))) (.seq .leaf .leaf)))))
noncomputable def Z.f69F : List Int × Int × List (Int × Int × Int × Int × Int) → Option (((Int × Int × Int × Int × Int) × List Int × Int × List (Int × Int × Int × Int × Int)) ⊕ (Int × Int)) :=
  fun (x : List Int × Int × List (Int × Int × Int × Int × Int)) =>
  Option.bind (Go.Sx.Z.f80F (x.1, x.snd.1, x.snd.2)) fun (v1 : Int × Bool × List Int × Int × List (Int × Int × Int × Int × Int) ⊕ Int × Int) =>
    Sum.elim
      (fun (p2 : Int × Bool × List Int × Int × List (Int × Int × Int × Int × Int)) =>
        if p2.snd.fst = Bool.true then Option.some (Sum.inl (((12 : Int), p2.1, (0 : Int), (0 : Int), x.snd.1), p2.snd.snd.1, p2.snd.snd.snd.1, p2.snd.snd.snd.2))
        else Option.some (Sum.inl (((1 : Int), p2.1, (0 : Int), (0 : Int), x.snd.1), p2.snd.snd.1, p2.snd.snd.snd.1, p2.snd.snd.snd.2)))
      (fun (q2 : Int × Int) => Option.some (Sum.inr q2)) v1
theorem Z.f69eq : ∀ x, runFnP Z.C Z.f69Γ Z.f69Θ Z.f69sig 59 (.st (.pair (.int .i64) (.int .i64))) Z.f69ann Go.Proofs.Try.f69 x = Z.f69F x := by
  intro x
  kernel_rfl
noncomputable def Z.f69p : PCon := ⟨69, Z.f69sig, 59, (.st (.pair (.int .i64) (.int .i64))), Z.f69F⟩
theorem Z.f69ok : PCon.Ok Go.Proofs.Try.prog Z.C Z.f69p :=
  runFnP_ok (Γ := Z.f69Γ) (Θ := Z.f69Θ) (an := Z.f69ann) ⟨Z.Cok, (fun _ h => nomatch h), Z.mixed⟩ (List.forall_mem_cons.2 ⟨Z.f80ok, (fun _ h => nomatch h)⟩) Go.Proofs.Try.func69 rfl rfl (fun x y h => (Z.f69eq x).trans h) (by decide)
def Z.f71sig : Sig := ⟨⟨[.ptr 0 0], [.cells [.hole (.sl (.int .i64)), .hole (.int .i64), .own 1], .arr 30 (.st (.pair (.int .i64) (.pair (.int .i64) (.pair (.int .i64) (.pair (.int .i64) (.int .i64))))))]⟩, ⟨[.hole (.st (.pair (.int .i64) (.pair (.int .i64) (.pair (.int .i64) (.pair (.int .i64) (.int .i64))))))], [.cells [.hole (.sl (.int .i64)), .hole (.int .i64), .own 2], .gone, .arr 30 (.st (.pair (.int .i64) (.pair (.int .i64) (.pair (.int .i64) (.pair (.int .i64) (.int .i64))))))]⟩⟩
noncomputable def Z.f71Γ : List Con := []
noncomputable def Z.f71Θ : List PCon := [Z.f69p]
def Z.f71ann : Ann :=
  (.seq .leaf (.seq (.callp 1) (.seq (.seq (.join [⟨.normal, [(49, .hole .bool)], [.cells [.hole (.sl (.int .i64)), .hole (.int .i64), .own 3], .gone, .cells [.hole (.int .i64), .hole (.int .i64), .hole (.int .i64), .hole (.int .i64), .hole (.int .i64)], .arr 30 (.st (.pair (.int .i64) (.pair (.int .i64) (.pair (.int .i64) (.pair (.int .i64) (.int .i64)))))), .cells [.hole (.int .i64), .hole (.int .i64), .hole (.int .i64), .hole (.int .i64), .hole (.int .i64)]]⟩] .leaf) (.cond (.seq .leaf .leaf) .leaf)) (.seq .leaf (.seq (.callp 1) (.seq (.block (.seq .leaf (.cond .throw (.seq .leaf (.cond .throw .leaf))))) (.seq .leaf .leaf)))))))
noncomputable def Z.f71F : List Int × Int × List (Int × Int × Int × Int × Int) → Option (((Int × Int × Int × Int × Int) × List Int × Int × List (Int × Int × Int × Int × Int)) ⊕ (Int × Int)) :=
  fun (x : List Int × Int × List (Int × Int × Int × Int × Int)) =>
  Option.bind (Go.Sx.Z.f69F (x.1, x.snd.1, x.snd.2)) fun (v1 : (Int × Int × Int × Int × Int) × List Int × Int × List (Int × Int × Int × Int × Int) ⊕ Int × Int) =>
    Sum.elim
      (fun (p2 : (Int × Int × Int × Int × Int) × List Int × Int × List (Int × Int × Int × Int × Int)) =>
        Option.bind
          (if (p2.fst.fst == (12 : Int)) = Bool.true then
            Option.some
              (Bool.true, p2.snd.1, p2.snd.snd.1, (0 : Int), (0 : Int), (0 : Int), (0 : Int), (0 : Int), p2.snd.snd.2, p2.fst.1, p2.fst.snd.1, p2.fst.snd.snd.1, p2.fst.snd.snd.snd.1,
                p2.fst.snd.snd.snd.2)
          else
            if Decidable.decide (Go.IntKind.wrap Go.IntKind.i64 (p2.snd.snd.fst + (1 : Int)) ≥ (↑(List.length p2.snd.fst) : Int)) = Bool.true then
              Option.some
                (Bool.true, p2.snd.1, p2.snd.snd.1, (0 : Int), (0 : Int), (0 : Int), (0 : Int), (0 : Int), p2.snd.snd.2, p2.fst.1, p2.fst.snd.1, p2.fst.snd.snd.1, p2.fst.snd.snd.snd.1,
                  p2.fst.snd.snd.snd.2)
            else
              if (0 : Int) ≤ p2.snd.snd.fst ∧ p2.snd.snd.fst < (↑(List.length p2.snd.fst) : Int) then
                if (List.getD p2.snd.fst (Int.toNat p2.snd.snd.fst) (0 : Int) != (45 : Int)) = Bool.true then
                  Option.some
                    (Bool.true, p2.snd.1, p2.snd.snd.1, (0 : Int), (0 : Int), (0 : Int), (0 : Int), (0 : Int), p2.snd.snd.2, p2.fst.1, p2.fst.snd.1, p2.fst.snd.snd.1, p2.fst.snd.snd.snd.1,
                      p2.fst.snd.snd.snd.2)
                else
                  if (0 : Int) ≤ Go.IntKind.wrap Go.IntKind.i64 (p2.snd.snd.fst + (1 : Int)) ∧ Go.IntKind.wrap Go.IntKind.i64 (p2.snd.snd.fst + (1 : Int)) < (↑(List.length p2.snd.fst) : Int) then
                    Option.some
                      (List.getD p2.snd.fst (Int.toNat (Go.IntKind.wrap Go.IntKind.i64 (p2.snd.snd.fst + (1 : Int)))) (0 : Int) == (93 : Int), p2.snd.1, p2.snd.snd.1, (0 : Int), (0 : Int), (0 : Int),
                        (0 : Int), (0 : Int), p2.snd.snd.2, p2.fst.1, p2.fst.snd.1, p2.fst.snd.snd.1, p2.fst.snd.snd.snd.1, p2.fst.snd.snd.snd.2)
                  else Option.none
              else Option.none)
          fun (v3 : Bool × List Int × Int × Int × Int × Int × Int × Int × List (Int × Int × Int × Int × Int) × Int × Int × Int × Int × Int) =>
          if v3.fst = Bool.true then
            Option.some
              (Sum.inl
                ((v3.snd.snd.snd.snd.snd.snd.snd.snd.snd.1, v3.snd.snd.snd.snd.snd.snd.snd.snd.snd.snd.1, v3.snd.snd.snd.snd.snd.snd.snd.snd.snd.snd.snd.1,
                    v3.snd.snd.snd.snd.snd.snd.snd.snd.snd.snd.snd.snd.1, v3.snd.snd.snd.snd.snd.snd.snd.snd.snd.snd.snd.snd.2),
                  v3.snd.1, v3.snd.snd.1, v3.snd.snd.snd.snd.snd.snd.snd.snd.1))
          else
            Option.bind (Go.Sx.Z.f69F (v3.snd.1, Go.IntKind.wrap Go.IntKind.i64 (v3.snd.snd.fst + (1 : Int)), v3.snd.snd.snd.snd.snd.snd.snd.snd.1))
              fun (v4 : (Int × Int × Int × Int × Int) × List Int × Int × List (Int × Int × Int × Int × Int) ⊕ Int × Int) =>
              Sum.elim
                (fun (p5 : (Int × Int × Int × Int × Int) × List Int × Int × List (Int × Int × Int × Int × Int)) =>
                  if (p5.fst.fst == (12 : Int)) = Bool.true then Option.some (Sum.inr (p5.fst.snd.snd.snd.2, (7 : Int)))
                  else
                    if Decidable.decide (p5.fst.snd.fst < v3.snd.snd.snd.snd.snd.snd.snd.snd.snd.snd.fst) = Bool.true then
                      Option.some (Sum.inr (v3.snd.snd.snd.snd.snd.snd.snd.snd.snd.snd.snd.snd.2, (7 : Int)))
                    else
                      Option.some
                        (Sum.inl
                          (((9 : Int), (0 : Int), v3.snd.snd.snd.snd.snd.snd.snd.snd.snd.snd.1, p5.fst.snd.1, v3.snd.snd.snd.snd.snd.snd.snd.snd.snd.snd.snd.snd.2), p5.snd.1, p5.snd.snd.1,
                            p5.snd.snd.2)))
                (fun (q5 : Int × Int) => Option.some (Sum.inr q5)) v4)
      (fun (q2 : Int × Int) => Option.some (Sum.inr q2)) v1
theorem Z.f71eq : ∀ x, runFnP Z.C Z.f71Γ Z.f71Θ Z.f71sig 59 (.st (.pair (.int .i64) (.int .i64))) Z.f71ann Go.Proofs.Try.f71 x = Z.f71F x := by
  intro x
  kernel_rfl
noncomputable def Z.f71p : PCon := ⟨71, Z.f71sig, 59, (.st (.pair (.int .i64) (.int .i64))), Z.f71F⟩
theorem Z.f71ok : PCon.Ok Go.Proofs.Try.prog Z.C Z.f71p :=
  runFnP_ok (Γ := Z.f71Γ) (Θ := Z.f71Θ) (an := Z.f71ann) ⟨Z.Cok, (fun _ h => nomatch h), Z.mixed⟩ (List.forall_mem_cons.2 ⟨Z.f69ok, (fun _ h => nomatch h)⟩) Go.Proofs.Try.func71 rfl rfl (fun x y h => (Z.f71eq x).trans h) (by decide)
def Z.f44sig : Sig := ⟨⟨[.ptr 0 0], [.cells [.hole (.sl (.int .i64)), .hole (.int .i64), .own 1], .arr 30 (.st (.pair (.int .i64) (.pair (.int .i64) (.pair (.int .i64) (.pair (.int .i64) (.int .i64))))))]⟩, ⟨[], [.cells [.hole (.sl (.int .i64)), .hole (.int .i64), .own 2], .gone, .arr 30 (.st (.pair (.int .i64) (.pair (.int .i64) (.pair (.int .i64) (.pair (.int .i64) (.int .i64))))))]⟩⟩
noncomputable def Z.f44Γ : List Con := [Z.f64con, Z.f65con, Z.f67con, Z.f68con]
noncomputable def Z.f44Θ : List PCon := [Z.f66p, Z.f69p, Z.f70p, Z.f71p]
def Z.f44ann : Ann :=
  (.scope2 [⟨(.goto 0), [], [.cells [.hole (.sl (.int .i64)), .hole (.int .i64), .own 2], .gone, .arr 30 (.st (.pair (.int .i64) (.pair (.int .i64) (.pair (.int .i64) (.pair (.int .i64) (.int .i64))))))]⟩, ⟨(.goto 1), [], [.cells [.hole (.sl (.int .i64)), .hole (.int .i64), .own 2], .gone, .arr 30 (.st (.pair (.int .i64) (.pair (.int .i64) (.pair (.int .i64) (.pair (.int .i64) (.int .i64))))))]⟩] [⟨.ret, [], [.cells [.hole (.sl (.int .i64)), .hole (.int .i64), .own 2], .gone, .arr 30 (.st (.pair (.int .i64) (.pair (.int .i64) (.pair (.int .i64) (.pair (.int .i64) (.int .i64))))))]⟩, ⟨(.panic 59), [(0, .hole (.st (.pair (.int .i64) (.int .i64))))], []⟩] (.seq .leaf (.seq .leaf (.seq (.seq .leaf (.seq .leaf (.cond .leaf .leaf))) (.seq (.join [⟨(.goto 1), [], [.cells [.hole (.sl (.int .i64)), .hole (.int .i64), .own 2], .gone, .arr 30 (.st (.pair (.int .i64) (.pair (.int .i64) (.pair (.int .i64) (.pair (.int .i64) (.int .i64))))))]⟩, ⟨(.panic 59), [(0, .hole (.st (.pair (.int .i64) (.int .i64))))], []⟩, ⟨.normal, [], [.cells [.hole (.sl (.int .i64)), .hole (.int .i64), .own 2], .gone, .arr 30 (.st (.pair (.int .i64) (.pair (.int .i64) (.pair (.int .i64) (.pair (.int .i64) (.int .i64))))))]⟩] (.seq .leaf (.seq .leaf (.block (.seq .leaf (.cond (.seq .leaf (.seq .leaf (.seq (.seq .leaf (.cond .leaf .leaf)) (.seq .leaf .leaf)))) (.seq .leaf (.cond (.seq .leaf (.seq (.callp 1) (.seq (.seq .leaf (.cond .throw .leaf)) .leaf))) (.seq (.join [⟨.normal, [(75, .hole .bool)], [.cells [.hole (.sl (.int .i64)), .hole (.int .i64), .own 1], .arr 30 (.st (.pair (.int .i64) (.pair (.int .i64) (.pair (.int .i64) (.pair (.int .i64) (.int .i64))))))]⟩] (.seq .leaf (.cond .leaf (.seq .leaf (.cond .leaf .leaf))))) (.cond (.seq .leaf (.seq .leaf (.seq (.seq .leaf (.block (.seq .leaf (.cond .leaf (.seq .leaf (.cond .leaf .leaf)))))) .leaf))) (.seq (.join [⟨.normal, [(96, .hole .bool)], [.cells [.hole (.sl (.int .i64)), .hole (.int .i64), .own 1], .arr 30 (.st (.pair (.int .i64) (.pair (.int .i64) (.pair (.int .i64) (.pair (.int .i64) (.int .i64))))))]⟩] (.seq .leaf (.cond .leaf (.seq .leaf (.cond .leaf (.seq .leaf (.cond .leaf .leaf))))))) (.cond (.seq .leaf .leaf) (.seq (.join [⟨.normal, [(116, .hole .bool)], [.cells [.hole (.sl (.int .i64)), .hole (.int .i64), .own 1], .arr 30 (.st (.pair (.int .i64) (.pair (.int .i64) (.pair (.int .i64) (.pair (.int .i64) (.int .i64))))))]⟩] (.seq .leaf (.cond .leaf .leaf))) (.cond (.seq .leaf .leaf) (.callp 2))))))))))))))) (.seq .leaf .leaf))))) (.seq .leaf (.seq (.seq .leaf (.seq .leaf (.cond .leaf .leaf))) (.seq (.join [⟨(.goto 1), [], [.cells [.hole (.sl (.int .i64)), .hole (.int .i64), .own 3], .gone, .gone, .arr 30 (.st (.pair (.int .i64) (.pair (.int .i64) (.pair (.int .i64) (.pair (.int .i64) (.int .i64))))))]⟩, ⟨(.panic 59), [(0, .hole (.st (.pair (.int .i64) (.int .i64))))], []⟩, ⟨.normal, [], [.cells [.hole (.sl (.int .i64)), .hole (.int .i64), .own 3], .gone, .gone, .arr 30 (.st (.pair (.int .i64) (.pair (.int .i64) (.pair (.int .i64) (.pair (.int .i64) (.int .i64))))))]⟩] (.seq .leaf (.seq .leaf (.block (.seq .leaf (.cond (.seq .leaf (.seq .leaf (.seq (.seq .leaf (.cond .leaf .leaf)) (.seq .leaf .leaf)))) (.seq .leaf (.cond (.seq .leaf (.seq (.callp 1) (.seq (.seq .leaf (.cond .throw .leaf)) .leaf))) (.seq (.join [⟨.normal, [(75, .hole .bool)], [.cells [.hole (.sl (.int .i64)), .hole (.int .i64), .own 2], .gone, .arr 30 (.st (.pair (.int .i64) (.pair (.int .i64) (.pair (.int .i64) (.pair (.int .i64) (.int .i64))))))]⟩] (.seq .leaf (.cond .leaf (.seq .leaf (.cond .leaf .leaf))))) (.cond (.seq .leaf (.seq .leaf (.seq (.seq .leaf (.block (.seq .leaf (.cond .leaf (.seq .leaf (.cond .leaf .leaf)))))) .leaf))) (.seq (.join [⟨.normal, [(96, .hole .bool)], [.cells [.hole (.sl (.int .i64)), .hole (.int .i64), .own 2], .gone, .arr 30 (.st (.pair (.int .i64) (.pair (.int .i64) (.pair (.int .i64) (.pair (.int .i64) (.int .i64))))))]⟩] (.seq .leaf (.cond .leaf (.seq .leaf (.cond .leaf (.seq .leaf (.cond .leaf .leaf))))))) (.cond (.seq .leaf .leaf) (.seq (.join [⟨.normal, [(116, .hole .bool)], [.cells [.hole (.sl (.int .i64)), .hole (.int .i64), .own 2], .gone, .arr 30 (.st (.pair (.int .i64) (.pair (.int .i64) (.pair (.int .i64) (.pair (.int .i64) (.int .i64))))))]⟩] (.seq .leaf (.cond .leaf .leaf))) (.cond (.seq .leaf .leaf) (.callp 2))))))))))))))) (.seq .leaf .leaf)))) (.seq .leaf (.seq .leaf (.seq (.seq (.callp 1) (.seq .leaf (.cond (.seq .leaf .leaf) .leaf))) (.seq (.callp 2) .leaf)))))
noncomputable def Z.f44F : List Int × Int × List (Int × Int × Int × Int × Int) → Option ((List Int × Int × List (Int × Int × Int × Int × Int)) ⊕ (Int × Int)) :=
  fun (x : List Int × Int × List (Int × Int × Int × Int × Int)) =>
  Option.bind
    (Option.bind
      (if Decidable.decide (x.snd.fst ≥ (↑(List.length x.fst) : Int)) = Bool.true then Option.some (Sum.inr (Sum.inl (x.1, x.snd.1, x.snd.2)))
      else
        Option.bind
          (if (0 : Int) ≤ x.snd.fst ∧ x.snd.fst < (↑(List.length x.fst) : Int) then
            if (List.getD x.fst (Int.toNat x.snd.fst) (0 : Int) == (91 : Int)) = Bool.true then
              Option.bind (Go.Sx.Z.f64F ((94 : Int), x.1, Go.IntKind.wrap Go.IntKind.i64 (x.snd.fst + (1 : Int)), x.snd.2)) fun (v1 : Bool × List Int × Int × List (Int × Int × Int × Int × Int)) =>
                if v1.fst = Bool.true then
                  Option.bind (Go.Sx.Z.f65F (((7 : Int), (1 : Int), (0 : Int), (0 : Int), x.snd.1), v1.snd.1, v1.snd.snd.1, v1.snd.snd.2))
                    fun (v2 : List Int × Int × List (Int × Int × Int × Int × Int)) => Option.some (Sum.inl (v2.1, v2.snd.1, v2.snd.2))
                else
                  Option.bind (Go.Sx.Z.f65F (((7 : Int), (0 : Int), (0 : Int), (0 : Int), x.snd.1), v1.snd.1, v1.snd.snd.1, v1.snd.snd.2))
                    fun (v2 : List Int × Int × List (Int × Int × Int × Int × Int)) => Option.some (Sum.inl (v2.1, v2.snd.1, v2.snd.2))
            else
              if (List.getD x.fst (Int.toNat x.snd.fst) (0 : Int) == (123 : Int)) = Bool.true then
                Option.bind (Go.Sx.Z.f66F (x.1, Go.IntKind.wrap Go.IntKind.i64 (x.snd.fst + (1 : Int)), x.snd.2))
                  fun (v1 : Int × Int × Bool × List Int × Int × List (Int × Int × Int × Int × Int) ⊕ Int × Int) =>
                  Sum.elim
                    (fun (p2 : Int × Int × Bool × List Int × Int × List (Int × Int × Int × Int × Int)) =>
                      if (!p2.snd.snd.fst) = Bool.true then Option.some (Sum.inr (Sum.inl (x.snd.1, (8 : Int))))
                      else
                        Option.bind (Go.Sx.Z.f67F (x.snd.1, p2.1, p2.snd.1, p2.snd.snd.snd.1, p2.snd.snd.snd.snd.1, p2.snd.snd.snd.snd.2))
                          fun (v3 : List Int × Int × List (Int × Int × Int × Int × Int)) => Option.some (Sum.inr (Sum.inr (v3.1, v3.snd.1, v3.snd.2))))
                    (fun (q2 : Int × Int) => Option.some (Sum.inr (Sum.inl q2))) v1
              else
                Option.bind
                  (if (List.getD x.fst (Int.toNat x.snd.fst) (0 : Int) == (63 : Int)) = Bool.true then Option.some (Bool.true, x.1, x.snd.1, x.snd.2)
                  else
                    if (List.getD x.fst (Int.toNat x.snd.fst) (0 : Int) == (42 : Int)) = Bool.true then Option.some (Bool.true, x.1, x.snd.1, x.snd.2)
                    else Option.some (List.getD x.fst (Int.toNat x.snd.fst) (0 : Int) == (43 : Int), x.1, x.snd.1, x.snd.2))
                  fun (v1 : Bool × List Int × Int × List (Int × Int × Int × Int × Int)) =>
                  if v1.fst = Bool.true then
                    if (List.getD x.fst (Int.toNat x.snd.fst) (0 : Int) == (63 : Int)) = Bool.true then
                      Option.bind (Go.Sx.Z.f67F (x.snd.1, (0 : Int), (1 : Int), v1.snd.1, Go.IntKind.wrap Go.IntKind.i64 (v1.snd.snd.fst + (1 : Int)), v1.snd.snd.2))
                        fun (v2 : List Int × Int × List (Int × Int × Int × Int × Int)) => Option.some (Sum.inr (Sum.inr (v2.1, v2.snd.1, v2.snd.2)))
                    else
                      if (List.getD x.fst (Int.toNat x.snd.fst) (0 : Int) == (43 : Int)) = Bool.true then
                        Option.bind (Go.Sx.Z.f67F (x.snd.1, (1 : Int), (-1 : Int), v1.snd.1, Go.IntKind.wrap Go.IntKind.i64 (v1.snd.snd.fst + (1 : Int)), v1.snd.snd.2))
                          fun (v2 : List Int × Int × List (Int × Int × Int × Int × Int)) => Option.some (Sum.inr (Sum.inr (v2.1, v2.snd.1, v2.snd.2)))
                      else
                        Option.bind (Go.Sx.Z.f67F (x.snd.1, (0 : Int), (-1 : Int), v1.snd.1, Go.IntKind.wrap Go.IntKind.i64 (v1.snd.snd.fst + (1 : Int)), v1.snd.snd.2))
                          fun (v2 : List Int × Int × List (Int × Int × Int × Int × Int)) => Option.some (Sum.inr (Sum.inr (v2.1, v2.snd.1, v2.snd.2)))
                  else
                    Option.bind
                      (if (List.getD x.fst (Int.toNat x.snd.fst) (0 : Int) == (46 : Int)) = Bool.true then Option.some (Bool.true, v1.snd.1, v1.snd.snd.1, v1.snd.snd.2)
                      else
                        if (List.getD x.fst (Int.toNat x.snd.fst) (0 : Int) == (40 : Int)) = Bool.true then Option.some (Bool.true, v1.snd.1, v1.snd.snd.1, v1.snd.snd.2)
                        else
                          if (List.getD x.fst (Int.toNat x.snd.fst) (0 : Int) == (41 : Int)) = Bool.true then Option.some (Bool.true, v1.snd.1, v1.snd.snd.1, v1.snd.snd.2)
                          else Option.some (List.getD x.fst (Int.toNat x.snd.fst) (0 : Int) == (124 : Int), v1.snd.1, v1.snd.snd.1, v1.snd.snd.2))
                      fun (v2 : Bool × List Int × Int × List (Int × Int × Int × Int × Int)) =>
                      if v2.fst = Bool.true then
                        Option.bind
                          (Go.Sx.Z.f68F
                            ({ data := #[(46 : UInt8), (40 : UInt8), (41 : UInt8), (124 : UInt8)] : ByteArray }, Go.IntKind.wrap Go.IntKind.u8 (List.getD x.fst (Int.toNat x.snd.fst) (0 : Int))))
                          fun (v3 : Int) =>
                          Option.bind
                            (Go.Sx.Z.f65F
                              ((Go.IntKind.wrap Go.IntKind.i64 ((2 : Int) + v3), (0 : Int), (0 : Int), (0 : Int), x.snd.1), v2.snd.1, Go.IntKind.wrap Go.IntKind.i64 (v2.snd.snd.fst + (1 : Int)),
                                v2.snd.snd.2))
                            fun (v4 : List Int × Int × List (Int × Int × Int × Int × Int)) => Option.some (Sum.inr (Sum.inr (v4.1, v4.snd.1, v4.snd.2)))
                      else
                        Option.bind
                          (if (List.getD x.fst (Int.toNat x.snd.fst) (0 : Int) == (94 : Int)) = Bool.true then Option.some (Bool.true, v2.snd.1, v2.snd.snd.1, v2.snd.snd.2)
                          else Option.some (List.getD x.fst (Int.toNat x.snd.fst) (0 : Int) == (36 : Int), v2.snd.1, v2.snd.snd.1, v2.snd.snd.2))
                          fun (v3 : Bool × List Int × Int × List (Int × Int × Int × Int × Int)) =>
                          if v3.fst = Bool.true then
                            Option.bind (Go.Sx.Z.f68F ({ data := #[(94 : UInt8), (36 : UInt8)] : ByteArray }, Go.IntKind.wrap Go.IntKind.u8 (List.getD x.fst (Int.toNat x.snd.fst) (0 : Int))))
                              fun (v4 : Int) =>
                              Option.bind
                                (Go.Sx.Z.f65F
                                  ((Go.IntKind.wrap Go.IntKind.i64 ((10 : Int) + v4), (0 : Int), (0 : Int), (0 : Int), x.snd.1), v3.snd.1, Go.IntKind.wrap Go.IntKind.i64 (v3.snd.snd.fst + (1 : Int)),
                                    v3.snd.snd.2))
                                fun (v5 : List Int × Int × List (Int × Int × Int × Int × Int)) => Option.some (Sum.inr (Sum.inr (v5.1, v5.snd.1, v5.snd.2)))
                          else
                            Option.bind (Go.Sx.Z.f69F (v3.snd.1, v3.snd.snd.1, v3.snd.snd.2))
                              fun (v4 : (Int × Int × Int × Int × Int) × List Int × Int × List (Int × Int × Int × Int × Int) ⊕ Int × Int) =>
                              Sum.elim
                                (fun (p5 : (Int × Int × Int × Int × Int) × List Int × Int × List (Int × Int × Int × Int × Int)) =>
                                  Option.bind (Go.Sx.Z.f65F (p5.1, p5.snd.1, p5.snd.snd.1, p5.snd.snd.2)) fun (v6 : List Int × Int × List (Int × Int × Int × Int × Int)) =>
                                    Option.some (Sum.inr (Sum.inr (v6.1, v6.snd.1, v6.snd.2))))
                                (fun (q5 : Int × Int) => Option.some (Sum.inr (Sum.inl q5))) v4
          else Option.none)
          fun (v1 : List Int × Int × List (Int × Int × Int × Int × Int) ⊕ Int × Int ⊕ List Int × Int × List (Int × Int × Int × Int × Int)) =>
          Sum.elim (fun (p2 : List Int × Int × List (Int × Int × Int × Int × Int)) => Option.some (Sum.inl (Sum.inr (p2.1, p2.snd.1, p2.snd.2))))
            (fun (q2 : Int × Int ⊕ List Int × Int × List (Int × Int × Int × Int × Int)) =>
              Sum.elim (fun (p3 : Int × Int) => Option.some (Sum.inr (Sum.inr p3)))
                (fun (q3 : List Int × Int × List (Int × Int × Int × Int × Int)) => Option.some (Sum.inl (Sum.inl (q3.1, q3.snd.1, q3.snd.2)))) q2)
            v1)
      fun (v1 : (List Int × Int × List (Int × Int × Int × Int × Int) ⊕ List Int × Int × List (Int × Int × Int × Int × Int)) ⊕ List Int × Int × List (Int × Int × Int × Int × Int) ⊕ Int × Int) =>
      Sum.elim
        (fun (p2 : List Int × Int × List (Int × Int × Int × Int × Int) ⊕ List Int × Int × List (Int × Int × Int × Int × Int)) =>
          Go.Sx.iter
            (fun (s3 : List Int × Int × List (Int × Int × Int × Int × Int) ⊕ List Int × Int × List (Int × Int × Int × Int × Int)) =>
              Sum.elim
                (fun (p4 : List Int × Int × List (Int × Int × Int × Int × Int)) =>
                  if Decidable.decide (p4.snd.fst ≥ (↑(List.length p4.fst) : Int)) = Bool.true then Option.some (Sum.inr (Sum.inl (p4.1, p4.snd.1, p4.snd.2)))
                  else
                    Option.bind
                      (if (0 : Int) ≤ p4.snd.fst ∧ p4.snd.fst < (↑(List.length p4.fst) : Int) then
                        if (List.getD p4.fst (Int.toNat p4.snd.fst) (0 : Int) == (91 : Int)) = Bool.true then
                          Option.bind (Go.Sx.Z.f64F ((94 : Int), p4.1, Go.IntKind.wrap Go.IntKind.i64 (p4.snd.fst + (1 : Int)), p4.snd.2))
                            fun (v5 : Bool × List Int × Int × List (Int × Int × Int × Int × Int)) =>
                            if v5.fst = Bool.true then
                              Option.bind (Go.Sx.Z.f65F (((7 : Int), (1 : Int), (0 : Int), (0 : Int), p4.snd.1), v5.snd.1, v5.snd.snd.1, v5.snd.snd.2))
                                fun (v6 : List Int × Int × List (Int × Int × Int × Int × Int)) => Option.some (Sum.inl (v6.1, v6.snd.1, v6.snd.2))
                            else
                              Option.bind (Go.Sx.Z.f65F (((7 : Int), (0 : Int), (0 : Int), (0 : Int), p4.snd.1), v5.snd.1, v5.snd.snd.1, v5.snd.snd.2))
                                fun (v6 : List Int × Int × List (Int × Int × Int × Int × Int)) => Option.some (Sum.inl (v6.1, v6.snd.1, v6.snd.2))
                        else
                          if (List.getD p4.fst (Int.toNat p4.snd.fst) (0 : Int) == (123 : Int)) = Bool.true then
                            Option.bind (Go.Sx.Z.f66F (p4.1, Go.IntKind.wrap Go.IntKind.i64 (p4.snd.fst + (1 : Int)), p4.snd.2))
                              fun (v5 : Int × Int × Bool × List Int × Int × List (Int × Int × Int × Int × Int) ⊕ Int × Int) =>
                              Sum.elim
                                (fun (p6 : Int × Int × Bool × List Int × Int × List (Int × Int × Int × Int × Int)) =>
                                  if (!p6.snd.snd.fst) = Bool.true then Option.some (Sum.inr (Sum.inl (p4.snd.1, (8 : Int))))
                                  else
                                    Option.bind (Go.Sx.Z.f67F (p4.snd.1, p6.1, p6.snd.1, p6.snd.snd.snd.1, p6.snd.snd.snd.snd.1, p6.snd.snd.snd.snd.2))
                                      fun (v7 : List Int × Int × List (Int × Int × Int × Int × Int)) => Option.some (Sum.inr (Sum.inr (v7.1, v7.snd.1, v7.snd.2))))
                                (fun (q6 : Int × Int) => Option.some (Sum.inr (Sum.inl q6))) v5
                          else
                            Option.bind
                              (if (List.getD p4.fst (Int.toNat p4.snd.fst) (0 : Int) == (63 : Int)) = Bool.true then Option.some (Bool.true, p4.1, p4.snd.1, p4.snd.2)
                              else
                                if (List.getD p4.fst (Int.toNat p4.snd.fst) (0 : Int) == (42 : Int)) = Bool.true then Option.some (Bool.true, p4.1, p4.snd.1, p4.snd.2)
                                else Option.some (List.getD p4.fst (Int.toNat p4.snd.fst) (0 : Int) == (43 : Int), p4.1, p4.snd.1, p4.snd.2))
                              fun (v5 : Bool × List Int × Int × List (Int × Int × Int × Int × Int)) =>
                              if v5.fst = Bool.true then
                                if (List.getD p4.fst (Int.toNat p4.snd.fst) (0 : Int) == (63 : Int)) = Bool.true then
                                  Option.bind (Go.Sx.Z.f67F (p4.snd.1, (0 : Int), (1 : Int), v5.snd.1, Go.IntKind.wrap Go.IntKind.i64 (v5.snd.snd.fst + (1 : Int)), v5.snd.snd.2))
                                    fun (v6 : List Int × Int × List (Int × Int × Int × Int × Int)) => Option.some (Sum.inr (Sum.inr (v6.1, v6.snd.1, v6.snd.2)))
                                else
                                  if (List.getD p4.fst (Int.toNat p4.snd.fst) (0 : Int) == (43 : Int)) = Bool.true then
                                    Option.bind (Go.Sx.Z.f67F (p4.snd.1, (1 : Int), (-1 : Int), v5.snd.1, Go.IntKind.wrap Go.IntKind.i64 (v5.snd.snd.fst + (1 : Int)), v5.snd.snd.2))
                                      fun (v6 : List Int × Int × List (Int × Int × Int × Int × Int)) => Option.some (Sum.inr (Sum.inr (v6.1, v6.snd.1, v6.snd.2)))
                                  else
                                    Option.bind (Go.Sx.Z.f67F (p4.snd.1, (0 : Int), (-1 : Int), v5.snd.1, Go.IntKind.wrap Go.IntKind.i64 (v5.snd.snd.fst + (1 : Int)), v5.snd.snd.2))
                                      fun (v6 : List Int × Int × List (Int × Int × Int × Int × Int)) => Option.some (Sum.inr (Sum.inr (v6.1, v6.snd.1, v6.snd.2)))
                              else
                                Option.bind
                                  (if (List.getD p4.fst (Int.toNat p4.snd.fst) (0 : Int) == (46 : Int)) = Bool.true then Option.some (Bool.true, v5.snd.1, v5.snd.snd.1, v5.snd.snd.2)
                                  else
                                    if (List.getD p4.fst (Int.toNat p4.snd.fst) (0 : Int) == (40 : Int)) = Bool.true then Option.some (Bool.true, v5.snd.1, v5.snd.snd.1, v5.snd.snd.2)
                                    else
                                      if (List.getD p4.fst (Int.toNat p4.snd.fst) (0 : Int) == (41 : Int)) = Bool.true then Option.some (Bool.true, v5.snd.1, v5.snd.snd.1, v5.snd.snd.2)
                                      else Option.some (List.getD p4.fst (Int.toNat p4.snd.fst) (0 : Int) == (124 : Int), v5.snd.1, v5.snd.snd.1, v5.snd.snd.2))
                                  fun (v6 : Bool × List Int × Int × List (Int × Int × Int × Int × Int)) =>
                                  if v6.fst = Bool.true then
                                    Option.bind
                                      (Go.Sx.Z.f68F
                                        ({ data := #[(46 : UInt8), (40 : UInt8), (41 : UInt8), (124 : UInt8)] : ByteArray },
                                          Go.IntKind.wrap Go.IntKind.u8 (List.getD p4.fst (Int.toNat p4.snd.fst) (0 : Int))))
                                      fun (v7 : Int) =>
                                      Option.bind
                                        (Go.Sx.Z.f65F
                                          ((Go.IntKind.wrap Go.IntKind.i64 ((2 : Int) + v7), (0 : Int), (0 : Int), (0 : Int), p4.snd.1), v6.snd.1,
                                            Go.IntKind.wrap Go.IntKind.i64 (v6.snd.snd.fst + (1 : Int)), v6.snd.snd.2))
                                        fun (v8 : List Int × Int × List (Int × Int × Int × Int × Int)) => Option.some (Sum.inr (Sum.inr (v8.1, v8.snd.1, v8.snd.2)))
                                  else
                                    Option.bind
                                      (if (List.getD p4.fst (Int.toNat p4.snd.fst) (0 : Int) == (94 : Int)) = Bool.true then Option.some (Bool.true, v6.snd.1, v6.snd.snd.1, v6.snd.snd.2)
                                      else Option.some (List.getD p4.fst (Int.toNat p4.snd.fst) (0 : Int) == (36 : Int), v6.snd.1, v6.snd.snd.1, v6.snd.snd.2))
                                      fun (v7 : Bool × List Int × Int × List (Int × Int × Int × Int × Int)) =>
                                      if v7.fst = Bool.true then
                                        Option.bind
                                          (Go.Sx.Z.f68F ({ data := #[(94 : UInt8), (36 : UInt8)] : ByteArray }, Go.IntKind.wrap Go.IntKind.u8 (List.getD p4.fst (Int.toNat p4.snd.fst) (0 : Int))))
                                          fun (v8 : Int) =>
                                          Option.bind
                                            (Go.Sx.Z.f65F
                                              ((Go.IntKind.wrap Go.IntKind.i64 ((10 : Int) + v8), (0 : Int), (0 : Int), (0 : Int), p4.snd.1), v7.snd.1,
                                                Go.IntKind.wrap Go.IntKind.i64 (v7.snd.snd.fst + (1 : Int)), v7.snd.snd.2))
                                            fun (v9 : List Int × Int × List (Int × Int × Int × Int × Int)) => Option.some (Sum.inr (Sum.inr (v9.1, v9.snd.1, v9.snd.2)))
                                      else
                                        Option.bind (Go.Sx.Z.f69F (v7.snd.1, v7.snd.snd.1, v7.snd.snd.2))
                                          fun (v8 : (Int × Int × Int × Int × Int) × List Int × Int × List (Int × Int × Int × Int × Int) ⊕ Int × Int) =>
                                          Sum.elim
                                            (fun (p9 : (Int × Int × Int × Int × Int) × List Int × Int × List (Int × Int × Int × Int × Int)) =>
                                              Option.bind (Go.Sx.Z.f65F (p9.1, p9.snd.1, p9.snd.snd.1, p9.snd.snd.2)) fun (v10 : List Int × Int × List (Int × Int × Int × Int × Int)) =>
                                                Option.some (Sum.inr (Sum.inr (v10.1, v10.snd.1, v10.snd.2))))
                                            (fun (q9 : Int × Int) => Option.some (Sum.inr (Sum.inl q9))) v8
                      else Option.none)
                      fun (v5 : List Int × Int × List (Int × Int × Int × Int × Int) ⊕ Int × Int ⊕ List Int × Int × List (Int × Int × Int × Int × Int)) =>
                      Sum.elim (fun (p6 : List Int × Int × List (Int × Int × Int × Int × Int)) => Option.some (Sum.inl (Sum.inr (p6.1, p6.snd.1, p6.snd.2))))
                        (fun (q6 : Int × Int ⊕ List Int × Int × List (Int × Int × Int × Int × Int)) =>
                          Sum.elim (fun (p7 : Int × Int) => Option.some (Sum.inr (Sum.inr p7)))
                            (fun (q7 : List Int × Int × List (Int × Int × Int × Int × Int)) => Option.some (Sum.inl (Sum.inl (q7.1, q7.snd.1, q7.snd.2)))) q6)
                        v5)
                (fun (q4 : List Int × Int × List (Int × Int × Int × Int × Int)) =>
                  Option.bind (Go.Sx.Z.f70F (q4.1, q4.snd.1, q4.snd.2)) fun (v5 : Int ⊕ Int × Int) =>
                    Sum.elim
                      (fun (p6 : Int) =>
                        Option.bind (Go.Sx.Z.f64F ((93 : Int), q4.1, q4.snd.1, q4.snd.2)) fun (v7 : Bool × List Int × Int × List (Int × Int × Int × Int × Int)) =>
                          if v7.fst = Bool.true then
                            Option.bind (Go.Sx.Z.f65F (((8 : Int), (0 : Int), (0 : Int), (0 : Int), q4.snd.1), v7.snd.1, v7.snd.snd.1, v7.snd.snd.2))
                              fun (v8 : List Int × Int × List (Int × Int × Int × Int × Int)) => Option.some (Sum.inl (Sum.inl (v8.1, v8.snd.1, v8.snd.2)))
                          else
                            Option.bind (Go.Sx.Z.f71F (v7.snd.1, v7.snd.snd.1, v7.snd.snd.2))
                              fun (v8 : (Int × Int × Int × Int × Int) × List Int × Int × List (Int × Int × Int × Int × Int) ⊕ Int × Int) =>
                              Sum.elim
                                (fun (p9 : (Int × Int × Int × Int × Int) × List Int × Int × List (Int × Int × Int × Int × Int)) =>
                                  Option.bind (Go.Sx.Z.f65F (p9.1, p9.snd.1, p9.snd.snd.1, p9.snd.snd.2)) fun (v10 : List Int × Int × List (Int × Int × Int × Int × Int)) =>
                                    Option.some (Sum.inl (Sum.inr (v10.1, v10.snd.1, v10.snd.2))))
                                (fun (q9 : Int × Int) => Option.some (Sum.inr (Sum.inr q9))) v8)
                      (fun (q6 : Int × Int) => Option.some (Sum.inr (Sum.inr q6))) v5)
                s3)
            p2)
        (fun (q2 : List Int × Int × List (Int × Int × Int × Int × Int) ⊕ Int × Int) => Option.some q2) v1)
    fun (v1 : List Int × Int × List (Int × Int × Int × Int × Int) ⊕ Int × Int) =>
    Sum.elim (fun (p2 : List Int × Int × List (Int × Int × Int × Int × Int)) => Option.some (Sum.inl (p2.1, p2.snd.1, p2.snd.2))) (fun (q2 : Int × Int) => Option.some (Sum.inr q2)) v1
theorem Z.f44eq : ∀ x, runFnP Z.C Z.f44Γ Z.f44Θ Z.f44sig 59 (.st (.pair (.int .i64) (.int .i64))) Z.f44ann Go.Proofs.Try.f44 x = Z.f44F x := by
  intro x
  kernel_rfl
noncomputable def Z.f44p : PCon := ⟨44, Z.f44sig, 59, (.st (.pair (.int .i64) (.int .i64))), Z.f44F⟩
theorem Z.f44ok : PCon.Ok Go.Proofs.Try.prog Z.C Z.f44p :=
  runFnP_ok (Γ := Z.f44Γ) (Θ := Z.f44Θ) (an := Z.f44ann) ⟨Z.Cok, (List.forall_mem_cons.2 ⟨Z.f64ok, (List.forall_mem_cons.2 ⟨Z.f65ok, (List.forall_mem_cons.2 ⟨Z.f67ok, (List.forall_mem_cons.2 ⟨Z.f68ok, (fun _ h => nomatch h)⟩)⟩)⟩)⟩), Z.mixed⟩ (List.forall_mem_cons.2 ⟨Z.f66ok, (List.forall_mem_cons.2 ⟨Z.f69ok, (List.forall_mem_cons.2 ⟨Z.f70ok, (List.forall_mem_cons.2 ⟨Z.f71ok, (fun _ h => nomatch h)⟩)⟩)⟩)⟩) Go.Proofs.Try.func44 rfl rfl (fun x y h => (Z.f44eq x).trans h) (by decide)
end Go.Sx
