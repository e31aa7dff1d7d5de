import Derived.Test.YtjmdfkcgglidaaaSxP
import Derived.Test.YtjmdfkcgglidaaaProg
import Derived.KernelRfl
set_option maxRecDepth 100000
set_option maxHeartbeats 0
set_option linter.unusedVariables false
set_option linter.unusedSimpArgs false
namespace Go.Sx
open Go.Proofs

def Q.TT : List (TypeId × TI) := [
  (3, ⟨(.int .i64), 1, 8, some (.int .i64), [.val (.int .i64) (0 : Int)]⟩),
  (4, ⟨.bool, 1, 1, some .bool, [.bit false]⟩),
  (9, ⟨.str, 1, 16, some .str, [.val .str ByteArray.empty]⟩),
  (22, ⟨(.slice 3), 1, 24, some (.sl (.int .i64)), [.nils]⟩),
  (24, ⟨(.slice 36), 1, 24, some (.sl (.st (.pair (.sl (.int .i64)) (.pair (.int .i64) (.pair (.int .i64) (.int .i64)))))), [.nils]⟩),
  (28, ⟨(.slice 39), 1, 24, some (.sl (.arr 2 (.int .i64))), [.nils]⟩),
  (32, ⟨.other, 1, 0, none, [.und]⟩),
  (36, ⟨(.struct [(22, 0, 1, false), (3, 1, 1, false), (3, 2, 1, false), (3, 3, 1, false)]), 4, 48, some (.st (.pair (.sl (.int .i64)) (.pair (.int .i64) (.pair (.int .i64) (.int .i64))))), [.nils, .val (.int .i64) (0 : Int), .val (.int .i64) (0 : Int), .val (.int .i64) (0 : Int)]⟩),
  (39, ⟨(.array 2 3), 2, 16, some (.arr 2 (.int .i64)), [.val (.int .i64) (0 : Int), .val (.int .i64) (0 : Int)]⟩),
  (41, ⟨(.ptr 61), 1, 8, none, [.nilp]⟩),
  (44, ⟨(.map 3 3), 1, 8, none, [.und]⟩),
  (45, ⟨(.slice 22), 1, 24, some (.sl (.sl (.int .i64))), [.nils]⟩),
  (47, ⟨.other, 1, 0, none, [.und]⟩),
  (50, ⟨(.slice 4), 1, 24, some (.sl .bool), [.nils]⟩),
  (53, ⟨(.ptr 57), 1, 8, none, [.nilp]⟩),
  (55, ⟨(.slice 70), 1, 24, some (.sl (.st (.pair (.int .i64) (.pair (.int .i64) .bool)))), [.nils]⟩),
  (57, ⟨(.struct [(3, 0, 1, false), (55, 1, 1, false), (3, 2, 1, false), (3, 3, 1, false), (3, 4, 1, false), (3, 5, 1, false), (22, 6, 1, false), (22, 7, 1, false), (22, 8, 1, false)]), 9, 136, some (.st (.pair (.int .i64) (.pair (.sl (.st (.pair (.int .i64) (.pair (.int .i64) .bool)))) (.pair (.int .i64) (.pair (.int .i64) (.pair (.int .i64) (.pair (.int .i64) (.pair (.sl (.int .i64)) (.pair (.sl (.int .i64)) (.sl (.int .i64))))))))))), [.val (.int .i64) (0 : Int), .nils, .val (.int .i64) (0 : Int), .val (.int .i64) (0 : Int), .val (.int .i64) (0 : Int), .val (.int .i64) (0 : Int), .nils, .nils, .nils]⟩),
  (58, ⟨(.map 3 4), 1, 8, none, [.und]⟩),
  (61, ⟨(.struct [(22, 0, 1, false), (22, 1, 1, false), (22, 2, 1, false), (22, 3, 1, false)]), 4, 96, some (.st (.pair (.sl (.int .i64)) (.pair (.sl (.int .i64)) (.pair (.sl (.int .i64)) (.sl (.int .i64)))))), [.nils, .nils, .nils, .nils]⟩),
  (63, ⟨(.int .u64), 1, 8, some (.int .u64), [.val (.int .u64) (0 : Int)]⟩),
  (70, ⟨(.struct [(3, 0, 1, false), (3, 1, 1, false), (4, 2, 1, false)]), 3, 24, some (.st (.pair (.int .i64) (.pair (.int .i64) .bool))), [.val (.int .i64) (0 : Int), .val (.int .i64) (0 : Int), .bit false]⟩),
  (76, ⟨(.slice 9), 1, 24, some (.sl .str), [.nils]⟩)]
noncomputable def Q.C : Ctx := ⟨Q.TT, [], [(22, (.osl (.int .i64)))], [22]⟩
theorem Q.Cok : Q.C.ok Go.Proofs.Try.prog := checkTT_ok (by kernel_rfl)
theorem Q.mixed : Go.Proofs.Try.prog.follows .mixedOrders = true := by kernel_rfl
def Q.fuel : Nat := 1000000000
def Q.f32sig : Sig := ⟨⟨[.hole (.sl (.int .i64))], []⟩, ⟨[.hole (.int .u64)], []⟩⟩
noncomputable def Q.f32Γ : List Con := []
def Q.f32ann : Ann :=
  (.seq .leaf (.seq (.seq .leaf (.block (.loop ⟨.normal, [(2, .hole (.int .u64)), (7, .hole (.int .i64))], []⟩ [⟨(.exit 0), [(2, .hole (.int .u64))], []⟩] (.seq .leaf (.seq (.cond .leaf .leaf) (.seq (.block (.seq .leaf .leaf)) .leaf)))))) (.seq .leaf .leaf)))
/- ductus/class.set -/
noncomputable def Q.f32F : List Int → Option (Int) :=
  fun (x : List Int) =>
  Option.bind
    (Go.Sx.iter
      (fun (s1 : Int × Int) =>
        if Decidable.decide (s1.snd < (↑(List.length x) : Int)) = Bool.true then
          if (0 : Int) ≤ s1.snd ∧ s1.snd < (↑(List.length x) : Int) then
            if List.getD x (Int.toNat s1.snd) (0 : Int) < (0 : Int) then Option.none
            else
              Option.some
                (Sum.inl
                  (Go.IntKind.wrap Go.IntKind.u64
                      (↑(BitVec.toNat
                            (BitVec.ofInt (Go.IntKind.bits Go.IntKind.u64) s1.fst |||
                              BitVec.ofInt (Go.IntKind.bits Go.IntKind.u64)
                                (Go.IntKind.wrap Go.IntKind.u64 ((1 : Int) * (2 : Int) ^ Min.min (Int.toNat (List.getD x (Int.toNat s1.snd) (0 : Int))) (Go.IntKind.bits Go.IntKind.u64))))) :
                        Int),
                    Go.IntKind.wrap Go.IntKind.i64 (s1.snd + (1 : Int))))
          else Option.none
        else Option.some (Sum.inr s1.1))
      ((0 : Int), (0 : Int)))
    fun (v1 : Int) => Option.some v1
theorem Q.f32eq : ∀ x, runFn Q.C Q.f32Γ Q.f32sig Q.f32ann Go.Proofs.Try.f32 x = Q.f32F x := by
  intro x
  kernel_rfl
noncomputable def Q.f32con : Con := ⟨32, Q.f32sig, Q.f32F⟩
theorem Q.f32ok : Con.Ok Go.Proofs.Try.prog Q.C Q.f32con :=
  runFn_ok (Γ := Q.f32Γ) (an := Q.f32ann) ⟨Q.Cok, (fun _ h => nomatch h), Q.mixed⟩ Go.Proofs.Try.func32 rfl rfl (fun x y h => (Q.f32eq x).trans h) (by decide)
def Q.f31sig : Sig := ⟨⟨[.hole (.int .i64), .hole (.int .u64)], []⟩, ⟨[.hole .bool], []⟩⟩
noncomputable def Q.f31Γ : List Con := []
def Q.f31ann : Ann :=
  (.seq .leaf (.seq .leaf .leaf))
/- ductus/class.in -/
noncomputable def Q.f31F : Int × Int → Option (Bool) :=
  fun (x : Int × Int) =>
  if Decidable.decide (x.fst ≥ (0 : Int)) = Bool.true then
    if Decidable.decide (x.fst ≤ (22 : Int)) = Bool.true then
      if x.fst < (0 : Int) then Option.none
      else
        Option.some
          (Go.IntKind.wrap Go.IntKind.u64
              (↑(BitVec.toNat
                    (BitVec.ofInt (Go.IntKind.bits Go.IntKind.u64) (Int.fdiv x.snd ((2 : Int) ^ Min.min (Int.toNat x.fst) (Go.IntKind.bits Go.IntKind.u64))) &&&
                      BitVec.ofInt (Go.IntKind.bits Go.IntKind.u64) (1 : Int))) :
                Int) ==
            (1 : Int))
    else Option.some Bool.false
  else Option.some Bool.false
theorem Q.f31eq : ∀ x, runFn Q.C Q.f31Γ Q.f31sig Q.f31ann Go.Proofs.Try.f31 x = Q.f31F x := by
  intro x
  kernel_rfl
noncomputable def Q.f31con : Con := ⟨31, Q.f31sig, Q.f31F⟩
theorem Q.f31ok : Con.Ok Go.Proofs.Try.prog Q.C Q.f31con :=
  runFn_ok (Γ := Q.f31Γ) (an := Q.f31ann) ⟨Q.Cok, (fun _ h => nomatch h), Q.mixed⟩ Go.Proofs.Try.func31 rfl rfl (fun x y h => (Q.f31eq x).trans h) (by decide)
def Q.f30sig : Sig := ⟨⟨[.hole (.int .i64)], []⟩, ⟨[.hole .bool], []⟩⟩
noncomputable def Q.f30Γ : List Con := [Q.f32con, Q.f31con]
def Q.f30ann : Ann :=
  (.seq .leaf (.seq .leaf .leaf))
/- ductus/class.Out -/
noncomputable def Q.f30F : Int → Option (Bool) :=
  fun (x : Int) =>
  Option.bind (Go.Sx.Q.f32F [(14 : Int), (15 : Int), (16 : Int), (17 : Int), (18 : Int), (9 : Int)]) fun (v1 : Int) => Option.bind (Go.Sx.Q.f31F (x, v1)) fun (v2 : Bool) => Option.some v2
theorem Q.f30eq : ∀ x, runFn Q.C Q.f30Γ Q.f30sig Q.f30ann Go.Proofs.Try.f30 x = Q.f30F x := by
  intro x
  kernel_rfl
noncomputable def Q.f30con : Con := ⟨30, Q.f30sig, Q.f30F⟩
theorem Q.f30ok : Con.Ok Go.Proofs.Try.prog Q.C Q.f30con :=
  runFn_ok (Γ := Q.f30Γ) (an := Q.f30ann) ⟨Q.Cok, (List.forall_mem_cons.2 ⟨Q.f32ok, (List.forall_mem_cons.2 ⟨Q.f31ok, (fun _ h => nomatch h)⟩)⟩), Q.mixed⟩ Go.Proofs.Try.func30 rfl rfl (fun x y h => (Q.f30eq x).trans h) (by decide)
def Q.f18sig : Sig := ⟨⟨[.hole (.sl (.int .i64)), .hole (.sl (.int .i64))], []⟩, ⟨[.ptr 0 0], [.cells [.hole (.sl (.int .i64)), .hole (.sl (.int .i64)), .own 1, .own 2], .arr 3 (.int .i64), .arr 3 (.int .i64)]⟩⟩
noncomputable def Q.f18Γ : List Con := [Q.f30con]
def Q.f18ann : Ann :=
  (.seq .leaf (.seq .leaf (.seq (.seq .leaf (.block (.loop ⟨.normal, [(17, .hole (.int .i64))], [.arr 3 (.int .i64), .cells [.hole (.sl (.int .i64)), .hole (.sl (.int .i64)), .own 2, .own 0], .arr 3 (.int .i64)]⟩ [⟨(.exit 0), [], [.arr 3 (.int .i64), .cells [.hole (.sl (.int .i64)), .hole (.sl (.int .i64)), .own 2, .own 0], .arr 3 (.int .i64)]⟩] (.seq .leaf (.seq (.cond .leaf .leaf) (.seq (.block (.seq .leaf (.seq .leaf (.seq .leaf (.cond (.seq (.tail 11) .leaf) .leaf))))) .leaf)))))) (.seq .leaf .leaf))))
/- ductus/seq.look -/
noncomputable def Q.f18F : List Int × List Int → Option (List Int × List Int × List Int × List Int) :=
  fun (x : List Int × List Int) =>
  if
      (0 : Int) ≤ (↑(List.length x.fst) : Int) ∧
        (↑(List.length x.fst) : Int) ≤ (↑(List.length x.fst) : Int) ∧
          Go.Sx.roomOk (Int.toNat (↑(List.length x.fst) : Int))
            { kind := Go.Sx.TK.int Go.IntKind.i64, size := (1 : Nat), bytes := (8 : Nat), ty := Option.some (Go.Sx.Ty.int Go.IntKind.i64),
                zero := [Go.Sx.SV.val (Go.Sx.Ty.int Go.IntKind.i64) (0 : Int)] : Go.Sx.TI }.bytes then
    Option.bind
      (Go.Sx.iter
        (fun (s1 : Int × List Int × List Int × List Int × List Int) =>
          if Decidable.decide (s1.fst < (↑(List.length x.fst) : Int)) = Bool.true then
            if (0 : Int) ≤ s1.fst ∧ s1.fst < (↑(List.length x.fst) : Int) then
              if (0 : Int) ≤ s1.fst ∧ s1.fst < (↑(List.length s1.snd.fst) : Int) then
                Option.bind (Go.Sx.Q.f30F (List.getD x.fst (Int.toNat s1.fst) (0 : Int))) fun (v2 : Bool) =>
                  if (!v2) = Bool.true then
                    if (0 : Int) ≤ s1.fst ∧ s1.fst < (↑(List.length (List.set s1.snd.1 (Int.toNat s1.fst) (-1 : Int))) : Int) then
                      if
                          Go.Sx.roomOk (List.length s1.snd.snd.snd.snd + (1 : Nat))
                            { kind := Go.Sx.TK.int Go.IntKind.i64, size := (1 : Nat), bytes := (8 : Nat), ty := Option.some (Go.Sx.Ty.int Go.IntKind.i64),
                                zero := [Go.Sx.SV.val (Go.Sx.Ty.int Go.IntKind.i64) (0 : Int)] : Go.Sx.TI }.bytes then
                        Option.some
                          (Sum.inl
                            (Go.IntKind.wrap Go.IntKind.i64 (s1.fst + (1 : Int)),
                              List.set (List.set s1.snd.1 (Int.toNat s1.fst) (-1 : Int)) (Int.toNat s1.fst) (↑(List.length s1.snd.snd.snd.snd) : Int), s1.snd.snd.1, s1.snd.snd.snd.1,
                              s1.snd.snd.snd.2 ++ [s1.1]))
                      else Option.none
                    else Option.none
                  else Option.some (Sum.inl (Go.IntKind.wrap Go.IntKind.i64 (s1.fst + (1 : Int)), List.set s1.snd.1 (Int.toNat s1.fst) (-1 : Int), s1.snd.snd.1, s1.snd.snd.snd.1, s1.snd.snd.snd.2))
              else Option.none
            else Option.none
          else Option.some (Sum.inr (s1.snd.1, s1.snd.snd.1, s1.snd.snd.snd.1, s1.snd.snd.snd.2)))
        ((0 : Int), List.replicate (Int.toNat (↑(List.length x.fst) : Int)) (0 : Int), x.1, x.2, []))
      fun (v1 : List Int × List Int × List Int × List Int) => Option.some (v1.snd.1, v1.snd.snd.1, v1.snd.snd.2, v1.1)
  else Option.none
theorem Q.f18eq : ∀ x, runFn Q.C Q.f18Γ Q.f18sig Q.f18ann Go.Proofs.Try.f18 x = Q.f18F x := by
  intro x
  kernel_rfl
noncomputable def Q.f18con : Con := ⟨18, Q.f18sig, Q.f18F⟩
theorem Q.f18ok : Con.Ok Go.Proofs.Try.prog Q.C Q.f18con :=
  runFn_ok (Γ := Q.f18Γ) (an := Q.f18ann) ⟨Q.Cok, (List.forall_mem_cons.2 ⟨Q.f30ok, (fun _ h => nomatch h)⟩), Q.mixed⟩ Go.Proofs.Try.func18 rfl rfl (fun x y h => (Q.f18eq x).trans h) (by decide)
def Q.f21sig : Sig := ⟨⟨[.hole (.int .i64)], []⟩, ⟨[.hole .bool], []⟩⟩
noncomputable def Q.f21Γ : List Con := [Q.f32con, Q.f31con]
def Q.f21ann : Ann :=
  (.seq .leaf (.seq .leaf .leaf))
/- ductus/class.Opens -/
noncomputable def Q.f21F : Int → Option (Bool) :=
  fun (x : Int) => Option.bind (Go.Sx.Q.f32F [(19 : Int), (20 : Int), (21 : Int)]) fun (v1 : Int) => Option.bind (Go.Sx.Q.f31F (x, v1)) fun (v2 : Bool) => Option.some v2
theorem Q.f21eq : ∀ x, runFn Q.C Q.f21Γ Q.f21sig Q.f21ann Go.Proofs.Try.f21 x = Q.f21F x := by
  intro x
  kernel_rfl
noncomputable def Q.f21con : Con := ⟨21, Q.f21sig, Q.f21F⟩
theorem Q.f21ok : Con.Ok Go.Proofs.Try.prog Q.C Q.f21con :=
  runFn_ok (Γ := Q.f21Γ) (an := Q.f21ann) ⟨Q.Cok, (List.forall_mem_cons.2 ⟨Q.f32ok, (List.forall_mem_cons.2 ⟨Q.f31ok, (fun _ h => nomatch h)⟩)⟩), Q.mixed⟩ Go.Proofs.Try.func21 rfl rfl (fun x y h => (Q.f21eq x).trans h) (by decide)
def Q.f19sig : Sig := ⟨⟨[.hole (.sl (.int .i64))], []⟩, ⟨[.hole (.sl (.int .i64))], []⟩⟩
noncomputable def Q.f19Γ : List Con := [Q.f21con]
def Q.f19ann : Ann :=
  (.seq .leaf (.seq .leaf (.seq .leaf (.seq (.seq .leaf (.block (.loop ⟨.normal, [(4, .own 1), (13, .hole (.int .i64))], [.arr 3 (.int .i64), .arr 3 (.int .i64)]⟩ [⟨(.exit 0), [], [.arr 3 (.int .i64)]⟩] (.seq .leaf (.seq (.cond .leaf .leaf) (.seq (.block (.seq .leaf (.seq .leaf (.block (.seq .leaf (.cond .leaf (.seq .leaf (.cond .leaf (.seq (.join [⟨.normal, [(31, .hole .bool)], [.arr 3 (.int .i64), .arr 3 (.int .i64)]⟩] .leaf) (.cond (.seq .leaf (.seq .leaf .leaf)) .leaf)))))))))) .leaf)))))) (.seq .leaf .leaf)))))
/- ductus/base.Match -/
noncomputable def Q.f19F : List Int → Option (List Int) :=
  fun (x : List Int) =>
  if
      (0 : Int) ≤ (↑(List.length x) : Int) ∧
        (↑(List.length x) : Int) ≤ (↑(List.length x) : Int) ∧
          Go.Sx.roomOk (Int.toNat (↑(List.length x) : Int))
            { kind := Go.Sx.TK.int Go.IntKind.i64, size := (1 : Nat), bytes := (8 : Nat), ty := Option.some (Go.Sx.Ty.int Go.IntKind.i64),
                zero := [Go.Sx.SV.val (Go.Sx.Ty.int Go.IntKind.i64) (0 : Int)] : Go.Sx.TI }.bytes then
    Option.bind
      (Go.Sx.iter
        (fun (s1 : Int × List Int × List Int) =>
          if Decidable.decide (s1.fst < (↑(List.length x) : Int)) = Bool.true then
            if (0 : Int) ≤ s1.fst ∧ s1.fst < (↑(List.length x) : Int) then
              if (0 : Int) ≤ s1.fst ∧ s1.fst < (↑(List.length s1.snd.fst) : Int) then
                if (List.getD x (Int.toNat s1.fst) (0 : Int) == (10 : Int)) = Bool.true then
                  Option.some (Sum.inl (Go.IntKind.wrap Go.IntKind.i64 (s1.fst + (1 : Int)), List.set s1.snd.1 (Int.toNat s1.fst) (-1 : Int), []))
                else
                  Option.bind (Go.Sx.Q.f21F (List.getD x (Int.toNat s1.fst) (0 : Int))) fun (v2 : Bool) =>
                    if v2 = Bool.true then
                      if
                          Go.Sx.roomOk (List.length s1.snd.snd + (1 : Nat))
                            { kind := Go.Sx.TK.int Go.IntKind.i64, size := (1 : Nat), bytes := (8 : Nat), ty := Option.some (Go.Sx.Ty.int Go.IntKind.i64),
                                zero := [Go.Sx.SV.val (Go.Sx.Ty.int Go.IntKind.i64) (0 : Int)] : Go.Sx.TI }.bytes then
                        Option.some (Sum.inl (Go.IntKind.wrap Go.IntKind.i64 (s1.fst + (1 : Int)), List.set s1.snd.1 (Int.toNat s1.fst) (-1 : Int), s1.snd.2 ++ [s1.1]))
                      else Option.none
                    else
                      Option.bind
                        (if (List.getD x (Int.toNat s1.fst) (0 : Int) == (22 : Int)) = Bool.true then
                          Option.some (Decidable.decide ((↑(List.length s1.snd.snd) : Int) > (0 : Int)), List.set s1.snd.1 (Int.toNat s1.fst) (-1 : Int), s1.snd.2)
                        else Option.some (Bool.false, List.set s1.snd.1 (Int.toNat s1.fst) (-1 : Int), s1.snd.2))
                        fun (v3 : Bool × List Int × List Int) =>
                        if v3.fst = Bool.true then
                          if
                              (0 : Int) ≤ Go.IntKind.wrap Go.IntKind.i64 ((↑(List.length v3.snd.snd) : Int) - (1 : Int)) ∧
                                Go.IntKind.wrap Go.IntKind.i64 ((↑(List.length v3.snd.snd) : Int) - (1 : Int)) < (↑(List.length v3.snd.snd) : Int) then
                            if
                                (0 : Int) ≤ Go.IntKind.wrap Go.IntKind.i64 ((↑(List.length v3.snd.snd) : Int) - (1 : Int)) ∧
                                  Go.IntKind.wrap Go.IntKind.i64 ((↑(List.length v3.snd.snd) : Int) - (1 : Int)) ≤ (↑(List.length v3.snd.snd) : Int) then
                              if (0 : Int) ≤ s1.fst ∧ s1.fst < (↑(List.length v3.snd.fst) : Int) then
                                if
                                    (0 : Int) ≤ List.getD v3.snd.2 (Int.toNat (Go.IntKind.wrap Go.IntKind.i64 ((↑(List.length v3.snd.snd) : Int) - (1 : Int)))) (0 : Int) ∧
                                      List.getD v3.snd.2 (Int.toNat (Go.IntKind.wrap Go.IntKind.i64 ((↑(List.length v3.snd.snd) : Int) - (1 : Int)))) (0 : Int) <
                                        (↑(List.length
                                              (List.set v3.snd.1 (Int.toNat s1.fst)
                                                (List.getD v3.snd.2 (Int.toNat (Go.IntKind.wrap Go.IntKind.i64 ((↑(List.length v3.snd.snd) : Int) - (1 : Int)))) (0 : Int)))) :
                                          Int) then
                                  Option.some
                                    (Sum.inl
                                      (Go.IntKind.wrap Go.IntKind.i64 (s1.fst + (1 : Int)),
                                        List.set
                                          (List.set v3.snd.1 (Int.toNat s1.fst)
                                            (List.getD v3.snd.2 (Int.toNat (Go.IntKind.wrap Go.IntKind.i64 ((↑(List.length v3.snd.snd) : Int) - (1 : Int)))) (0 : Int)))
                                          (Int.toNat (List.getD v3.snd.2 (Int.toNat (Go.IntKind.wrap Go.IntKind.i64 ((↑(List.length v3.snd.snd) : Int) - (1 : Int)))) (0 : Int))) s1.1,
                                        List.take (Int.toNat (Go.IntKind.wrap Go.IntKind.i64 ((↑(List.length v3.snd.snd) : Int) - (1 : Int)))) v3.snd.2))
                                else Option.none
                              else Option.none
                            else Option.none
                          else Option.none
                        else Option.some (Sum.inl (Go.IntKind.wrap Go.IntKind.i64 (s1.fst + (1 : Int)), v3.snd.1, v3.snd.2))
              else Option.none
            else Option.none
          else Option.some (Sum.inr s1.snd.1))
        ((0 : Int), List.replicate (Int.toNat (↑(List.length x) : Int)) (0 : Int), []))
      fun (v1 : List Int) => Option.some v1
  else Option.none
theorem Q.f19eq : ∀ x, runFn Q.C Q.f19Γ Q.f19sig Q.f19ann Go.Proofs.Try.f19 x = Q.f19F x := by
  intro x
  kernel_rfl
noncomputable def Q.f19con : Con := ⟨19, Q.f19sig, Q.f19F⟩
theorem Q.f19ok : Con.Ok Go.Proofs.Try.prog Q.C Q.f19con :=
  runFn_ok (Γ := Q.f19Γ) (an := Q.f19ann) ⟨Q.Cok, (List.forall_mem_cons.2 ⟨Q.f21ok, (fun _ h => nomatch h)⟩), Q.mixed⟩ Go.Proofs.Try.func19 rfl rfl (fun x y h => (Q.f19eq x).trans h) (by decide)
def Q.f20sig : Sig := ⟨⟨[.ro (.st (.pair (.sl (.int .i64)) (.pair (.sl (.int .i64)) (.pair (.sl (.int .i64)) (.sl (.int .i64))))))], []⟩, ⟨[.hole (.sl (.sl (.int .i64)))], []⟩⟩
noncomputable def Q.f20Γ : List Con := []
def Q.f20ann : Ann :=
  (.seq .leaf (.seq .leaf (.seq .leaf (.seq (.seq .leaf (.block (.loop ⟨.normal, [(3, .own 0), (4, .hole (.int .i64)), (5, .hole (.int .i64))], [.arr 22 (.osl (.int .i64))]⟩ [⟨(.exit 0), [(3, .own 0)], [.arr 22 (.osl (.int .i64))]⟩] (.seq (.seq .leaf (.cond .leaf .leaf)) (.seq (.block (.seq .leaf (.seq (.seq (.join [⟨.normal, [(63, .hole .bool)], [.arr 22 (.osl (.int .i64))]⟩] .leaf) (.cond .leaf .leaf)) (.seq .leaf .leaf)))) .leaf))))) (.seq .leaf .leaf)))))
/- (*ductus/seq.text).runs -/
noncomputable def Q.f20F : List Int × List Int × List Int × List Int → Option (List (List Int)) :=
  fun (x : List Int × List Int × List Int × List Int) =>
  Option.bind
    (Go.Sx.iter
      (fun (s1 : Int × Int × List (Bool × List Int)) =>
        if Decidable.decide (s1.snd.fst ≤ (↑(List.length x.snd.snd.fst) : Int)) = Bool.true then
          if (0 : Int) ≤ Go.IntKind.wrap Go.IntKind.i64 (s1.snd.fst - (1 : Int)) ∧ Go.IntKind.wrap Go.IntKind.i64 (s1.snd.fst - (1 : Int)) < (↑(List.length x.snd.snd.fst) : Int) then
            Option.bind
              (if Decidable.decide (s1.snd.fst < (↑(List.length x.snd.snd.fst) : Int)) = Bool.true then
                if (0 : Int) ≤ s1.snd.fst ∧ s1.snd.fst < (↑(List.length x.snd.snd.fst) : Int) then
                  if (0 : Int) ≤ List.getD x.snd.snd.fst (Int.toNat s1.snd.fst) (0 : Int) ∧ List.getD x.snd.snd.fst (Int.toNat s1.snd.fst) (0 : Int) < (↑(List.length x.snd.fst) : Int) then
                    if
                        (0 : Int) ≤ List.getD x.snd.snd.fst (Int.toNat (Go.IntKind.wrap Go.IntKind.i64 (s1.snd.fst - (1 : Int)))) (0 : Int) ∧
                          List.getD x.snd.snd.fst (Int.toNat (Go.IntKind.wrap Go.IntKind.i64 (s1.snd.fst - (1 : Int)))) (0 : Int) < (↑(List.length x.snd.fst) : Int) then
                      if
                          (List.getD x.snd.fst (Int.toNat (List.getD x.snd.snd.fst (Int.toNat s1.snd.fst) (0 : Int))) (0 : Int) ==
                              List.getD x.snd.fst (Int.toNat (List.getD x.snd.snd.fst (Int.toNat (Go.IntKind.wrap Go.IntKind.i64 (s1.snd.fst - (1 : Int)))) (0 : Int))) (0 : Int)) =
                            Bool.true then
                        if
                            (0 : Int) ≤ List.getD x.snd.snd.fst (Int.toNat (Go.IntKind.wrap Go.IntKind.i64 (s1.snd.fst - (1 : Int)))) (0 : Int) ∧
                              List.getD x.snd.snd.fst (Int.toNat (Go.IntKind.wrap Go.IntKind.i64 (s1.snd.fst - (1 : Int)))) (0 : Int) < (↑(List.length x.fst) : Int) then
                          Option.some
                            (List.getD x.fst (Int.toNat (List.getD x.snd.snd.fst (Int.toNat (Go.IntKind.wrap Go.IntKind.i64 (s1.snd.fst - (1 : Int)))) (0 : Int))) (0 : Int) != (10 : Int), s1.snd.2)
                        else Option.none
                      else Option.some (Bool.false, s1.snd.2)
                    else Option.none
                  else Option.none
                else Option.none
              else Option.some (Bool.false, s1.snd.2))
              fun (v2 : Bool × List (Bool × List Int)) =>
              if v2.fst = Bool.true then Option.some (Sum.inl (s1.1, Go.IntKind.wrap Go.IntKind.i64 (s1.snd.fst + (1 : Int)), v2.2))
              else
                if (0 : Int) ≤ s1.snd.fst ∧ s1.snd.fst ≤ (↑(List.length x.snd.snd.fst) : Int) then
                  if (0 : Int) ≤ s1.snd.fst ∧ s1.snd.fst ≤ s1.snd.fst then
                    if (0 : Int) ≤ s1.fst ∧ s1.fst ≤ s1.snd.fst then
                      if
                          Go.Sx.roomOk (List.length v2.snd + (1 : Nat))
                            { kind := Go.Sx.TK.slice (3 : Go.TypeId), size := (1 : Nat), bytes := (24 : Nat), ty := Option.some (Go.Sx.Ty.sl (Go.Sx.Ty.int Go.IntKind.i64)), zero := [Go.Sx.SV.nils] :
                                Go.Sx.TI }.bytes then
                        Option.some
                          (Sum.inl
                            (s1.snd.1, Go.IntKind.wrap Go.IntKind.i64 (s1.snd.fst + (1 : Int)),
                              v2.2 ++ [Go.Sx.Ty.lift (Go.Sx.Ty.osl (Go.Sx.Ty.int Go.IntKind.i64)) (List.drop (Int.toNat s1.fst) (List.take (Int.toNat s1.snd.fst) x.snd.snd.fst))]))
                      else Option.none
                    else Option.none
                  else Option.none
                else Option.none
          else Option.none
        else Option.some (Sum.inr s1.snd.2))
      ((0 : Int), (1 : Int), []))
    fun (v1 : List (Bool × List Int)) => Option.some (List.map (Go.Sx.Ty.erD (Go.Sx.Ty.osl (Go.Sx.Ty.int Go.IntKind.i64))) v1)
theorem Q.f20eq : ∀ x, runFn Q.C Q.f20Γ Q.f20sig Q.f20ann Go.Proofs.Try.f20 x = Q.f20F x := by
  intro x
  kernel_rfl
noncomputable def Q.f20con : Con := ⟨20, Q.f20sig, Q.f20F⟩
theorem Q.f20ok : Con.Ok Go.Proofs.Try.prog Q.C Q.f20con :=
  runFn_ok (Γ := Q.f20Γ) (an := Q.f20ann) ⟨Q.Cok, (fun _ h => nomatch h), Q.mixed⟩ Go.Proofs.Try.func20 rfl rfl (fun x y h => (Q.f20eq x).trans h) (by decide)
def Q.f33sig : Sig := ⟨⟨[.ro (.st (.pair (.sl (.int .i64)) (.pair (.sl (.int .i64)) (.pair (.sl (.int .i64)) (.sl (.int .i64)))))), .hole (.int .i64), .hole (.int .i64), .hole (.int .i64)], []⟩, ⟨[.hole (.int .i64)], []⟩⟩
noncomputable def Q.f33Γ : List Con := []
def Q.f33ann : Ann :=
  (.seq .leaf (.seq .leaf (.seq (.seq (.join [⟨.normal, [(29, .hole .bool)], []⟩] .leaf) (.cond (.seq .leaf .leaf) .leaf)) (.seq .leaf .leaf))))
/- (*ductus/seq.text).level -/
noncomputable def Q.f33F : (List Int × List Int × List Int × List Int) × Int × Int × Int → Option (Int) :=
  fun (x : (List Int × List Int × List Int × List Int) × Int × Int × Int) =>
  if (0 : Int) ≤ x.snd.fst ∧ x.snd.fst < (↑(List.length x.fst.snd.snd.snd) : Int) then
    Option.bind
      (if Decidable.decide (Go.IntKind.wrap Go.IntKind.i64 (List.getD x.fst.snd.snd.snd (Int.toNat x.snd.fst) (0 : Int) + x.snd.snd.fst) < (0 : Int)) = Bool.true then Option.some Bool.true
      else Option.some (Decidable.decide (Go.IntKind.wrap Go.IntKind.i64 (List.getD x.fst.snd.snd.snd (Int.toNat x.snd.fst) (0 : Int) + x.snd.snd.fst) ≥ (↑(List.length x.fst.snd.snd.fst) : Int))))
      fun (v1 : Bool) =>
      if v1 = Bool.true then Option.some x.snd.snd.2
      else
        if
            (0 : Int) ≤ Go.IntKind.wrap Go.IntKind.i64 (List.getD x.fst.snd.snd.snd (Int.toNat x.snd.fst) (0 : Int) + x.snd.snd.fst) ∧
              Go.IntKind.wrap Go.IntKind.i64 (List.getD x.fst.snd.snd.snd (Int.toNat x.snd.fst) (0 : Int) + x.snd.snd.fst) < (↑(List.length x.fst.snd.snd.fst) : Int) then
          if
              (0 : Int) ≤ List.getD x.fst.snd.snd.fst (Int.toNat (Go.IntKind.wrap Go.IntKind.i64 (List.getD x.fst.snd.snd.snd (Int.toNat x.snd.fst) (0 : Int) + x.snd.snd.fst))) (0 : Int) ∧
                List.getD x.fst.snd.snd.fst (Int.toNat (Go.IntKind.wrap Go.IntKind.i64 (List.getD x.fst.snd.snd.snd (Int.toNat x.snd.fst) (0 : Int) + x.snd.snd.fst))) (0 : Int) <
                  (↑(List.length x.fst.snd.fst) : Int) then
            Option.some
              (List.getD x.fst.snd.fst
                (Int.toNat (List.getD x.fst.snd.snd.fst (Int.toNat (Go.IntKind.wrap Go.IntKind.i64 (List.getD x.fst.snd.snd.snd (Int.toNat x.snd.fst) (0 : Int) + x.snd.snd.fst))) (0 : Int)))
                (0 : Int))
          else Option.none
        else Option.none
  else Option.none
theorem Q.f33eq : ∀ x, runFn Q.C Q.f33Γ Q.f33sig Q.f33ann Go.Proofs.Try.f33 x = Q.f33F x := by
  intro x
  kernel_rfl
noncomputable def Q.f33con : Con := ⟨33, Q.f33sig, Q.f33F⟩
theorem Q.f33ok : Con.Ok Go.Proofs.Try.prog Q.C Q.f33con :=
  runFn_ok (Γ := Q.f33Γ) (an := Q.f33ann) ⟨Q.Cok, (fun _ h => nomatch h), Q.mixed⟩ Go.Proofs.Try.func33 rfl rfl (fun x y h => (Q.f33eq x).trans h) (by decide)
def Q.f13sig : Sig := ⟨⟨[.hole (.int .i64)], []⟩, ⟨[.hole (.int .i64)], []⟩⟩
noncomputable def Q.f13Γ : List Con := []
def Q.f13ann : Ann :=
  (.seq .leaf (.seq (.seq .leaf (.cond (.seq .leaf .leaf) .leaf)) (.seq .leaf .leaf)))
/- ductus/seq.Dir -/
noncomputable def Q.f13F : Int → Option (Int) :=
  fun (x : Int) =>
  if
      (Go.IntKind.wrap Go.IntKind.i64 (↑(BitVec.toNat (BitVec.ofInt (Go.IntKind.bits Go.IntKind.i64) x &&& BitVec.ofInt (Go.IntKind.bits Go.IntKind.i64) (1 : Int))) : Int) == (1 : Int)) =
        Bool.true then
    Option.some (1 : Int)
  else Option.some (0 : Int)
theorem Q.f13eq : ∀ x, runFn Q.C Q.f13Γ Q.f13sig Q.f13ann Go.Proofs.Try.f13 x = Q.f13F x := by
  intro x
  kernel_rfl
noncomputable def Q.f13con : Con := ⟨13, Q.f13sig, Q.f13F⟩
theorem Q.f13ok : Con.Ok Go.Proofs.Try.prog Q.C Q.f13con :=
  runFn_ok (Γ := Q.f13Γ) (an := Q.f13ann) ⟨Q.Cok, (fun _ h => nomatch h), Q.mixed⟩ Go.Proofs.Try.func13 rfl rfl (fun x y h => (Q.f13eq x).trans h) (by decide)
def Q.f22sig : Sig := ⟨⟨[.ro (.st (.pair (.sl (.int .i64)) (.pair (.sl (.int .i64)) (.pair (.sl (.int .i64)) (.sl (.int .i64)))))), .hole (.sl (.int .i64)), .hole (.int .i64)], []⟩, ⟨[.hole (.st (.pair (.sl (.int .i64)) (.pair (.int .i64) (.pair (.int .i64) (.int .i64)))))], []⟩⟩
noncomputable def Q.f22Γ : List Con := [Q.f21con, Q.f33con, Q.f13con]
def Q.f22ann : Ann :=
  (.seq .leaf (.seq .leaf (.seq .leaf (.seq .leaf (.seq (.join [⟨.normal, [(10, .hole (.int .i64))], [.cells [.own 2, .hole (.int .i64), .hole (.int .i64), .hole (.int .i64)], .cells [.hole (.sl (.int .i64)), .hole (.int .i64), .hole (.int .i64), .hole (.int .i64)], .arr 3 (.int .i64)]⟩] (.seq .leaf (.seq (.join [⟨.normal, [(44, .hole .bool)], [.cells [.own 2, .hole (.int .i64), .hole (.int .i64), .hole (.int .i64)], .cells [.hole (.sl (.int .i64)), .hole (.int .i64), .hole (.int .i64), .hole (.int .i64)], .arr 3 (.int .i64)]⟩] .leaf) (.cond .leaf .leaf)))) (.seq (.eff 3 [] [0, 1, 0, 0, 0, 28, 63, 127, 0, 256, 768, 1792, 0, 7936, 16128, 0, 65280, 131071, 255, 524287, 1048575, 2097151]) (.seq .leaf .leaf)))))))
/- (*ductus/seq.text).seq -/
noncomputable def Q.f22F : (List Int × List Int × List Int × List Int) × List Int × Int → Option (List Int × Int × Int × Int) :=
  fun (x : (List Int × List Int × List Int × List Int) × List Int × Int) =>
  if (0 : Int) ≤ (0 : Int) ∧ (0 : Int) < (↑(List.length x.snd.fst) : Int) then
    if
        (0 : Int) ≤ Go.IntKind.wrap Go.IntKind.i64 ((↑(List.length x.snd.fst) : Int) - (1 : Int)) ∧
          Go.IntKind.wrap Go.IntKind.i64 ((↑(List.length x.snd.fst) : Int) - (1 : Int)) < (↑(List.length x.snd.fst) : Int) then
      if (0 : Int) ≤ List.getD x.snd.fst (Int.toNat (0 : Int)) (0 : Int) ∧ List.getD x.snd.fst (Int.toNat (0 : Int)) (0 : Int) < (↑(List.length x.fst.snd.fst) : Int) then
        Option.bind
          (if
              (0 : Int) ≤ List.getD x.snd.fst (Int.toNat (Go.IntKind.wrap Go.IntKind.i64 ((↑(List.length x.snd.fst) : Int) - (1 : Int)))) (0 : Int) ∧
                List.getD x.snd.fst (Int.toNat (Go.IntKind.wrap Go.IntKind.i64 ((↑(List.length x.snd.fst) : Int) - (1 : Int)))) (0 : Int) < (↑(List.length x.fst.fst) : Int) then
            Option.bind
              (if
                  (List.getD x.fst.fst (Int.toNat (List.getD x.snd.fst (Int.toNat (Go.IntKind.wrap Go.IntKind.i64 ((↑(List.length x.snd.fst) : Int) - (1 : Int)))) (0 : Int))) (0 : Int) !=
                      (10 : Int)) =
                    Bool.true then
                Option.bind
                  (Go.Sx.Q.f21F (List.getD x.fst.fst (Int.toNat (List.getD x.snd.fst (Int.toNat (Go.IntKind.wrap Go.IntKind.i64 ((↑(List.length x.snd.fst) : Int) - (1 : Int)))) (0 : Int))) (0 : Int)))
                  fun (v1 : Bool) =>
                  Option.some
                    (!v1, (0 : Int), (0 : Int), (0 : Int), x.snd.1, List.getD x.fst.snd.fst (Int.toNat (List.getD x.snd.fst (Int.toNat (0 : Int)) (0 : Int))) (0 : Int), (0 : Int), (0 : Int), [])
              else
                Option.some
                  (Bool.false, (0 : Int), (0 : Int), (0 : Int), x.snd.1, List.getD x.fst.snd.fst (Int.toNat (List.getD x.snd.fst (Int.toNat (0 : Int)) (0 : Int))) (0 : Int), (0 : Int), (0 : Int), []))
              fun (v1 : Bool × Int × Int × Int × List Int × Int × Int × Int × List Int) =>
              if v1.fst = Bool.true then
                Option.bind (Go.Sx.Q.f33F (x.1, List.getD x.snd.fst (Int.toNat (Go.IntKind.wrap Go.IntKind.i64 ((↑(List.length x.snd.fst) : Int) - (1 : Int)))) (0 : Int), (1 : Int), x.snd.2))
                  fun (v2 : Int) =>
                  Option.some
                    (v2, v1.snd.1, v1.snd.snd.1, v1.snd.snd.snd.1, v1.snd.snd.snd.snd.1, v1.snd.snd.snd.snd.snd.1, v1.snd.snd.snd.snd.snd.snd.1, v1.snd.snd.snd.snd.snd.snd.snd.1,
                      v1.snd.snd.snd.snd.snd.snd.snd.2)
              else
                Option.some
                  (x.snd.2, v1.snd.1, v1.snd.snd.1, v1.snd.snd.snd.1, v1.snd.snd.snd.snd.1, v1.snd.snd.snd.snd.snd.1, v1.snd.snd.snd.snd.snd.snd.1, v1.snd.snd.snd.snd.snd.snd.snd.1,
                    v1.snd.snd.snd.snd.snd.snd.snd.2)
          else Option.none)
          fun (v1 : Int × Int × Int × Int × List Int × Int × Int × Int × List Int) =>
          Option.bind (Go.Sx.Q.f33F (x.1, List.getD x.snd.fst (Int.toNat (0 : Int)) (0 : Int), (-1 : Int), x.snd.2)) fun (v2 : Int) =>
            Option.bind (Go.Sx.Q.f13F (Go.Sx.maxI v1.snd.snd.snd.snd.snd.fst v2)) fun (v3 : Int) =>
              if
                  (0 : Int) ≤ List.getD x.snd.fst (Int.toNat (Go.IntKind.wrap Go.IntKind.i64 ((↑(List.length x.snd.fst) : Int) - (1 : Int)))) (0 : Int) ∧
                    List.getD x.snd.fst (Int.toNat (Go.IntKind.wrap Go.IntKind.i64 ((↑(List.length x.snd.fst) : Int) - (1 : Int)))) (0 : Int) < (↑(List.length x.fst.snd.fst) : Int) then
                Option.bind
                  (Go.Sx.Q.f13F
                    (Go.Sx.maxI
                      (List.getD x.fst.snd.fst (Int.toNat (List.getD x.snd.fst (Int.toNat (Go.IntKind.wrap Go.IntKind.i64 ((↑(List.length x.snd.fst) : Int) - (1 : Int)))) (0 : Int))) (0 : Int))
                      v1.fst))
                  fun (v4 : Int) => Option.some (v1.snd.snd.snd.snd.1, v1.snd.snd.snd.snd.snd.1, v3, v4)
              else Option.none
      else Option.none
    else Option.none
  else Option.none
theorem Q.f22eq : ∀ x, runFn Q.C Q.f22Γ Q.f22sig Q.f22ann Go.Proofs.Try.f22 x = Q.f22F x := by
  intro x
  kernel_rfl
noncomputable def Q.f22con : Con := ⟨22, Q.f22sig, Q.f22F⟩
theorem Q.f22ok : Con.Ok Go.Proofs.Try.prog Q.C Q.f22con :=
  runFn_ok (Γ := Q.f22Γ) (an := Q.f22ann) ⟨Q.Cok, (List.forall_mem_cons.2 ⟨Q.f21ok, (List.forall_mem_cons.2 ⟨Q.f33ok, (List.forall_mem_cons.2 ⟨Q.f13ok, (fun _ h => nomatch h)⟩)⟩)⟩), Q.mixed⟩ Go.Proofs.Try.func22 rfl rfl (fun x y h => (Q.f22eq x).trans h) (by decide)
def Q.f7sig : Sig := ⟨⟨[.hole (.sl (.int .i64)), .hole (.sl (.int .i64)), .hole (.int .i64)], []⟩, ⟨[.hole (.sl (.st (.pair (.sl (.int .i64)) (.pair (.int .i64) (.pair (.int .i64) (.int .i64))))))], []⟩⟩
noncomputable def Q.f7Γ : List Con := [Q.f18con, Q.f19con, Q.f20con, Q.f21con, Q.f22con]
def Q.f7ann : Ann :=
  (.seq .leaf (.seq (.seq .leaf (.cond (.seq .leaf .leaf) .leaf)) (.seq .leaf (.seq .leaf (.seq .leaf (.seq .leaf (.seq (.seq .leaf (.block (.loop ⟨.normal, [(10, .own 4), (33, .hole (.int .i64))], [.gone, .gone, .gone, .map (.int .i64) (.int .i64), .arr 22 (.osl (.int .i64))]⟩ [⟨(.exit 0), [(10, .own 4)], [.gone, .gone, .gone, .gone, .arr 22 (.osl (.int .i64))]⟩] (.seq .leaf (.seq (.cond .leaf .leaf) (.seq (.block (.seq .leaf (.seq .leaf (.seq (.join [⟨.normal, [(13, .hole (.int .i64)), (10, .own 5)], [.gone, .gone, .gone, .map (.int .i64) (.int .i64), .gone, .arr 22 (.osl (.int .i64))]⟩] (.seq .leaf (.cond (.seq .leaf .leaf) .leaf))) (.seq .leaf (.seq .leaf (.seq (.join [⟨.normal, [(78, .hole .bool)], [.gone, .gone, .gone, .map (.int .i64) (.int .i64), .gone, .arr 22 (.osl (.int .i64)), .gone, .gone]⟩] .leaf) (.cond .leaf .leaf)))))))) .leaf)))))) (.seq .leaf (.seq (.seq .leaf (.block (.loop ⟨.normal, [(16, .own 5), (88, .hole (.int .i64))], [.gone, .gone, .gone, .gone, .arr 22 (.osl (.int .i64)), .arr 36 (.st (.pair (.sl (.int .i64)) (.pair (.int .i64) (.pair (.int .i64) (.int .i64)))))]⟩ [⟨(.exit 2), [(16, .own 5)], [.gone, .gone, .gone, .gone, .gone, .arr 36 (.st (.pair (.sl (.int .i64)) (.pair (.int .i64) (.pair (.int .i64) (.int .i64)))))]⟩] (.seq .leaf (.seq (.cond .leaf .leaf) (.seq (.block (.seq .leaf .leaf)) .leaf)))))) (.seq .leaf .leaf))))))))))
/- ductus/seq.Of -/
noncomputable def Q.f7F : List Int × List Int × Int → Option (List (List Int × Int × Int × Int)) :=
  fun (x : List Int × List Int × Int) =>
  if ((↑(List.length x.fst) : Int) != (↑(List.length x.snd.fst) : Int)) = Bool.true then Option.some []
  else
    Option.bind (Go.Sx.Q.f18F (x.1, x.snd.1)) fun (v1 : List Int × List Int × List Int × List Int) =>
      Option.bind (Go.Sx.Q.f19F x.1) fun (v2 : List Int) =>
        Option.bind (Go.Sx.Q.f20F (v1.1, v1.snd.1, v1.snd.snd.1, v1.snd.snd.2)) fun (v3 : List (List Int)) =>
          Option.bind
            (Go.Sx.iter
              (fun (s4 : Int × List (Int × Int) × List (Bool × List Int)) =>
                if Decidable.decide (s4.fst < (↑(List.length v3) : Int)) = Bool.true then
                  if (0 : Int) ≤ s4.fst ∧ s4.fst < (↑(List.length v3) : Int) then
                    if (0 : Int) ≤ (0 : Int) ∧ (0 : Int) < (↑(List.length (List.getD v3 (Int.toNat s4.fst) [])) : Int) then
                      Option.bind
                        (if
                            (!Option.isSome
                                  (Go.Sx.mgetX (Go.Sx.Ty.int Go.IntKind.i64) (Go.Sx.Ty.int Go.IntKind.i64) s4.snd.fst
                                    (List.getD (List.getD v3 (Int.toNat s4.fst) []) (Int.toNat (0 : Int)) (0 : Int)))) =
                              Bool.true then
                          if
                              Go.Sx.roomOk (List.length s4.snd.snd + (1 : Nat))
                                { kind := Go.Sx.TK.slice (3 : Go.TypeId), size := (1 : Nat), bytes := (24 : Nat), ty := Option.some (Go.Sx.Ty.sl (Go.Sx.Ty.int Go.IntKind.i64)),
                                    zero := [Go.Sx.SV.nils] : Go.Sx.TI }.bytes then
                            Option.some ((↑(List.length s4.snd.snd) : Int), s4.snd.1, s4.snd.2 ++ [(Bool.true, [])])
                          else Option.none
                        else
                          Option.some
                            (Option.getD
                                (Go.Sx.mgetX (Go.Sx.Ty.int Go.IntKind.i64) (Go.Sx.Ty.int Go.IntKind.i64) s4.snd.fst (List.getD (List.getD v3 (Int.toNat s4.fst) []) (Int.toNat (0 : Int)) (0 : Int)))
                                (0 : Int),
                              s4.snd.1, s4.snd.2))
                        fun (v5 : Int × List (Int × Int) × List (Bool × List Int)) =>
                        if (0 : Int) ≤ v5.fst ∧ v5.fst < (↑(List.length v5.snd.snd) : Int) then
                          if Go.Sx.ownedP (List.getD v5.snd.2 (Int.toNat v5.fst) (Bool.false, [])).fst then
                            if
                                Go.Sx.roomOk (List.length (List.getD v5.snd.2 (Int.toNat v5.fst) (Bool.false, [])).snd + List.length (List.getD v3 (Int.toNat s4.fst) []))
                                  { kind := Go.Sx.TK.int Go.IntKind.i64, size := (1 : Nat), bytes := (8 : Nat), ty := Option.some (Go.Sx.Ty.int Go.IntKind.i64),
                                      zero := [Go.Sx.SV.val (Go.Sx.Ty.int Go.IntKind.i64) (0 : Int)] : Go.Sx.TI }.bytes then
                              if
                                  (0 : Int) ≤ v5.fst ∧
                                    v5.fst < (↑(List.length (List.set v5.snd.2 (Int.toNat v5.fst) (Bool.false, (List.getD v5.snd.2 (Int.toNat v5.fst) (Bool.false, [])).snd))) : Int) then
                                if
                                    (0 : Int) ≤ Go.IntKind.wrap Go.IntKind.i64 ((↑(List.length (List.getD v3 (Int.toNat s4.fst) [])) : Int) - (1 : Int)) ∧
                                      Go.IntKind.wrap Go.IntKind.i64 ((↑(List.length (List.getD v3 (Int.toNat s4.fst) [])) : Int) - (1 : Int)) <
                                        (↑(List.length (List.getD v3 (Int.toNat s4.fst) [])) : Int) then
                                  Option.bind
                                    (if
                                        (0 : Int) ≤
                                            List.getD (List.getD v3 (Int.toNat s4.fst) [])
                                              (Int.toNat (Go.IntKind.wrap Go.IntKind.i64 ((↑(List.length (List.getD v3 (Int.toNat s4.fst) [])) : Int) - (1 : Int)))) (0 : Int) ∧
                                          List.getD (List.getD v3 (Int.toNat s4.fst) [])
                                              (Int.toNat (Go.IntKind.wrap Go.IntKind.i64 ((↑(List.length (List.getD v3 (Int.toNat s4.fst) [])) : Int) - (1 : Int)))) (0 : Int) <
                                            (↑(List.length x.fst) : Int) then
                                      Option.bind
                                        (Go.Sx.Q.f21F
                                          (List.getD x.fst
                                            (Int.toNat
                                              (List.getD (List.getD v3 (Int.toNat s4.fst) [])
                                                (Int.toNat (Go.IntKind.wrap Go.IntKind.i64 ((↑(List.length (List.getD v3 (Int.toNat s4.fst) [])) : Int) - (1 : Int)))) (0 : Int)))
                                            (0 : Int)))
                                        fun (v6 : Bool) =>
                                        if v6 = Bool.true then
                                          if
                                              (0 : Int) ≤
                                                  List.getD (List.getD v3 (Int.toNat s4.fst) [])
                                                    (Int.toNat (Go.IntKind.wrap Go.IntKind.i64 ((↑(List.length (List.getD v3 (Int.toNat s4.fst) [])) : Int) - (1 : Int)))) (0 : Int) ∧
                                                List.getD (List.getD v3 (Int.toNat s4.fst) [])
                                                    (Int.toNat (Go.IntKind.wrap Go.IntKind.i64 ((↑(List.length (List.getD v3 (Int.toNat s4.fst) [])) : Int) - (1 : Int)))) (0 : Int) <
                                                  (↑(List.length v2) : Int) then
                                            Option.some
                                              (List.getD v2
                                                    (Int.toNat
                                                      (List.getD (List.getD v3 (Int.toNat s4.fst) [])
                                                        (Int.toNat (Go.IntKind.wrap Go.IntKind.i64 ((↑(List.length (List.getD v3 (Int.toNat s4.fst) [])) : Int) - (1 : Int)))) (0 : Int)))
                                                    (0 : Int) !=
                                                  (-1 : Int),
                                                v5.snd.1,
                                                List.set (List.set v5.snd.2 (Int.toNat v5.fst) (Bool.false, (List.getD v5.snd.2 (Int.toNat v5.fst) (Bool.false, [])).snd)) (Int.toNat v5.fst)
                                                  (Bool.true, (List.getD v5.snd.2 (Int.toNat v5.fst) (Bool.false, [])).snd ++ List.getD v3 (Int.toNat s4.fst) []))
                                          else Option.none
                                        else
                                          Option.some
                                            (Bool.false, v5.snd.1,
                                              List.set (List.set v5.snd.2 (Int.toNat v5.fst) (Bool.false, (List.getD v5.snd.2 (Int.toNat v5.fst) (Bool.false, [])).snd)) (Int.toNat v5.fst)
                                                (Bool.true, (List.getD v5.snd.2 (Int.toNat v5.fst) (Bool.false, [])).snd ++ List.getD v3 (Int.toNat s4.fst) []))
                                    else Option.none)
                                    fun (v6 : Bool × List (Int × Int) × List (Bool × List Int)) =>
                                    if v6.fst = Bool.true then
                                      if
                                          (0 : Int) ≤
                                              List.getD (List.getD v3 (Int.toNat s4.fst) [])
                                                (Int.toNat (Go.IntKind.wrap Go.IntKind.i64 ((↑(List.length (List.getD v3 (Int.toNat s4.fst) [])) : Int) - (1 : Int)))) (0 : Int) ∧
                                            List.getD (List.getD v3 (Int.toNat s4.fst) [])
                                                (Int.toNat (Go.IntKind.wrap Go.IntKind.i64 ((↑(List.length (List.getD v3 (Int.toNat s4.fst) [])) : Int) - (1 : Int)))) (0 : Int) <
                                              (↑(List.length v2) : Int) then
                                        Option.some
                                          (Sum.inl
                                            (Go.IntKind.wrap Go.IntKind.i64 (s4.fst + (1 : Int)),
                                              Go.Sx.mputX (Go.Sx.Ty.int Go.IntKind.i64) (Go.Sx.Ty.int Go.IntKind.i64) v6.snd.1
                                                (List.getD v2
                                                  (Int.toNat
                                                    (List.getD (List.getD v3 (Int.toNat s4.fst) [])
                                                      (Int.toNat (Go.IntKind.wrap Go.IntKind.i64 ((↑(List.length (List.getD v3 (Int.toNat s4.fst) [])) : Int) - (1 : Int)))) (0 : Int)))
                                                  (0 : Int))
                                                v5.1,
                                              v6.snd.2))
                                      else Option.none
                                    else Option.some (Sum.inl (Go.IntKind.wrap Go.IntKind.i64 (s4.fst + (1 : Int)), v6.snd.1, v6.snd.2))
                                else Option.none
                              else Option.none
                            else Option.none
                          else Option.none
                        else Option.none
                    else Option.none
                  else Option.none
                else Option.some (Sum.inr s4.snd.2))
              ((0 : Int), [], []))
            fun (v4 : List (Bool × List Int)) =>
            Option.bind
              (Go.Sx.iter
                (fun (s5 : Int × List (Bool × List Int) × List (List Int × Int × Int × Int)) =>
                  if Decidable.decide (s5.fst < (↑(List.length v4) : Int)) = Bool.true then
                    if (0 : Int) ≤ s5.fst ∧ s5.fst < (↑(List.length s5.snd.fst) : Int) then
                      Option.bind (Go.Sx.Q.f22F ((v1.1, v1.snd.1, v1.snd.snd.1, v1.snd.snd.2), (List.getD s5.snd.1 (Int.toNat s5.fst) (Bool.false, [])).2, x.snd.2))
                        fun (v6 : List Int × Int × Int × Int) =>
                        if
                            Go.Sx.roomOk (List.length s5.snd.snd + (1 : Nat))
                              {
                                  kind :=
                                    Go.Sx.TK.struct
                                      [((22 : Go.TypeId), (0 : Nat), (1 : Nat), Bool.false), ((3 : Go.TypeId), (1 : Nat), (1 : Nat), Bool.false), ((3 : Go.TypeId), (2 : Nat), (1 : Nat), Bool.false),
                                        ((3 : Go.TypeId), (3 : Nat), (1 : Nat), Bool.false)],
                                  size := (4 : Nat), bytes := (48 : Nat),
                                  ty :=
                                    Option.some
                                      (Go.Sx.Ty.st
                                        (Go.Sx.Ty.pair (Go.Sx.Ty.sl (Go.Sx.Ty.int Go.IntKind.i64))
                                          (Go.Sx.Ty.pair (Go.Sx.Ty.int Go.IntKind.i64) (Go.Sx.Ty.pair (Go.Sx.Ty.int Go.IntKind.i64) (Go.Sx.Ty.int Go.IntKind.i64))))),
                                  zero :=
                                    [Go.Sx.SV.nils, Go.Sx.SV.val (Go.Sx.Ty.int Go.IntKind.i64) (0 : Int), Go.Sx.SV.val (Go.Sx.Ty.int Go.IntKind.i64) (0 : Int),
                                      Go.Sx.SV.val (Go.Sx.Ty.int Go.IntKind.i64) (0 : Int)] :
                                  Go.Sx.TI }.bytes then
                          Option.some (Sum.inl (Go.IntKind.wrap Go.IntKind.i64 (s5.fst + (1 : Int)), s5.snd.1, s5.snd.2 ++ [v6]))
                        else Option.none
                    else Option.none
                  else Option.some (Sum.inr s5.snd.2))
                ((0 : Int), v4, []))
              fun (v5 : List (List Int × Int × Int × Int)) => Option.some v5
theorem Q.f7eq : ∀ x, runFn Q.C Q.f7Γ Q.f7sig Q.f7ann Go.Proofs.Try.f7 x = Q.f7F x := by
  intro x
  kernel_rfl
noncomputable def Q.f7con : Con := ⟨7, Q.f7sig, Q.f7F⟩
theorem Q.f7ok : Con.Ok Go.Proofs.Try.prog Q.C Q.f7con :=
  runFn_ok (Γ := Q.f7Γ) (an := Q.f7ann) ⟨Q.Cok, (List.forall_mem_cons.2 ⟨Q.f18ok, (List.forall_mem_cons.2 ⟨Q.f19ok, (List.forall_mem_cons.2 ⟨Q.f20ok, (List.forall_mem_cons.2 ⟨Q.f21ok, (List.forall_mem_cons.2 ⟨Q.f22ok, (fun _ h => nomatch h)⟩)⟩)⟩)⟩)⟩), Q.mixed⟩ Go.Proofs.Try.func7 rfl rfl (fun x y h => (Q.f7eq x).trans h) (by decide)
def Q.f11sig : Sig := ⟨⟨[.hole (.sl (.int .i64)), .hole (.sl (.int .i64))], []⟩, ⟨[.hole (.sl (.arr 2 (.int .i64)))], []⟩⟩
noncomputable def Q.f11Γ : List Con := [Q.f18con, Q.f20con]
def Q.f11ann : Ann :=
  (.seq .leaf (.seq (.seq .leaf (.cond (.seq .leaf .leaf) .leaf)) (.seq .leaf (.seq (.seq .leaf (.block (.loop ⟨.normal, [(5, .own 3), (18, .hole (.int .i64))], [.gone, .gone, .gone, .arr 39 (.arr 2 (.int .i64))]⟩ [⟨(.exit 0), [(5, .own 3)], [.gone, .gone, .gone, .arr 39 (.arr 2 (.int .i64))]⟩] (.seq .leaf (.seq (.cond .leaf .leaf) (.seq (.block (.seq .leaf (.effl 6 [] [0, 0, 2, 6, 0, 0, 32, 96, 240, 496, 1022, 2046, 4095]))) .leaf)))))) (.seq .leaf .leaf)))))
/- ductus/seq.Runs -/
noncomputable def Q.f11F : List Int × List Int → Option (List (List Int)) :=
  fun (x : List Int × List Int) =>
  if ((↑(List.length x.fst) : Int) != (↑(List.length x.snd) : Int)) = Bool.true then Option.some []
  else
    Option.bind (Go.Sx.Q.f18F (x.1, x.2)) fun (v1 : List Int × List Int × List Int × List Int) =>
      Option.bind (Go.Sx.Q.f20F (v1.1, v1.snd.1, v1.snd.snd.1, v1.snd.snd.2)) fun (v2 : List (List Int)) =>
        Option.bind
          (Go.Sx.iter
            (fun (s3 : Int × List (List Int)) =>
              if Decidable.decide (s3.fst < (↑(List.length v2) : Int)) = Bool.true then
                if (0 : Int) ≤ s3.fst ∧ s3.fst < (↑(List.length v2) : Int) then
                  if (0 : Int) ≤ (0 : Int) ∧ (0 : Int) < (↑(List.length (List.getD v2 (Int.toNat s3.fst) [])) : Int) then
                    if
                        (0 : Int) ≤ Go.IntKind.wrap Go.IntKind.i64 ((↑(List.length (List.getD v2 (Int.toNat s3.fst) [])) : Int) - (1 : Int)) ∧
                          Go.IntKind.wrap Go.IntKind.i64 ((↑(List.length (List.getD v2 (Int.toNat s3.fst) [])) : Int) - (1 : Int)) < (↑(List.length (List.getD v2 (Int.toNat s3.fst) [])) : Int) then
                      if
                          Go.Sx.roomOk (List.length s3.snd + (1 : Nat))
                            { kind := Go.Sx.TK.array (2 : Nat) (3 : Go.TypeId), size := (2 : Nat), bytes := (16 : Nat), ty := Option.some (Go.Sx.Ty.arr (2 : Nat) (Go.Sx.Ty.int Go.IntKind.i64)),
                                zero := [Go.Sx.SV.val (Go.Sx.Ty.int Go.IntKind.i64) (0 : Int), Go.Sx.SV.val (Go.Sx.Ty.int Go.IntKind.i64) (0 : Int)] : Go.Sx.TI }.bytes then
                        Option.some
                          (Sum.inl
                            (Go.IntKind.wrap Go.IntKind.i64 (s3.fst + (1 : Int)),
                              s3.2 ++
                                [[List.getD (List.getD v2 (Int.toNat s3.fst) []) (Int.toNat (0 : Int)) (0 : Int),
                                    List.getD (List.getD v2 (Int.toNat s3.fst) [])
                                      (Int.toNat (Go.IntKind.wrap Go.IntKind.i64 ((↑(List.length (List.getD v2 (Int.toNat s3.fst) [])) : Int) - (1 : Int)))) (0 : Int)]]))
                      else Option.none
                    else Option.none
                  else Option.none
                else Option.none
              else Option.some (Sum.inr s3.2))
            ((0 : Int), []))
          fun (v3 : List (List Int)) => Option.some v3
theorem Q.f11eq : ∀ x, runFn Q.C Q.f11Γ Q.f11sig Q.f11ann Go.Proofs.Try.f11 x = Q.f11F x := by
  intro x
  kernel_rfl
noncomputable def Q.f11con : Con := ⟨11, Q.f11sig, Q.f11F⟩
theorem Q.f11ok : Con.Ok Go.Proofs.Try.prog Q.C Q.f11con :=
  runFn_ok (Γ := Q.f11Γ) (an := Q.f11ann) ⟨Q.Cok, (List.forall_mem_cons.2 ⟨Q.f18ok, (List.forall_mem_cons.2 ⟨Q.f20ok, (fun _ h => nomatch h)⟩)⟩), Q.mixed⟩ Go.Proofs.Try.func11 rfl rfl (fun x y h => (Q.f11eq x).trans h) (by decide)
def Q.f27sig : Sig := ⟨⟨[.hole (.sl (.int .i64)), .hole (.sl (.int .i64))], []⟩, ⟨[.hole .bool], []⟩⟩
noncomputable def Q.f27Γ : List Con := []
def Q.f27ann : Ann :=
  (.seq .leaf (.seq (.seq .leaf (.cond (.seq .leaf .leaf) .leaf)) (.seq (.seq .leaf (.block (.loop ⟨.normal, [(5, .hole (.int .i64))], []⟩ [⟨(.exit 0), [], []⟩, ⟨.ret, [(4, .hole .bool)], []⟩] (.seq (.seq .leaf (.cond .leaf .leaf)) (.seq (.block (.seq .leaf (.cond (.seq .leaf .leaf) .leaf))) .leaf))))) (.seq .leaf .leaf))))
/- ductus/ductusref01.Ints -/
noncomputable def Q.f27F : List Int × List Int → Option (Bool) :=
  fun (x : List Int × List Int) =>
  if ((↑(List.length x.fst) : Int) != (↑(List.length x.snd) : Int)) = Bool.true then Option.some Bool.false
  else
    Option.bind
      (Go.Sx.iter
        (fun (s1 : Int) =>
          if Decidable.decide (s1 < (↑(List.length x.fst) : Int)) = Bool.true then
            if (0 : Int) ≤ s1 ∧ s1 < (↑(List.length x.fst) : Int) then
              if (0 : Int) ≤ s1 ∧ s1 < (↑(List.length x.snd) : Int) then
                if (List.getD x.fst (Int.toNat s1) (0 : Int) != List.getD x.snd (Int.toNat s1) (0 : Int)) = Bool.true then Option.some (Sum.inr (Sum.inr Bool.false))
                else Option.some (Sum.inl (Go.IntKind.wrap Go.IntKind.i64 (s1 + (1 : Int))))
              else Option.none
            else Option.none
          else Option.some (Sum.inr (Sum.inl ())))
        (0 : Int))
      fun (v1 : PUnit ⊕ Bool) => Sum.elim (fun (p2 : PUnit) => Option.some Bool.true) (fun (q2 : Bool) => Option.some q2) v1
theorem Q.f27eq : ∀ x, runFn Q.C Q.f27Γ Q.f27sig Q.f27ann Go.Proofs.Try.f27 x = Q.f27F x := by
  intro x
  kernel_rfl
noncomputable def Q.f27con : Con := ⟨27, Q.f27sig, Q.f27F⟩
theorem Q.f27ok : Con.Ok Go.Proofs.Try.prog Q.C Q.f27con :=
  runFn_ok (Γ := Q.f27Γ) (an := Q.f27ann) ⟨Q.Cok, (fun _ h => nomatch h), Q.mixed⟩ Go.Proofs.Try.func27 rfl rfl (fun x y h => (Q.f27eq x).trans h) (by decide)
def Q.f9sig : Sig := ⟨⟨[.hole (.sl (.st (.pair (.sl (.int .i64)) (.pair (.int .i64) (.pair (.int .i64) (.int .i64)))))), .hole (.sl (.st (.pair (.sl (.int .i64)) (.pair (.int .i64) (.pair (.int .i64) (.int .i64))))))], []⟩, ⟨[.hole .bool], []⟩⟩
noncomputable def Q.f9Γ : List Con := [Q.f27con]
def Q.f9ann : Ann :=
  (.seq .leaf (.seq (.seq .leaf (.cond (.seq .leaf .leaf) .leaf)) (.seq (.seq .leaf (.block (.loop ⟨.normal, [(5, .hole (.int .i64))], []⟩ [⟨(.exit 0), [], []⟩, ⟨.ret, [(4, .hole .bool)], []⟩] (.seq (.seq .leaf (.cond .leaf .leaf)) (.seq (.block (.seq (.join [⟨.normal, [(67, .hole .bool)], []⟩] .leaf) (.cond (.seq .leaf .leaf) .leaf))) .leaf))))) (.seq .leaf .leaf))))
/- ductus/ductusref08.Same -/
noncomputable def Q.f9F : List (List Int × Int × Int × Int) × List (List Int × Int × Int × Int) → Option (Bool) :=
  fun (x : List (List Int × Int × Int × Int) × List (List Int × Int × Int × Int)) =>
  if ((↑(List.length x.fst) : Int) != (↑(List.length x.snd) : Int)) = Bool.true then Option.some Bool.false
  else
    Option.bind
      (Go.Sx.iter
        (fun (s1 : Int) =>
          if Decidable.decide (s1 < (↑(List.length x.fst) : Int)) = Bool.true then
            Option.bind
              (if (0 : Int) ≤ s1 ∧ s1 < (↑(List.length x.fst) : Int) then
                if (0 : Int) ≤ s1 ∧ s1 < (↑(List.length x.snd) : Int) then
                  Option.bind (Go.Sx.Q.f27F ((List.getD x.fst (Int.toNat s1) ([], (0 : Int), (0 : Int), (0 : Int))).1, (List.getD x.snd (Int.toNat s1) ([], (0 : Int), (0 : Int), (0 : Int))).1))
                    fun (v2 : Bool) =>
                    if (!v2) = Bool.true then Option.some Bool.true
                    else
                      if (0 : Int) ≤ s1 ∧ s1 < (↑(List.length x.fst) : Int) then
                        if (0 : Int) ≤ s1 ∧ s1 < (↑(List.length x.snd) : Int) then
                          if
                              ((List.getD x.fst (Int.toNat s1) ([], (0 : Int), (0 : Int), (0 : Int))).snd.fst != (List.getD x.snd (Int.toNat s1) ([], (0 : Int), (0 : Int), (0 : Int))).snd.fst) =
                                Bool.true then
                            Option.some Bool.true
                          else
                            if (0 : Int) ≤ s1 ∧ s1 < (↑(List.length x.fst) : Int) then
                              if (0 : Int) ≤ s1 ∧ s1 < (↑(List.length x.snd) : Int) then
                                if
                                    ((List.getD x.fst (Int.toNat s1) ([], (0 : Int), (0 : Int), (0 : Int))).snd.snd.fst !=
                                        (List.getD x.snd (Int.toNat s1) ([], (0 : Int), (0 : Int), (0 : Int))).snd.snd.fst) =
                                      Bool.true then
                                  Option.some Bool.true
                                else
                                  if (0 : Int) ≤ s1 ∧ s1 < (↑(List.length x.fst) : Int) then
                                    if (0 : Int) ≤ s1 ∧ s1 < (↑(List.length x.snd) : Int) then
                                      Option.some
                                        ((List.getD x.fst (Int.toNat s1) ([], (0 : Int), (0 : Int), (0 : Int))).snd.snd.snd !=
                                          (List.getD x.snd (Int.toNat s1) ([], (0 : Int), (0 : Int), (0 : Int))).snd.snd.snd)
                                    else Option.none
                                  else Option.none
                              else Option.none
                            else Option.none
                        else Option.none
                      else Option.none
                else Option.none
              else Option.none)
              fun (v2 : Bool) => if v2 = Bool.true then Option.some (Sum.inr (Sum.inr Bool.false)) else Option.some (Sum.inl (Go.IntKind.wrap Go.IntKind.i64 (s1 + (1 : Int))))
          else Option.some (Sum.inr (Sum.inl ())))
        (0 : Int))
      fun (v1 : PUnit ⊕ Bool) => Sum.elim (fun (p2 : PUnit) => Option.some Bool.true) (fun (q2 : Bool) => Option.some q2) v1
theorem Q.f9eq : ∀ x, runFn Q.C Q.f9Γ Q.f9sig Q.f9ann Go.Proofs.Try.f9 x = Q.f9F x := by
  intro x
  kernel_rfl
noncomputable def Q.f9con : Con := ⟨9, Q.f9sig, Q.f9F⟩
theorem Q.f9ok : Con.Ok Go.Proofs.Try.prog Q.C Q.f9con :=
  runFn_ok (Γ := Q.f9Γ) (an := Q.f9ann) ⟨Q.Cok, (List.forall_mem_cons.2 ⟨Q.f27ok, (fun _ h => nomatch h)⟩), Q.mixed⟩ Go.Proofs.Try.func9 rfl rfl (fun x y h => (Q.f9eq x).trans h) (by decide)
def Q.f51sig : Sig := ⟨⟨[.hole (.int .i64)], []⟩, ⟨[.hole .bool], []⟩⟩
noncomputable def Q.f51Γ : List Con := []
def Q.f51ann : Ann :=
  (.seq .leaf (.seq .leaf .leaf))
/- cmp.isNaN[int] -/
noncomputable def Q.f51F : Int → Option (Bool) :=
  fun (x : Int) => Option.some (x != x)
theorem Q.f51eq : ∀ x, runFn Q.C Q.f51Γ Q.f51sig Q.f51ann Go.Proofs.Try.f51 x = Q.f51F x := by
  intro x
  kernel_rfl
noncomputable def Q.f51con : Con := ⟨51, Q.f51sig, Q.f51F⟩
theorem Q.f51ok : Con.Ok Go.Proofs.Try.prog Q.C Q.f51con :=
  runFn_ok (Γ := Q.f51Γ) (an := Q.f51ann) ⟨Q.Cok, (fun _ h => nomatch h), Q.mixed⟩ Go.Proofs.Try.func51 rfl rfl (fun x y h => (Q.f51eq x).trans h) (by decide)
def Q.f45sig : Sig := ⟨⟨[.hole (.int .i64), .hole (.int .i64)], []⟩, ⟨[.hole .bool], []⟩⟩
noncomputable def Q.f45Γ : List Con := [Q.f51con]
def Q.f45ann : Ann :=
  (.seq .leaf (.seq .leaf .leaf))
/- cmp.Less[int] -/
noncomputable def Q.f45F : Int × Int → Option (Bool) :=
  fun (x : Int × Int) =>
  Option.bind (Go.Sx.Q.f51F x.1) fun (v1 : Bool) =>
    if v1 = Bool.true then Option.bind (Go.Sx.Q.f51F x.2) fun (v2 : Bool) => if (!v2) = Bool.true then Option.some Bool.true else Option.some (Decidable.decide (x.fst < x.snd))
    else Option.some (Decidable.decide (x.fst < x.snd))
theorem Q.f45eq : ∀ x, runFn Q.C Q.f45Γ Q.f45sig Q.f45ann Go.Proofs.Try.f45 x = Q.f45F x := by
  intro x
  kernel_rfl
noncomputable def Q.f45con : Con := ⟨45, Q.f45sig, Q.f45F⟩
theorem Q.f45ok : Con.Ok Go.Proofs.Try.prog Q.C Q.f45con :=
  runFn_ok (Γ := Q.f45Γ) (an := Q.f45ann) ⟨Q.Cok, (List.forall_mem_cons.2 ⟨Q.f51ok, (fun _ h => nomatch h)⟩), Q.mixed⟩ Go.Proofs.Try.func45 rfl rfl (fun x y h => (Q.f45eq x).trans h) (by decide)
def Q.f29sig : Sig := ⟨⟨[.hole (.sl (.int .i64))], []⟩, ⟨[.hole .bool], []⟩⟩
noncomputable def Q.f29Γ : List Con := [Q.f45con]
def Q.f29ann : Ann :=
  (.seq .leaf (.seq (.seq .leaf (.block (.loop ⟨.normal, [(3, .hole (.int .i64))], []⟩ [⟨(.exit 0), [], []⟩, ⟨.ret, [(2, .hole .bool)], []⟩] (.seq (.seq .leaf (.cond .leaf .leaf)) (.seq (.block (.seq .leaf (.cond (.seq .leaf .leaf) .leaf))) .leaf))))) (.seq .leaf .leaf)))
/- slices.IsSorted[[]int,int] -/
noncomputable def Q.f29F : List Int → Option (Bool) :=
  fun (x : List Int) =>
  Option.bind
    (Go.Sx.iter
      (fun (s1 : Int) =>
        if Decidable.decide (s1 > (0 : Int)) = Bool.true then
          if (0 : Int) ≤ s1 ∧ s1 < (↑(List.length x) : Int) then
            if (0 : Int) ≤ Go.IntKind.wrap Go.IntKind.i64 (s1 - (1 : Int)) ∧ Go.IntKind.wrap Go.IntKind.i64 (s1 - (1 : Int)) < (↑(List.length x) : Int) then
              Option.bind (Go.Sx.Q.f45F (List.getD x (Int.toNat s1) (0 : Int), List.getD x (Int.toNat (Go.IntKind.wrap Go.IntKind.i64 (s1 - (1 : Int)))) (0 : Int))) fun (v2 : Bool) =>
                if v2 = Bool.true then Option.some (Sum.inr (Sum.inr Bool.false)) else Option.some (Sum.inl (Go.IntKind.wrap Go.IntKind.i64 (s1 - (1 : Int))))
            else Option.none
          else Option.none
        else Option.some (Sum.inr (Sum.inl ())))
      (Go.IntKind.wrap Go.IntKind.i64 ((↑(List.length x) : Int) - (1 : Int))))
    fun (v1 : PUnit ⊕ Bool) => Sum.elim (fun (p2 : PUnit) => Option.some Bool.true) (fun (q2 : Bool) => Option.some q2) v1
theorem Q.f29eq : ∀ x, runFn Q.C Q.f29Γ Q.f29sig Q.f29ann Go.Proofs.Try.f29 x = Q.f29F x := by
  intro x
  kernel_rfl
noncomputable def Q.f29con : Con := ⟨29, Q.f29sig, Q.f29F⟩
theorem Q.f29ok : Con.Ok Go.Proofs.Try.prog Q.C Q.f29con :=
  runFn_ok (Γ := Q.f29Γ) (an := Q.f29ann) ⟨Q.Cok, (List.forall_mem_cons.2 ⟨Q.f45ok, (fun _ h => nomatch h)⟩), Q.mixed⟩ Go.Proofs.Try.func29 rfl rfl (fun x y h => (Q.f29eq x).trans h) (by decide)
def Q.f16sig : Sig := ⟨⟨[.hole (.sl (.st (.pair (.sl (.int .i64)) (.pair (.int .i64) (.pair (.int .i64) (.int .i64)))))), .hole (.int .i64)], []⟩, ⟨[.hole .bool], []⟩⟩
noncomputable def Q.f16Γ : List Con := [Q.f29con]
def Q.f16ann : Ann :=
  (.seq .leaf (.seq .leaf (.seq (.seq .leaf (.block (.loop ⟨.normal, [(13, .hole (.int .i64))], [.map (.int .i64) .bool]⟩ [⟨(.exit 0), [], [.gone]⟩, ⟨.ret, [(4, .hole .bool)], [.gone]⟩] (.seq .leaf (.seq (.cond .leaf .leaf) (.seq (.block (.seq .leaf (.seq (.seq .leaf (.cond (.seq .leaf .leaf) .leaf)) (.seq .leaf (.block (.loop ⟨.normal, [(24, .hole (.int .i64))], [.map (.int .i64) .bool, .gone]⟩ [⟨(.exit 2), [], [.map (.int .i64) .bool, .gone]⟩, ⟨.ret, [(4, .hole .bool)], [.gone, .gone]⟩] (.seq .leaf (.seq (.cond .leaf .leaf) (.seq (.block (.seq .leaf (.seq (.seq (.join [⟨.normal, [(39, .hole .bool)], [.map (.int .i64) .bool, .gone]⟩] .leaf) (.cond (.seq .leaf .leaf) .leaf)) .leaf))) .leaf))))))))) .leaf)))))) (.seq .leaf .leaf))))
/- ductus/seq.Right -/
noncomputable def Q.f16F : List (List Int × Int × Int × Int) × Int → Option (Bool) :=
  fun (x : List (List Int × Int × Int × Int) × Int) =>
  Option.bind
    (Go.Sx.iter
      (fun (s1 : Int × List (Int × Bool)) =>
        if Decidable.decide (s1.fst < (↑(List.length x.fst) : Int)) = Bool.true then
          if (0 : Int) ≤ s1.fst ∧ s1.fst < (↑(List.length x.fst) : Int) then
            Option.bind (Go.Sx.Q.f29F (List.getD x.fst (Int.toNat s1.fst) ([], (0 : Int), (0 : Int), (0 : Int))).1) fun (v2 : Bool) =>
              if (!v2) = Bool.true then Option.some (Sum.inr (Sum.inr Bool.false))
              else
                Option.bind
                  (Go.Sx.iter
                    (fun (s3 : Int × List (Int × Bool)) =>
                      if Decidable.decide (s3.fst < (↑(List.length (List.getD x.fst (Int.toNat s1.fst) ([], (0 : Int), (0 : Int), (0 : Int))).fst) : Int)) = Bool.true then
                        if (0 : Int) ≤ s3.fst ∧ s3.fst < (↑(List.length (List.getD x.fst (Int.toNat s1.fst) ([], (0 : Int), (0 : Int), (0 : Int))).fst) : Int) then
                          Option.bind
                            (if Decidable.decide (List.getD (List.getD x.fst (Int.toNat s1.fst) ([], (0 : Int), (0 : Int), (0 : Int))).fst (Int.toNat s3.fst) (0 : Int) < (0 : Int)) = Bool.true then
                              Option.some (Bool.true, s3.2)
                            else
                              if Decidable.decide (List.getD (List.getD x.fst (Int.toNat s1.fst) ([], (0 : Int), (0 : Int), (0 : Int))).fst (Int.toNat s3.fst) (0 : Int) ≥ x.snd) = Bool.true then
                                Option.some (Bool.true, s3.2)
                              else
                                Option.some
                                  (Option.getD
                                      (Go.Sx.mgetX (Go.Sx.Ty.int Go.IntKind.i64) Go.Sx.Ty.bool s3.snd
                                        (List.getD (List.getD x.fst (Int.toNat s1.fst) ([], (0 : Int), (0 : Int), (0 : Int))).fst (Int.toNat s3.fst) (0 : Int)))
                                      Bool.false,
                                    s3.2))
                            fun (v4 : Bool × List (Int × Bool)) =>
                            if v4.fst = Bool.true then Option.some (Sum.inr (Sum.inr Bool.false))
                            else
                              Option.some
                                (Sum.inl
                                  (Go.IntKind.wrap Go.IntKind.i64 (s3.fst + (1 : Int)),
                                    Go.Sx.mputX (Go.Sx.Ty.int Go.IntKind.i64) Go.Sx.Ty.bool v4.2
                                      (List.getD (List.getD x.fst (Int.toNat s1.fst) ([], (0 : Int), (0 : Int), (0 : Int))).fst (Int.toNat s3.fst) (0 : Int)) Bool.true))
                        else Option.none
                      else Option.some (Sum.inr (Sum.inl s3.2)))
                    ((0 : Int), s1.2))
                  fun (v3 : List (Int × Bool) ⊕ Bool) =>
                  Sum.elim (fun (p4 : List (Int × Bool)) => Option.some (Sum.inl (Go.IntKind.wrap Go.IntKind.i64 (s1.fst + (1 : Int)), p4))) (fun (q4 : Bool) => Option.some (Sum.inr (Sum.inr q4))) v3
          else Option.none
        else Option.some (Sum.inr (Sum.inl ())))
      ((0 : Int), []))
    fun (v1 : PUnit ⊕ Bool) => Sum.elim (fun (p2 : PUnit) => Option.some Bool.true) (fun (q2 : Bool) => Option.some q2) v1
theorem Q.f16eq : ∀ x, runFn Q.C Q.f16Γ Q.f16sig Q.f16ann Go.Proofs.Try.f16 x = Q.f16F x := by
  intro x
  kernel_rfl
noncomputable def Q.f16con : Con := ⟨16, Q.f16sig, Q.f16F⟩
theorem Q.f16ok : Con.Ok Go.Proofs.Try.prog Q.C Q.f16con :=
  runFn_ok (Γ := Q.f16Γ) (an := Q.f16ann) ⟨Q.Cok, (List.forall_mem_cons.2 ⟨Q.f29ok, (fun _ h => nomatch h)⟩), Q.mixed⟩ Go.Proofs.Try.func16 rfl rfl (fun x y h => (Q.f16eq x).trans h) (by decide)
def Q.f6sig : Sig := ⟨⟨[], []⟩, ⟨[.hole .bool], []⟩⟩
noncomputable def Q.f6Γ : List Con := [Q.f7con, Q.f11con, Q.f9con, Q.f16con, Q.f13con]
def Q.f6ann : Ann :=
  (.seq .leaf (.seq .leaf (.seq .leaf (.seq .leaf (.seq .leaf .leaf)))))
/- ductus/ductuslaw08.alive -/
noncomputable def Q.f6F : PUnit → Option (Bool) :=
  fun (x : PUnit) =>
  Option.bind (Go.Sx.Q.f7F ([(0 : Int), (20 : Int), (1 : Int), (22 : Int), (9 : Int), (2 : Int)], [(0 : Int), (0 : Int), (1 : Int), (0 : Int), (0 : Int), (1 : Int)], (0 : Int)))
    fun (v1 : List (List Int × Int × Int × Int)) =>
    Option.bind (Go.Sx.Q.f11F ([(0 : Int), (9 : Int), (0 : Int), (10 : Int), (0 : Int)], [(0 : Int), (5 : Int), (0 : Int), (0 : Int), (0 : Int)])) fun (v2 : List (List Int)) =>
      Option.bind
        (Go.Sx.Q.f9F (v1, [([(0 : Int), (1 : Int), (3 : Int)], (0 : Int), (0 : Int), (1 : Int)), ([(2 : Int)], (1 : Int), (1 : Int), (1 : Int)), ([(5 : Int)], (1 : Int), (1 : Int), (1 : Int))]))
        fun (v3 : Bool) =>
        if v3 = Bool.true then
          Option.bind (Go.Sx.Q.f16F (v1, (6 : Int))) fun (v4 : Bool) =>
            if v4 = Bool.true then
              Option.bind (Go.Sx.Q.f16F (v1, (5 : Int))) fun (v5 : Bool) =>
                if (!v5) = Bool.true then
                  if ((↑(List.length v2) : Int) == (2 : Int)) = Bool.true then
                    if (0 : Int) ≤ (0 : Int) ∧ (0 : Int) < (↑(List.length v2) : Int) then
                      if
                          Go.Sx.Ty.eqb (Go.Sx.Ty.arr (2 : Nat) (Go.Sx.Ty.int Go.IntKind.i64)) (List.getD v2 (Int.toNat (0 : Int)) (List.replicate (2 : Nat) (0 : Int))) [(0 : Int), (3 : Int)] =
                            Bool.true then
                        Option.bind (Go.Sx.Q.f13F (3 : Int)) fun (v6 : Int) =>
                          if (v6 == (1 : Int)) = Bool.true then
                            Option.bind (Go.Sx.Q.f13F (-1 : Int)) fun (v7 : Int) =>
                              if (v7 == (1 : Int)) = Bool.true then Option.bind (Go.Sx.Q.f13F (0 : Int)) fun (v8 : Int) => Option.some (v8 == (0 : Int)) else Option.some Bool.false
                          else Option.some Bool.false
                      else Option.some Bool.false
                    else Option.none
                  else Option.some Bool.false
                else Option.some Bool.false
            else Option.some Bool.false
        else Option.some Bool.false
theorem Q.f6eq : ∀ x, runFn Q.C Q.f6Γ Q.f6sig Q.f6ann Go.Proofs.Try.f6 x = Q.f6F x := by
  intro x
  kernel_rfl
noncomputable def Q.f6con : Con := ⟨6, Q.f6sig, Q.f6F⟩
theorem Q.f6ok : Con.Ok Go.Proofs.Try.prog Q.C Q.f6con :=
  runFn_ok (Γ := Q.f6Γ) (an := Q.f6ann) ⟨Q.Cok, (List.forall_mem_cons.2 ⟨Q.f7ok, (List.forall_mem_cons.2 ⟨Q.f11ok, (List.forall_mem_cons.2 ⟨Q.f9ok, (List.forall_mem_cons.2 ⟨Q.f16ok, (List.forall_mem_cons.2 ⟨Q.f13ok, (fun _ h => nomatch h)⟩)⟩)⟩)⟩)⟩), Q.mixed⟩ Go.Proofs.Try.func6 rfl rfl (fun x y h => (Q.f6eq x).trans h) (by decide)
def Q.f17sig : Sig := ⟨⟨[.hole (.int .i64)], []⟩, ⟨[.hole .bool], []⟩⟩
noncomputable def Q.f17Γ : List Con := []
def Q.f17ann : Ann :=
  (.seq .leaf (.seq .leaf .leaf))
/- ductus/ductusref02.Out -/
noncomputable def Q.f17F : Int → Option (Bool) :=
  fun (x : Int) =>
  if (x == (9 : Int)) = Bool.true then Option.some Bool.true
  else
    if (x == (14 : Int)) = Bool.true then Option.some Bool.true
    else
      if (x == (15 : Int)) = Bool.true then Option.some Bool.true
      else if (x == (16 : Int)) = Bool.true then Option.some Bool.true else if (x == (17 : Int)) = Bool.true then Option.some Bool.true else Option.some (x == (18 : Int))
theorem Q.f17eq : ∀ x, runFn Q.C Q.f17Γ Q.f17sig Q.f17ann Go.Proofs.Try.f17 x = Q.f17F x := by
  intro x
  kernel_rfl
noncomputable def Q.f17con : Con := ⟨17, Q.f17sig, Q.f17F⟩
theorem Q.f17ok : Con.Ok Go.Proofs.Try.prog Q.C Q.f17con :=
  runFn_ok (Γ := Q.f17Γ) (an := Q.f17ann) ⟨Q.Cok, (fun _ h => nomatch h), Q.mixed⟩ Go.Proofs.Try.func17 rfl rfl (fun x y h => (Q.f17eq x).trans h) (by decide)
def Q.f34sig : Sig := ⟨⟨[.hole (.sl (.int .i64))], []⟩, ⟨[.hole (.sl (.int .i64))], []⟩⟩
noncomputable def Q.f34Γ : List Con := [Q.f17con]
def Q.f34ann : Ann :=
  (.seq .leaf (.seq .leaf (.seq (.seq .leaf (.block (.loop ⟨.normal, [(3, .own 0), (4, .hole (.int .i64))], [.arr 3 (.int .i64)]⟩ [⟨(.exit 0), [(3, .own 0)], [.arr 3 (.int .i64)]⟩] (.seq (.seq .leaf (.cond .leaf .leaf)) (.seq (.block (.seq .leaf (.cond .leaf .leaf))) .leaf))))) (.seq .leaf .leaf))))
/- ductus/ductusref08.seen -/
noncomputable def Q.f34F : List Int → Option (List Int) :=
  fun (x : List Int) =>
  Option.bind
    (Go.Sx.iter
      (fun (s1 : Int × List Int) =>
        if Decidable.decide (s1.fst < (↑(List.length x) : Int)) = Bool.true then
          if (0 : Int) ≤ s1.fst ∧ s1.fst < (↑(List.length x) : Int) then
            Option.bind (Go.Sx.Q.f17F (List.getD x (Int.toNat s1.fst) (0 : Int))) fun (v2 : Bool) =>
              if (!v2) = Bool.true then
                if
                    Go.Sx.roomOk (List.length s1.snd + (1 : Nat))
                      { kind := Go.Sx.TK.int Go.IntKind.i64, size := (1 : Nat), bytes := (8 : Nat), ty := Option.some (Go.Sx.Ty.int Go.IntKind.i64),
                          zero := [Go.Sx.SV.val (Go.Sx.Ty.int Go.IntKind.i64) (0 : Int)] : Go.Sx.TI }.bytes then
                  Option.some (Sum.inl (Go.IntKind.wrap Go.IntKind.i64 (s1.fst + (1 : Int)), s1.2 ++ [s1.1]))
                else Option.none
              else Option.some (Sum.inl (Go.IntKind.wrap Go.IntKind.i64 (s1.fst + (1 : Int)), s1.2))
          else Option.none
        else Option.some (Sum.inr s1.2))
      ((0 : Int), []))
    fun (v1 : List Int) => Option.some v1
theorem Q.f34eq : ∀ x, runFn Q.C Q.f34Γ Q.f34sig Q.f34ann Go.Proofs.Try.f34 x = Q.f34F x := by
  intro x
  kernel_rfl
noncomputable def Q.f34con : Con := ⟨34, Q.f34sig, Q.f34F⟩
theorem Q.f34ok : Con.Ok Go.Proofs.Try.prog Q.C Q.f34con :=
  runFn_ok (Γ := Q.f34Γ) (an := Q.f34ann) ⟨Q.Cok, (List.forall_mem_cons.2 ⟨Q.f17ok, (fun _ h => nomatch h)⟩), Q.mixed⟩ Go.Proofs.Try.func34 rfl rfl (fun x y h => (Q.f34eq x).trans h) (by decide)
def Q.f23sig : Sig := ⟨⟨[.hole (.sl (.int .i64)), .hole (.sl (.int .i64))], []⟩, ⟨[.hole (.sl (.sl (.int .i64)))], []⟩⟩
noncomputable def Q.f23Γ : List Con := [Q.f34con]
def Q.f23ann : Ann :=
  (.seq .leaf (.seq (.seq .leaf (.cond (.seq .leaf .leaf) .leaf)) (.seq .leaf (.seq .leaf (.seq (.seq .leaf (.block (.loop ⟨.normal, [(5, .own 0), (7, .hole (.int .i64))], [.arr 22 (.osl (.int .i64))]⟩ [⟨(.exit 0), [(5, .own 0)], [.arr 22 (.osl (.int .i64))]⟩] (.seq (.seq .leaf (.cond .leaf .leaf)) (.seq (.block (.seq (.join [⟨.normal, [(5, .own 1)], [.gone, .arr 22 (.osl (.int .i64))]⟩] (.seq (.join [⟨.normal, [(51, .hole .bool)], [.arr 22 (.osl (.int .i64))]⟩] .leaf) (.cond .leaf .leaf))) (.eff 4 [14] [0, 0, 2, 6, 0, 0, 32, 96, 240, 496, 0, 0, 3072, 7168, 15360, 32752, 65535, 131071]))) .leaf))))) (.seq .leaf .leaf))))))
/- ductus/ductusref08.Lists -/
noncomputable def Q.f23F : List Int × List Int → Option (List (List Int)) :=
  fun (x : List Int × List Int) =>
  if ((↑(List.length x.fst) : Int) != (↑(List.length x.snd) : Int)) = Bool.true then Option.some []
  else
    Option.bind (Go.Sx.Q.f34F x.1) fun (v1 : List Int) =>
      Option.bind
        (Go.Sx.iter
          (fun (s2 : Int × List (Bool × List Int)) =>
            if Decidable.decide (s2.fst < (↑(List.length v1) : Int)) = Bool.true then
              Option.bind
                (Option.bind
                  (if (s2.fst == (0 : Int)) = Bool.true then Option.some (Bool.true, s2.2)
                  else
                    if (0 : Int) ≤ s2.fst ∧ s2.fst < (↑(List.length v1) : Int) then
                      if (0 : Int) ≤ List.getD v1 (Int.toNat s2.fst) (0 : Int) ∧ List.getD v1 (Int.toNat s2.fst) (0 : Int) < (↑(List.length x.snd) : Int) then
                        if (0 : Int) ≤ Go.IntKind.wrap Go.IntKind.i64 (s2.fst - (1 : Int)) ∧ Go.IntKind.wrap Go.IntKind.i64 (s2.fst - (1 : Int)) < (↑(List.length v1) : Int) then
                          if
                              (0 : Int) ≤ List.getD v1 (Int.toNat (Go.IntKind.wrap Go.IntKind.i64 (s2.fst - (1 : Int)))) (0 : Int) ∧
                                List.getD v1 (Int.toNat (Go.IntKind.wrap Go.IntKind.i64 (s2.fst - (1 : Int)))) (0 : Int) < (↑(List.length x.snd) : Int) then
                            if
                                (List.getD x.snd (Int.toNat (List.getD v1 (Int.toNat s2.fst) (0 : Int))) (0 : Int) !=
                                    List.getD x.snd (Int.toNat (List.getD v1 (Int.toNat (Go.IntKind.wrap Go.IntKind.i64 (s2.fst - (1 : Int)))) (0 : Int))) (0 : Int)) =
                                  Bool.true then
                              Option.some (Bool.true, s2.2)
                            else
                              if (0 : Int) ≤ Go.IntKind.wrap Go.IntKind.i64 (s2.fst - (1 : Int)) ∧ Go.IntKind.wrap Go.IntKind.i64 (s2.fst - (1 : Int)) < (↑(List.length v1) : Int) then
                                if
                                    (0 : Int) ≤ List.getD v1 (Int.toNat (Go.IntKind.wrap Go.IntKind.i64 (s2.fst - (1 : Int)))) (0 : Int) ∧
                                      List.getD v1 (Int.toNat (Go.IntKind.wrap Go.IntKind.i64 (s2.fst - (1 : Int)))) (0 : Int) < (↑(List.length x.fst) : Int) then
                                  Option.some (List.getD x.fst (Int.toNat (List.getD v1 (Int.toNat (Go.IntKind.wrap Go.IntKind.i64 (s2.fst - (1 : Int)))) (0 : Int))) (0 : Int) == (10 : Int), s2.2)
                                else Option.none
                              else Option.none
                          else Option.none
                        else Option.none
                      else Option.none
                    else Option.none)
                  fun (v3 : Bool × List (Bool × List Int)) =>
                  if v3.fst = Bool.true then
                    if
                        Go.Sx.roomOk (List.length v3.snd + (1 : Nat))
                          { kind := Go.Sx.TK.slice (3 : Go.TypeId), size := (1 : Nat), bytes := (24 : Nat), ty := Option.some (Go.Sx.Ty.sl (Go.Sx.Ty.int Go.IntKind.i64)), zero := [Go.Sx.SV.nils] :
                              Go.Sx.TI }.bytes then
                      Option.some (v3.2 ++ [(Bool.true, [])])
                    else Option.none
                  else Option.some v3.2)
                fun (v3 : List (Bool × List Int)) =>
                if
                    (0 : Int) ≤ Go.IntKind.wrap Go.IntKind.i64 ((↑(List.length (List.map (Go.Sx.Ty.weak (Go.Sx.Ty.osl (Go.Sx.Ty.int Go.IntKind.i64))) v3)) : Int) - (1 : Int)) ∧
                      Go.IntKind.wrap Go.IntKind.i64 ((↑(List.length (List.map (Go.Sx.Ty.weak (Go.Sx.Ty.osl (Go.Sx.Ty.int Go.IntKind.i64))) v3)) : Int) - (1 : Int)) <
                        (↑(List.length (List.map (Go.Sx.Ty.weak (Go.Sx.Ty.osl (Go.Sx.Ty.int Go.IntKind.i64))) v3)) : Int) then
                  if
                      Go.Sx.ownedP
                        (List.getD v3 (Int.toNat (Go.IntKind.wrap Go.IntKind.i64 ((↑(List.length (List.map (Go.Sx.Ty.weak (Go.Sx.Ty.osl (Go.Sx.Ty.int Go.IntKind.i64))) v3)) : Int) - (1 : Int))))
                            (Bool.false, [])).fst then
                    if (0 : Int) ≤ s2.fst ∧ s2.fst < (↑(List.length v1) : Int) then
                      if
                          Go.Sx.roomOk
                            (List.length
                                (List.getD v3
                                    (Int.toNat (Go.IntKind.wrap Go.IntKind.i64 ((↑(List.length (List.map (Go.Sx.Ty.weak (Go.Sx.Ty.osl (Go.Sx.Ty.int Go.IntKind.i64))) v3)) : Int) - (1 : Int))))
                                    (Bool.false, [])).snd +
                              (1 : Nat))
                            { kind := Go.Sx.TK.int Go.IntKind.i64, size := (1 : Nat), bytes := (8 : Nat), ty := Option.some (Go.Sx.Ty.int Go.IntKind.i64),
                                zero := [Go.Sx.SV.val (Go.Sx.Ty.int Go.IntKind.i64) (0 : Int)] : Go.Sx.TI }.bytes then
                        if
                            (0 : Int) ≤ Go.IntKind.wrap Go.IntKind.i64 ((↑(List.length (List.map (Go.Sx.Ty.weak (Go.Sx.Ty.osl (Go.Sx.Ty.int Go.IntKind.i64))) v3)) : Int) - (1 : Int)) ∧
                              Go.IntKind.wrap Go.IntKind.i64 ((↑(List.length (List.map (Go.Sx.Ty.weak (Go.Sx.Ty.osl (Go.Sx.Ty.int Go.IntKind.i64))) v3)) : Int) - (1 : Int)) <
                                (↑(List.length
                                      (List.map (Go.Sx.Ty.weak (Go.Sx.Ty.osl (Go.Sx.Ty.int Go.IntKind.i64)))
                                        (List.set v3
                                          (Int.toNat (Go.IntKind.wrap Go.IntKind.i64 ((↑(List.length (List.map (Go.Sx.Ty.weak (Go.Sx.Ty.osl (Go.Sx.Ty.int Go.IntKind.i64))) v3)) : Int) - (1 : Int))))
                                          (Bool.false,
                                            (List.getD v3
                                                (Int.toNat
                                                  (Go.IntKind.wrap Go.IntKind.i64 ((↑(List.length (List.map (Go.Sx.Ty.weak (Go.Sx.Ty.osl (Go.Sx.Ty.int Go.IntKind.i64))) v3)) : Int) - (1 : Int))))
                                                (Bool.false, [])).snd)))) :
                                  Int) then
                          Option.some
                            (Sum.inl
                              (Go.IntKind.wrap Go.IntKind.i64 (s2.fst + (1 : Int)),
                                List.set
                                  (List.set v3
                                    (Int.toNat (Go.IntKind.wrap Go.IntKind.i64 ((↑(List.length (List.map (Go.Sx.Ty.weak (Go.Sx.Ty.osl (Go.Sx.Ty.int Go.IntKind.i64))) v3)) : Int) - (1 : Int))))
                                    (Bool.false,
                                      (List.getD v3
                                          (Int.toNat (Go.IntKind.wrap Go.IntKind.i64 ((↑(List.length (List.map (Go.Sx.Ty.weak (Go.Sx.Ty.osl (Go.Sx.Ty.int Go.IntKind.i64))) v3)) : Int) - (1 : Int))))
                                          (Bool.false, [])).snd))
                                  (Int.toNat (Go.IntKind.wrap Go.IntKind.i64 ((↑(List.length (List.map (Go.Sx.Ty.weak (Go.Sx.Ty.osl (Go.Sx.Ty.int Go.IntKind.i64))) v3)) : Int) - (1 : Int))))
                                  (Bool.true,
                                    (List.getD v3
                                          (Int.toNat (Go.IntKind.wrap Go.IntKind.i64 ((↑(List.length (List.map (Go.Sx.Ty.weak (Go.Sx.Ty.osl (Go.Sx.Ty.int Go.IntKind.i64))) v3)) : Int) - (1 : Int))))
                                          (Bool.false, [])).snd ++
                                      [List.getD v1 (Int.toNat s2.fst) (0 : Int)])))
                        else Option.none
                      else Option.none
                    else Option.none
                  else Option.none
                else Option.none
            else Option.some (Sum.inr s2.2))
          ((0 : Int), []))
        fun (v2 : List (Bool × List Int)) => Option.some (List.map (Go.Sx.Ty.erD (Go.Sx.Ty.osl (Go.Sx.Ty.int Go.IntKind.i64))) v2)
theorem Q.f23eq : ∀ x, runFn Q.C Q.f23Γ Q.f23sig Q.f23ann Go.Proofs.Try.f23 x = Q.f23F x := by
  intro x
  kernel_rfl
noncomputable def Q.f23con : Con := ⟨23, Q.f23sig, Q.f23F⟩
theorem Q.f23ok : Con.Ok Go.Proofs.Try.prog Q.C Q.f23con :=
  runFn_ok (Γ := Q.f23Γ) (an := Q.f23ann) ⟨Q.Cok, (List.forall_mem_cons.2 ⟨Q.f34ok, (fun _ h => nomatch h)⟩), Q.mixed⟩ Go.Proofs.Try.func23 rfl rfl (fun x y h => (Q.f23eq x).trans h) (by decide)
def Q.f35sig : Sig := ⟨⟨[.hole (.int .i64)], []⟩, ⟨[.hole .bool], []⟩⟩
noncomputable def Q.f35Γ : List Con := []
def Q.f35ann : Ann :=
  (.seq .leaf (.seq .leaf .leaf))
/- ductus/ductusref02.Opens -/
noncomputable def Q.f35F : Int → Option (Bool) :=
  fun (x : Int) => if (x == (19 : Int)) = Bool.true then Option.some Bool.true else if (x == (20 : Int)) = Bool.true then Option.some Bool.true else Option.some (x == (21 : Int))
theorem Q.f35eq : ∀ x, runFn Q.C Q.f35Γ Q.f35sig Q.f35ann Go.Proofs.Try.f35 x = Q.f35F x := by
  intro x
  kernel_rfl
noncomputable def Q.f35con : Con := ⟨35, Q.f35sig, Q.f35F⟩
theorem Q.f35ok : Con.Ok Go.Proofs.Try.prog Q.C Q.f35con :=
  runFn_ok (Γ := Q.f35Γ) (an := Q.f35ann) ⟨Q.Cok, (fun _ h => nomatch h), Q.mixed⟩ Go.Proofs.Try.func35 rfl rfl (fun x y h => (Q.f35eq x).trans h) (by decide)
def Q.f36sig : Sig := ⟨⟨[.hole (.sl (.int .i64)), .hole (.int .i64)], []⟩, ⟨[.hole (.int .i64)], []⟩⟩
noncomputable def Q.f36Γ : List Con := [Q.f35con]
def Q.f36ann : Ann :=
  (.seq .leaf (.seq .leaf (.seq (.seq .leaf (.block (.loop ⟨.normal, [(5, .hole (.int .i64)), (6, .hole (.int .i64))], []⟩ [⟨(.exit 0), [], []⟩, ⟨.ret, [(4, .hole (.int .i64))], []⟩] (.seq (.seq (.join [⟨.normal, [(19, .hole .bool)], []⟩] .leaf) (.cond .leaf .leaf)) (.seq (.block (.seq (.join [⟨.normal, [(5, .hole (.int .i64))], []⟩] (.seq .leaf (.cond .leaf .leaf))) (.seq .leaf (.cond (.seq .leaf (.seq .leaf (.cond (.seq .leaf .leaf) .leaf))) .leaf)))) .leaf))))) (.seq .leaf .leaf))))
/- ductus/ductusref05.End -/
noncomputable def Q.f36F : List Int × Int → Option (Int) :=
  fun (x : List Int × Int) =>
  Option.bind
    (Go.Sx.iter
      (fun (s1 : Int × Int) =>
        Option.bind
          (if Decidable.decide (s1.snd < (↑(List.length x.fst) : Int)) = Bool.true then
            if (0 : Int) ≤ s1.snd ∧ s1.snd < (↑(List.length x.fst) : Int) then Option.some (List.getD x.fst (Int.toNat s1.snd) (0 : Int) != (10 : Int)) else Option.none
          else Option.some Bool.false)
          fun (v2 : Bool) =>
          if v2 = Bool.true then
            Option.bind
              (if (0 : Int) ≤ s1.snd ∧ s1.snd < (↑(List.length x.fst) : Int) then
                Option.bind (Go.Sx.Q.f35F (List.getD x.fst (Int.toNat s1.snd) (0 : Int))) fun (v3 : Bool) =>
                  if v3 = Bool.true then Option.some (Go.IntKind.wrap Go.IntKind.i64 (s1.fst + (1 : Int))) else Option.some s1.1
              else Option.none)
              fun (v3 : Int) =>
              if (0 : Int) ≤ s1.snd ∧ s1.snd < (↑(List.length x.fst) : Int) then
                if (List.getD x.fst (Int.toNat s1.snd) (0 : Int) == (22 : Int)) = Bool.true then
                  if (Go.IntKind.wrap Go.IntKind.i64 (v3 - (1 : Int)) == (0 : Int)) = Bool.true then Option.some (Sum.inr (Sum.inr s1.2))
                  else Option.some (Sum.inl (Go.IntKind.wrap Go.IntKind.i64 (v3 - (1 : Int)), Go.IntKind.wrap Go.IntKind.i64 (s1.snd + (1 : Int))))
                else Option.some (Sum.inl (v3, Go.IntKind.wrap Go.IntKind.i64 (s1.snd + (1 : Int))))
              else Option.none
          else Option.some (Sum.inr (Sum.inl ())))
      ((1 : Int), Go.IntKind.wrap Go.IntKind.i64 (x.snd + (1 : Int))))
    fun (v1 : PUnit ⊕ Int) => Sum.elim (fun (p2 : PUnit) => Option.some (-1 : Int)) (fun (q2 : Int) => Option.some q2) v1
theorem Q.f36eq : ∀ x, runFn Q.C Q.f36Γ Q.f36sig Q.f36ann Go.Proofs.Try.f36 x = Q.f36F x := by
  intro x
  kernel_rfl
noncomputable def Q.f36con : Con := ⟨36, Q.f36sig, Q.f36F⟩
theorem Q.f36ok : Con.Ok Go.Proofs.Try.prog Q.C Q.f36con :=
  runFn_ok (Γ := Q.f36Γ) (an := Q.f36ann) ⟨Q.Cok, (List.forall_mem_cons.2 ⟨Q.f35ok, (fun _ h => nomatch h)⟩), Q.mixed⟩ Go.Proofs.Try.func36 rfl rfl (fun x y h => (Q.f36eq x).trans h) (by decide)
def Q.f24sig : Sig := ⟨⟨[.hole (.sl (.int .i64))], []⟩, ⟨[.hole (.sl (.int .i64))], []⟩⟩
noncomputable def Q.f24Γ : List Con := [Q.f35con, Q.f36con]
def Q.f24ann : Ann :=
  (.seq .leaf (.seq .leaf (.seq (.seq .leaf (.block (.loop ⟨.normal, [(4, .hole (.int .i64))], [.arr 3 (.int .i64)]⟩ [⟨(.exit 0), [], [.arr 3 (.int .i64)]⟩] (.seq (.seq .leaf (.cond .leaf .leaf)) (.seq (.block .leaf) .leaf))))) (.seq (.seq .leaf (.block (.loop ⟨.normal, [(5, .hole (.int .i64))], [.arr 3 (.int .i64)]⟩ [⟨(.exit 2), [], [.arr 3 (.int .i64)]⟩] (.seq (.seq .leaf (.cond .leaf .leaf)) (.seq (.block (.seq .leaf (.cond (.seq .leaf (.seq .leaf (.seq .leaf (.cond .leaf .leaf)))) .leaf))) .leaf))))) (.seq .leaf .leaf)))))
/- ductus/ductusref05.Match -/
noncomputable def Q.f24F : List Int → Option (List Int) :=
  fun (x : List Int) =>
  if
      (0 : Int) ≤ (↑(List.length x) : Int) ∧
        (↑(List.length x) : Int) ≤ (↑(List.length x) : Int) ∧
          Go.Sx.roomOk (Int.toNat (↑(List.length x) : Int))
            { kind := Go.Sx.TK.int Go.IntKind.i64, size := (1 : Nat), bytes := (8 : Nat), ty := Option.some (Go.Sx.Ty.int Go.IntKind.i64),
                zero := [Go.Sx.SV.val (Go.Sx.Ty.int Go.IntKind.i64) (0 : Int)] : Go.Sx.TI }.bytes then
    Option.bind
      (Go.Sx.iter
        (fun (s1 : Int × List Int) =>
          if Decidable.decide (s1.fst < (↑(List.length x) : Int)) = Bool.true then
            if (0 : Int) ≤ s1.fst ∧ s1.fst < (↑(List.length s1.snd) : Int) then Option.some (Sum.inl (Go.IntKind.wrap Go.IntKind.i64 (s1.fst + (1 : Int)), List.set s1.2 (Int.toNat s1.fst) (-1 : Int)))
            else Option.none
          else Option.some (Sum.inr s1.2))
        ((0 : Int), List.replicate (Int.toNat (↑(List.length x) : Int)) (0 : Int)))
      fun (v1 : List Int) =>
      Option.bind
        (Go.Sx.iter
          (fun (s2 : Int × List Int) =>
            if Decidable.decide (s2.fst < (↑(List.length x) : Int)) = Bool.true then
              if (0 : Int) ≤ s2.fst ∧ s2.fst < (↑(List.length x) : Int) then
                Option.bind (Go.Sx.Q.f35F (List.getD x (Int.toNat s2.fst) (0 : Int))) fun (v3 : Bool) =>
                  if v3 = Bool.true then
                    Option.bind (Go.Sx.Q.f36F (x, s2.1)) fun (v4 : Int) =>
                      if (0 : Int) ≤ s2.fst ∧ s2.fst < (↑(List.length s2.snd) : Int) then
                        if Decidable.decide (v4 ≥ (0 : Int)) = Bool.true then
                          if (0 : Int) ≤ v4 ∧ v4 < (↑(List.length (List.set s2.2 (Int.toNat s2.fst) v4)) : Int) then
                            Option.some (Sum.inl (Go.IntKind.wrap Go.IntKind.i64 (s2.fst + (1 : Int)), List.set (List.set s2.2 (Int.toNat s2.fst) v4) (Int.toNat v4) s2.1))
                          else Option.none
                        else Option.some (Sum.inl (Go.IntKind.wrap Go.IntKind.i64 (s2.fst + (1 : Int)), List.set s2.2 (Int.toNat s2.fst) v4))
                      else Option.none
                  else Option.some (Sum.inl (Go.IntKind.wrap Go.IntKind.i64 (s2.fst + (1 : Int)), s2.2))
              else Option.none
            else Option.some (Sum.inr s2.2))
          ((0 : Int), v1))
        fun (v2 : List Int) => Option.some v2
  else Option.none
theorem Q.f24eq : ∀ x, runFn Q.C Q.f24Γ Q.f24sig Q.f24ann Go.Proofs.Try.f24 x = Q.f24F x := by
  intro x
  kernel_rfl
noncomputable def Q.f24con : Con := ⟨24, Q.f24sig, Q.f24F⟩
theorem Q.f24ok : Con.Ok Go.Proofs.Try.prog Q.C Q.f24con :=
  runFn_ok (Γ := Q.f24Γ) (an := Q.f24ann) ⟨Q.Cok, (List.forall_mem_cons.2 ⟨Q.f35ok, (List.forall_mem_cons.2 ⟨Q.f36ok, (fun _ h => nomatch h)⟩)⟩), Q.mixed⟩ Go.Proofs.Try.func24 rfl rfl (fun x y h => (Q.f24eq x).trans h) (by decide)
def Q.f25sig : Sig := ⟨⟨[.hole (.sl (.int .i64)), .hole (.sl (.sl (.int .i64))), .hole (.sl (.int .i64)), .hole (.int .i64)], []⟩, ⟨[.hole (.int .i64)], []⟩⟩
noncomputable def Q.f25Γ : List Con := [Q.f35con]
def Q.f25ann : Ann :=
  (.seq .leaf (.seq .leaf (.seq (.seq (.join [⟨.normal, [(35, .hole .bool)], []⟩] .leaf) (.cond (.seq .leaf .leaf) .leaf)) (.seq (.seq .leaf (.block (.loop ⟨.normal, [(10, .hole (.int .i64))], []⟩ [⟨(.exit 0), [], []⟩, ⟨.ret, [(8, .hole (.int .i64))], []⟩] (.seq (.seq .leaf (.cond .leaf .leaf)) (.seq (.block (.seq .leaf (.cond (.seq .leaf .leaf) .leaf))) .leaf))))) (.seq .leaf .leaf)))))
/- ductus/ductusref08.next -/
noncomputable def Q.f25F : List Int × List (List Int) × List Int × Int → Option (Int) :=
  fun (x : List Int × List (List Int) × List Int × Int) =>
  if (0 : Int) ≤ x.snd.snd.snd ∧ x.snd.snd.snd < (↑(List.length x.snd.fst) : Int) then
    if (0 : Int) ≤ x.snd.snd.snd ∧ x.snd.snd.snd < (↑(List.length x.snd.fst) : Int) then
      if
          (0 : Int) ≤ Go.IntKind.wrap Go.IntKind.i64 ((↑(List.length (List.getD x.snd.fst (Int.toNat x.snd.snd.snd) [])) : Int) - (1 : Int)) ∧
            Go.IntKind.wrap Go.IntKind.i64 ((↑(List.length (List.getD x.snd.fst (Int.toNat x.snd.snd.snd) [])) : Int) - (1 : Int)) <
              (↑(List.length (List.getD x.snd.fst (Int.toNat x.snd.snd.snd) [])) : Int) then
        Option.bind
          (if
              (0 : Int) ≤
                  List.getD (List.getD x.snd.fst (Int.toNat x.snd.snd.snd) [])
                    (Int.toNat (Go.IntKind.wrap Go.IntKind.i64 ((↑(List.length (List.getD x.snd.fst (Int.toNat x.snd.snd.snd) [])) : Int) - (1 : Int)))) (0 : Int) ∧
                List.getD (List.getD x.snd.fst (Int.toNat x.snd.snd.snd) [])
                    (Int.toNat (Go.IntKind.wrap Go.IntKind.i64 ((↑(List.length (List.getD x.snd.fst (Int.toNat x.snd.snd.snd) [])) : Int) - (1 : Int)))) (0 : Int) <
                  (↑(List.length x.fst) : Int) then
            Option.bind
              (Go.Sx.Q.f35F
                (List.getD x.fst
                  (Int.toNat
                    (List.getD (List.getD x.snd.fst (Int.toNat x.snd.snd.snd) [])
                      (Int.toNat (Go.IntKind.wrap Go.IntKind.i64 ((↑(List.length (List.getD x.snd.fst (Int.toNat x.snd.snd.snd) [])) : Int) - (1 : Int)))) (0 : Int)))
                  (0 : Int)))
              fun (v1 : Bool) =>
              if (!v1) = Bool.true then Option.some Bool.true
              else
                if
                    (0 : Int) ≤
                        List.getD (List.getD x.snd.fst (Int.toNat x.snd.snd.snd) [])
                          (Int.toNat (Go.IntKind.wrap Go.IntKind.i64 ((↑(List.length (List.getD x.snd.fst (Int.toNat x.snd.snd.snd) [])) : Int) - (1 : Int)))) (0 : Int) ∧
                      List.getD (List.getD x.snd.fst (Int.toNat x.snd.snd.snd) [])
                          (Int.toNat (Go.IntKind.wrap Go.IntKind.i64 ((↑(List.length (List.getD x.snd.fst (Int.toNat x.snd.snd.snd) [])) : Int) - (1 : Int)))) (0 : Int) <
                        (↑(List.length x.snd.snd.fst) : Int) then
                  Option.some
                    (Decidable.decide
                      (List.getD x.snd.snd.fst
                          (Int.toNat
                            (List.getD (List.getD x.snd.fst (Int.toNat x.snd.snd.snd) [])
                              (Int.toNat (Go.IntKind.wrap Go.IntKind.i64 ((↑(List.length (List.getD x.snd.fst (Int.toNat x.snd.snd.snd) [])) : Int) - (1 : Int)))) (0 : Int)))
                          (0 : Int) <
                        (0 : Int)))
                else Option.none
          else Option.none)
          fun (v1 : Bool) =>
          if v1 = Bool.true then Option.some (-1 : Int)
          else
            Option.bind
              (Go.Sx.iter
                (fun (s2 : Int) =>
                  if Decidable.decide (s2 < (↑(List.length x.snd.fst) : Int)) = Bool.true then
                    if (0 : Int) ≤ s2 ∧ s2 < (↑(List.length x.snd.fst) : Int) then
                      if (0 : Int) ≤ (0 : Int) ∧ (0 : Int) < (↑(List.length (List.getD x.snd.fst (Int.toNat s2) [])) : Int) then
                        if
                            (0 : Int) ≤
                                List.getD (List.getD x.snd.fst (Int.toNat x.snd.snd.snd) [])
                                  (Int.toNat (Go.IntKind.wrap Go.IntKind.i64 ((↑(List.length (List.getD x.snd.fst (Int.toNat x.snd.snd.snd) [])) : Int) - (1 : Int)))) (0 : Int) ∧
                              List.getD (List.getD x.snd.fst (Int.toNat x.snd.snd.snd) [])
                                  (Int.toNat (Go.IntKind.wrap Go.IntKind.i64 ((↑(List.length (List.getD x.snd.fst (Int.toNat x.snd.snd.snd) [])) : Int) - (1 : Int)))) (0 : Int) <
                                (↑(List.length x.snd.snd.fst) : Int) then
                          if
                              (List.getD (List.getD x.snd.fst (Int.toNat s2) []) (Int.toNat (0 : Int)) (0 : Int) ==
                                  List.getD x.snd.snd.fst
                                    (Int.toNat
                                      (List.getD (List.getD x.snd.fst (Int.toNat x.snd.snd.snd) [])
                                        (Int.toNat (Go.IntKind.wrap Go.IntKind.i64 ((↑(List.length (List.getD x.snd.fst (Int.toNat x.snd.snd.snd) [])) : Int) - (1 : Int)))) (0 : Int)))
                                    (0 : Int)) =
                                Bool.true then
                            Option.some (Sum.inr (Sum.inr s2))
                          else Option.some (Sum.inl (Go.IntKind.wrap Go.IntKind.i64 (s2 + (1 : Int))))
                        else Option.none
                      else Option.none
                    else Option.none
                  else Option.some (Sum.inr (Sum.inl ())))
                (0 : Int))
              fun (v2 : PUnit ⊕ Int) => Sum.elim (fun (p3 : PUnit) => Option.some (-1 : Int)) (fun (q3 : Int) => Option.some q3) v2
      else Option.none
    else Option.none
  else Option.none
theorem Q.f25eq : ∀ x, runFn Q.C Q.f25Γ Q.f25sig Q.f25ann Go.Proofs.Try.f25 x = Q.f25F x := by
  intro x
  kernel_rfl
noncomputable def Q.f25con : Con := ⟨25, Q.f25sig, Q.f25F⟩
theorem Q.f25ok : Con.Ok Go.Proofs.Try.prog Q.C Q.f25con :=
  runFn_ok (Γ := Q.f25Γ) (an := Q.f25ann) ⟨Q.Cok, (List.forall_mem_cons.2 ⟨Q.f35ok, (fun _ h => nomatch h)⟩), Q.mixed⟩ Go.Proofs.Try.func25 rfl rfl (fun x y h => (Q.f25eq x).trans h) (by decide)
def Q.f14sig : Sig := ⟨⟨[.hole (.int .i64)], []⟩, ⟨[.hole (.int .i64)], []⟩⟩
noncomputable def Q.f14Γ : List Con := []
def Q.f14ann : Ann :=
  (.seq .leaf (.seq (.seq .leaf (.cond (.seq .leaf .leaf) .leaf)) (.seq .leaf .leaf)))
/- ductus/ductusref08.Dir -/
noncomputable def Q.f14F : Int → Option (Int) :=
  fun (x : Int) => if (Int.tmod x (2 : Int) != (0 : Int)) = Bool.true then Option.some (1 : Int) else Option.some (0 : Int)
theorem Q.f14eq : ∀ x, runFn Q.C Q.f14Γ Q.f14sig Q.f14ann Go.Proofs.Try.f14 x = Q.f14F x := by
  intro x
  kernel_rfl
noncomputable def Q.f14con : Con := ⟨14, Q.f14sig, Q.f14F⟩
theorem Q.f14ok : Con.Ok Go.Proofs.Try.prog Q.C Q.f14con :=
  runFn_ok (Γ := Q.f14Γ) (an := Q.f14ann) ⟨Q.Cok, (fun _ h => nomatch h), Q.mixed⟩ Go.Proofs.Try.func14 rfl rfl (fun x y h => (Q.f14eq x).trans h) (by decide)
def Q.f26sig : Sig := ⟨⟨[.hole (.st (.pair (.sl (.int .i64)) (.pair (.int .i64) (.pair (.int .i64) (.int .i64))))), .hole (.sl (.int .i64)), .hole (.sl (.int .i64)), .hole (.int .i64)], []⟩, ⟨[.hole (.st (.pair (.sl (.int .i64)) (.pair (.int .i64) (.pair (.int .i64) (.int .i64)))))], []⟩⟩
noncomputable def Q.f26Γ : List Con := [Q.f34con, Q.f35con, Q.f14con]
def Q.f26ann : Ann :=
  (.seq .leaf (.seq .leaf (.seq .leaf (.seq .leaf (.seq (.seq .leaf (.block (.loop ⟨.normal, [(9, .hole (.int .i64)), (10, .hole (.int .i64)), (13, .hole (.int .i64))], [.cells [.hole (.sl (.int .i64)), .hole (.int .i64), .hole (.int .i64), .hole (.int .i64)], .cells [.own 2, .hole (.int .i64), .hole (.int .i64), .hole (.int .i64)], .arr 3 (.int .i64)]⟩ [⟨(.exit 0), [(9, .hole (.int .i64)), (10, .hole (.int .i64))], [.cells [.hole (.sl (.int .i64)), .hole (.int .i64), .hole (.int .i64), .hole (.int .i64)], .cells [.own 2, .hole (.int .i64), .hole (.int .i64), .hole (.int .i64)], .arr 3 (.int .i64)]⟩] (.seq (.seq .leaf (.cond .leaf .leaf)) (.seq (.block (.seq (.join [⟨.normal, [(9, .hole (.int .i64))], [.cells [.hole (.sl (.int .i64)), .hole (.int .i64), .hole (.int .i64), .hole (.int .i64)], .cells [.own 2, .hole (.int .i64), .hole (.int .i64), .hole (.int .i64)], .arr 3 (.int .i64)]⟩] (.seq (.join [⟨.normal, [(44, .hole .bool)], [.cells [.hole (.sl (.int .i64)), .hole (.int .i64), .hole (.int .i64), .hole (.int .i64)], .cells [.own 2, .hole (.int .i64), .hole (.int .i64), .hole (.int .i64)], .arr 3 (.int .i64)]⟩] .leaf) (.cond .leaf .leaf))) (.seq (.join [⟨.normal, [(80, .hole .bool)], [.cells [.hole (.sl (.int .i64)), .hole (.int .i64), .hole (.int .i64), .hole (.int .i64)], .cells [.own 2, .hole (.int .i64), .hole (.int .i64), .hole (.int .i64)], .arr 3 (.int .i64)]⟩] .leaf) (.cond .leaf .leaf)))) .leaf))))) (.seq (.eff 3 [] [0, 1, 0, 7, 15, 0, 0, 96, 224, 0, 992, 2047, 31, 8191, 16383, 32767]) (.seq .leaf .leaf)))))))
/- ductus/ductusref08.bounded -/
noncomputable def Q.f26F : (List Int × Int × Int × Int) × List Int × List Int × Int → Option (List Int × Int × Int × Int) :=
  fun (x : (List Int × Int × Int × Int) × List Int × List Int × Int) =>
  Option.bind (Go.Sx.Q.f34F x.snd.1) fun (v1 : List Int) =>
    if
        (0 : Int) ≤ Go.IntKind.wrap Go.IntKind.i64 ((↑(List.length x.fst.fst) : Int) - (1 : Int)) ∧
          Go.IntKind.wrap Go.IntKind.i64 ((↑(List.length x.fst.fst) : Int) - (1 : Int)) < (↑(List.length x.fst.fst) : Int) then
      Option.bind
        (Go.Sx.iter
          (fun (s2 : Int × Int × Int × List Int × Int × Int × Int × Int × Int × Int × List Int) =>
            if Decidable.decide (s2.snd.snd.fst < (↑(List.length v1) : Int)) = Bool.true then
              Option.bind
                (Option.bind
                  (if (0 : Int) ≤ s2.snd.snd.fst ∧ s2.snd.snd.fst < (↑(List.length v1) : Int) then
                    if (0 : Int) ≤ (0 : Int) ∧ (0 : Int) < (↑(List.length s2.snd.snd.snd.fst) : Int) then
                      if (List.getD v1 (Int.toNat s2.snd.snd.fst) (0 : Int) == List.getD s2.snd.snd.snd.fst (Int.toNat (0 : Int)) (0 : Int)) = Bool.true then
                        Option.some
                          (Decidable.decide (s2.snd.snd.fst > (0 : Int)), s2.snd.snd.snd.1, s2.snd.snd.snd.snd.1, s2.snd.snd.snd.snd.snd.1, s2.snd.snd.snd.snd.snd.snd.1,
                            s2.snd.snd.snd.snd.snd.snd.snd.1, s2.snd.snd.snd.snd.snd.snd.snd.snd.1, s2.snd.snd.snd.snd.snd.snd.snd.snd.snd.1, s2.snd.snd.snd.snd.snd.snd.snd.snd.snd.2)
                      else
                        Option.some
                          (Bool.false, s2.snd.snd.snd.1, s2.snd.snd.snd.snd.1, s2.snd.snd.snd.snd.snd.1, s2.snd.snd.snd.snd.snd.snd.1, s2.snd.snd.snd.snd.snd.snd.snd.1,
                            s2.snd.snd.snd.snd.snd.snd.snd.snd.1, s2.snd.snd.snd.snd.snd.snd.snd.snd.snd.1, s2.snd.snd.snd.snd.snd.snd.snd.snd.snd.2)
                    else Option.none
                  else Option.none)
                  fun (v3 : Bool × List Int × Int × Int × Int × Int × Int × Int × List Int) =>
                  if v3.fst = Bool.true then
                    if (0 : Int) ≤ Go.IntKind.wrap Go.IntKind.i64 (s2.snd.snd.fst - (1 : Int)) ∧ Go.IntKind.wrap Go.IntKind.i64 (s2.snd.snd.fst - (1 : Int)) < (↑(List.length v1) : Int) then
                      if
                          (0 : Int) ≤ List.getD v1 (Int.toNat (Go.IntKind.wrap Go.IntKind.i64 (s2.snd.snd.fst - (1 : Int)))) (0 : Int) ∧
                            List.getD v1 (Int.toNat (Go.IntKind.wrap Go.IntKind.i64 (s2.snd.snd.fst - (1 : Int)))) (0 : Int) < (↑(List.length x.snd.snd.fst) : Int) then
                        Option.some
                          (List.getD x.snd.snd.fst (Int.toNat (List.getD v1 (Int.toNat (Go.IntKind.wrap Go.IntKind.i64 (s2.snd.snd.fst - (1 : Int)))) (0 : Int))) (0 : Int), v3.snd.1, v3.snd.snd.1,
                            v3.snd.snd.snd.1, v3.snd.snd.snd.snd.1, v3.snd.snd.snd.snd.snd.1, v3.snd.snd.snd.snd.snd.snd.1, v3.snd.snd.snd.snd.snd.snd.snd.1, v3.snd.snd.snd.snd.snd.snd.snd.2)
                      else Option.none
                    else Option.none
                  else
                    Option.some
                      (s2.1, v3.snd.1, v3.snd.snd.1, v3.snd.snd.snd.1, v3.snd.snd.snd.snd.1, v3.snd.snd.snd.snd.snd.1, v3.snd.snd.snd.snd.snd.snd.1, v3.snd.snd.snd.snd.snd.snd.snd.1,
                        v3.snd.snd.snd.snd.snd.snd.snd.2))
                fun (v3 : Int × List Int × Int × Int × Int × Int × Int × Int × List Int) =>
                Option.bind
                  (if (0 : Int) ≤ s2.snd.snd.fst ∧ s2.snd.snd.fst < (↑(List.length v1) : Int) then
                    if
                        (List.getD v1 (Int.toNat s2.snd.snd.fst) (0 : Int) ==
                            List.getD x.fst.fst (Int.toNat (Go.IntKind.wrap Go.IntKind.i64 ((↑(List.length x.fst.fst) : Int) - (1 : Int)))) (0 : Int)) =
                          Bool.true then
                      if Decidable.decide (Go.IntKind.wrap Go.IntKind.i64 (s2.snd.snd.fst + (1 : Int)) < (↑(List.length v1) : Int)) = Bool.true then
                        if
                            (0 : Int) ≤ List.getD x.fst.fst (Int.toNat (Go.IntKind.wrap Go.IntKind.i64 ((↑(List.length x.fst.fst) : Int) - (1 : Int)))) (0 : Int) ∧
                              List.getD x.fst.fst (Int.toNat (Go.IntKind.wrap Go.IntKind.i64 ((↑(List.length x.fst.fst) : Int) - (1 : Int)))) (0 : Int) < (↑(List.length x.snd.fst) : Int) then
                          if
                              (List.getD x.snd.fst (Int.toNat (List.getD x.fst.fst (Int.toNat (Go.IntKind.wrap Go.IntKind.i64 ((↑(List.length x.fst.fst) : Int) - (1 : Int)))) (0 : Int))) (0 : Int) !=
                                  (10 : Int)) =
                                Bool.true then
                            if
                                (0 : Int) ≤ List.getD x.fst.fst (Int.toNat (Go.IntKind.wrap Go.IntKind.i64 ((↑(List.length x.fst.fst) : Int) - (1 : Int)))) (0 : Int) ∧
                                  List.getD x.fst.fst (Int.toNat (Go.IntKind.wrap Go.IntKind.i64 ((↑(List.length x.fst.fst) : Int) - (1 : Int)))) (0 : Int) < (↑(List.length x.snd.fst) : Int) then
                              Option.bind
                                (Go.Sx.Q.f35F
                                  (List.getD x.snd.fst (Int.toNat (List.getD x.fst.fst (Int.toNat (Go.IntKind.wrap Go.IntKind.i64 ((↑(List.length x.fst.fst) : Int) - (1 : Int)))) (0 : Int)))
                                    (0 : Int)))
                                fun (v4 : Bool) =>
                                Option.some
                                  (!v4, v3.snd.1, v3.snd.snd.1, v3.snd.snd.snd.1, v3.snd.snd.snd.snd.1, v3.snd.snd.snd.snd.snd.1, v3.snd.snd.snd.snd.snd.snd.1, v3.snd.snd.snd.snd.snd.snd.snd.1,
                                    v3.snd.snd.snd.snd.snd.snd.snd.2)
                            else Option.none
                          else
                            Option.some
                              (Bool.false, v3.snd.1, v3.snd.snd.1, v3.snd.snd.snd.1, v3.snd.snd.snd.snd.1, v3.snd.snd.snd.snd.snd.1, v3.snd.snd.snd.snd.snd.snd.1, v3.snd.snd.snd.snd.snd.snd.snd.1,
                                v3.snd.snd.snd.snd.snd.snd.snd.2)
                        else Option.none
                      else
                        Option.some
                          (Bool.false, v3.snd.1, v3.snd.snd.1, v3.snd.snd.snd.1, v3.snd.snd.snd.snd.1, v3.snd.snd.snd.snd.snd.1, v3.snd.snd.snd.snd.snd.snd.1, v3.snd.snd.snd.snd.snd.snd.snd.1,
                            v3.snd.snd.snd.snd.snd.snd.snd.2)
                    else
                      Option.some
                        (Bool.false, v3.snd.1, v3.snd.snd.1, v3.snd.snd.snd.1, v3.snd.snd.snd.snd.1, v3.snd.snd.snd.snd.snd.1, v3.snd.snd.snd.snd.snd.snd.1, v3.snd.snd.snd.snd.snd.snd.snd.1,
                          v3.snd.snd.snd.snd.snd.snd.snd.2)
                  else Option.none)
                  fun (v4 : Bool × List Int × Int × Int × Int × Int × Int × Int × List Int) =>
                  if v4.fst = Bool.true then
                    if (0 : Int) ≤ Go.IntKind.wrap Go.IntKind.i64 (s2.snd.snd.fst + (1 : Int)) ∧ Go.IntKind.wrap Go.IntKind.i64 (s2.snd.snd.fst + (1 : Int)) < (↑(List.length v1) : Int) then
                      if
                          (0 : Int) ≤ List.getD v1 (Int.toNat (Go.IntKind.wrap Go.IntKind.i64 (s2.snd.snd.fst + (1 : Int)))) (0 : Int) ∧
                            List.getD v1 (Int.toNat (Go.IntKind.wrap Go.IntKind.i64 (s2.snd.snd.fst + (1 : Int)))) (0 : Int) < (↑(List.length x.snd.snd.fst) : Int) then
                        Option.some
                          (Sum.inl
                            (v3.1, List.getD x.snd.snd.fst (Int.toNat (List.getD v1 (Int.toNat (Go.IntKind.wrap Go.IntKind.i64 (s2.snd.snd.fst + (1 : Int)))) (0 : Int))) (0 : Int),
                              Go.IntKind.wrap Go.IntKind.i64 (s2.snd.snd.fst + (1 : Int)), v4.snd.1, v4.snd.snd.1, v4.snd.snd.snd.1, v4.snd.snd.snd.snd.1, v4.snd.snd.snd.snd.snd.1,
                              v4.snd.snd.snd.snd.snd.snd.1, v4.snd.snd.snd.snd.snd.snd.snd.1, v4.snd.snd.snd.snd.snd.snd.snd.2))
                      else Option.none
                    else Option.none
                  else
                    Option.some
                      (Sum.inl
                        (v3.1, s2.snd.1, Go.IntKind.wrap Go.IntKind.i64 (s2.snd.snd.fst + (1 : Int)), v4.snd.1, v4.snd.snd.1, v4.snd.snd.snd.1, v4.snd.snd.snd.snd.1, v4.snd.snd.snd.snd.snd.1,
                          v4.snd.snd.snd.snd.snd.snd.1, v4.snd.snd.snd.snd.snd.snd.snd.1, v4.snd.snd.snd.snd.snd.snd.snd.2))
            else
              Option.some
                (Sum.inr
                  (s2.1, s2.snd.1, s2.snd.snd.snd.1, s2.snd.snd.snd.snd.1, s2.snd.snd.snd.snd.snd.1, s2.snd.snd.snd.snd.snd.snd.1, s2.snd.snd.snd.snd.snd.snd.snd.1,
                    s2.snd.snd.snd.snd.snd.snd.snd.snd.1, s2.snd.snd.snd.snd.snd.snd.snd.snd.snd.1, s2.snd.snd.snd.snd.snd.snd.snd.snd.snd.2)))
          (x.snd.snd.2, x.snd.snd.2, (0 : Int), x.fst.1, x.fst.snd.1, x.fst.snd.snd.1, x.fst.snd.snd.2, (0 : Int), (0 : Int), (0 : Int), []))
        fun (v2 : Int × Int × List Int × Int × Int × Int × Int × Int × Int × List Int) =>
        Option.bind (Go.Sx.Q.f14F (Go.Sx.maxI v2.snd.snd.snd.fst v2.fst)) fun (v3 : Int) =>
          if
              (0 : Int) ≤ List.getD x.fst.fst (Int.toNat (Go.IntKind.wrap Go.IntKind.i64 ((↑(List.length x.fst.fst) : Int) - (1 : Int)))) (0 : Int) ∧
                List.getD x.fst.fst (Int.toNat (Go.IntKind.wrap Go.IntKind.i64 ((↑(List.length x.fst.fst) : Int) - (1 : Int)))) (0 : Int) < (↑(List.length x.snd.snd.fst) : Int) then
            Option.bind
              (Go.Sx.Q.f14F
                (Go.Sx.maxI (List.getD x.snd.snd.fst (Int.toNat (List.getD x.fst.fst (Int.toNat (Go.IntKind.wrap Go.IntKind.i64 ((↑(List.length x.fst.fst) : Int) - (1 : Int)))) (0 : Int))) (0 : Int))
                  v2.snd.fst))
              fun (v4 : Int) => Option.some (v2.snd.snd.1, v2.snd.snd.snd.1, v3, v4)
          else Option.none
    else Option.none
theorem Q.f26eq : ∀ x, runFn Q.C Q.f26Γ Q.f26sig Q.f26ann Go.Proofs.Try.f26 x = Q.f26F x := by
  intro x
  kernel_rfl
noncomputable def Q.f26con : Con := ⟨26, Q.f26sig, Q.f26F⟩
theorem Q.f26ok : Con.Ok Go.Proofs.Try.prog Q.C Q.f26con :=
  runFn_ok (Γ := Q.f26Γ) (an := Q.f26ann) ⟨Q.Cok, (List.forall_mem_cons.2 ⟨Q.f34ok, (List.forall_mem_cons.2 ⟨Q.f35ok, (List.forall_mem_cons.2 ⟨Q.f14ok, (fun _ h => nomatch h)⟩)⟩)⟩), Q.mixed⟩ Go.Proofs.Try.func26 rfl rfl (fun x y h => (Q.f26eq x).trans h) (by decide)
def Q.f8sig : Sig := ⟨⟨[.hole (.sl (.int .i64)), .hole (.sl (.int .i64)), .hole (.int .i64)], []⟩, ⟨[.hole (.sl (.st (.pair (.sl (.int .i64)) (.pair (.int .i64) (.pair (.int .i64) (.int .i64))))))], []⟩⟩
noncomputable def Q.f8Γ : List Con := [Q.f23con, Q.f24con, Q.f25con, Q.f26con]
def Q.f8ann : Ann :=
  (.seq .leaf (.seq .leaf (.seq .leaf (.seq .leaf (.seq (.seq .leaf (.block (.loop ⟨.normal, [(10, .hole (.int .i64))], [.arr 4 .bool]⟩ [⟨(.exit 0), [], [.arr 4 .bool]⟩] (.seq (.seq .leaf (.cond .leaf .leaf)) (.seq (.block (.seq .leaf (.seq .leaf (.cond .leaf .leaf)))) .leaf))))) (.seq .leaf (.seq (.seq .leaf (.block (.loop ⟨.normal, [(12, .own 1), (13, .hole (.int .i64))], [.arr 4 .bool, .arr 36 (.st (.pair (.sl (.int .i64)) (.pair (.int .i64) (.pair (.int .i64) (.int .i64)))))]⟩ [⟨(.exit 2), [(12, .own 1)], [.gone, .arr 36 (.st (.pair (.sl (.int .i64)) (.pair (.int .i64) (.pair (.int .i64) (.int .i64)))))]⟩] (.seq (.seq .leaf (.cond .leaf .leaf)) (.seq (.block (.seq (.seq .leaf (.cond .leaf .leaf)) (.seq .leaf (.seq (.seq .leaf (.block (.loop ⟨.normal, [(14, .own 2), (15, .hole (.int .i64))], [.arr 4 .bool, .arr 36 (.st (.pair (.sl (.int .i64)) (.pair (.int .i64) (.pair (.int .i64) (.int .i64))))), .arr 3 (.int .i64)]⟩ [⟨(.exit 4), [(14, .own 2)], [.arr 4 .bool, .arr 36 (.st (.pair (.sl (.int .i64)) (.pair (.int .i64) (.pair (.int .i64) (.int .i64))))), .arr 3 (.int .i64)]⟩] (.seq (.seq .leaf (.cond .leaf .leaf)) (.seq (.block .leaf) .leaf))))) .leaf)))) .leaf))))) (.seq .leaf .leaf))))))))
/- ductus/ductusref08.Of -/
noncomputable def Q.f8F : List Int × List Int × Int → Option (List (List Int × Int × Int × Int)) :=
  fun (x : List Int × List Int × Int) =>
  Option.bind (Go.Sx.Q.f23F (x.1, x.snd.1)) fun (v1 : List (List Int)) =>
    Option.bind (Go.Sx.Q.f24F x.1) fun (v2 : List Int) =>
      if
          (0 : Int) ≤ (↑(List.length v1) : Int) ∧
            (↑(List.length v1) : Int) ≤ (↑(List.length v1) : Int) ∧
              Go.Sx.roomOk (Int.toNat (↑(List.length v1) : Int))
                { kind := Go.Sx.TK.bool, size := (1 : Nat), bytes := (1 : Nat), ty := Option.some Go.Sx.Ty.bool, zero := [Go.Sx.SV.bit Bool.false] : Go.Sx.TI }.bytes then
        Option.bind
          (Go.Sx.iter
            (fun (s3 : Int × List Bool) =>
              if Decidable.decide (s3.fst < (↑(List.length v1) : Int)) = Bool.true then
                Option.bind (Go.Sx.Q.f25F (x.1, v1, v2, s3.1)) fun (v4 : Int) =>
                  if Decidable.decide (v4 ≥ (0 : Int)) = Bool.true then
                    if (0 : Int) ≤ v4 ∧ v4 < (↑(List.length s3.snd) : Int) then Option.some (Sum.inl (Go.IntKind.wrap Go.IntKind.i64 (s3.fst + (1 : Int)), List.set s3.2 (Int.toNat v4) Bool.true))
                    else Option.none
                  else Option.some (Sum.inl (Go.IntKind.wrap Go.IntKind.i64 (s3.fst + (1 : Int)), s3.2))
              else Option.some (Sum.inr s3.2))
            ((0 : Int), List.replicate (Int.toNat (↑(List.length v1) : Int)) Bool.false))
          fun (v3 : List Bool) =>
          Option.bind
            (Go.Sx.iter
              (fun (s4 : Int × List Bool × List (List Int × Int × Int × Int)) =>
                if Decidable.decide (s4.fst < (↑(List.length v1) : Int)) = Bool.true then
                  if (0 : Int) ≤ s4.fst ∧ s4.fst < (↑(List.length s4.snd.fst) : Int) then
                    if List.getD s4.snd.1 (Int.toNat s4.fst) Bool.false = Bool.true then Option.some (Sum.inl (Go.IntKind.wrap Go.IntKind.i64 (s4.fst + (1 : Int)), s4.snd.1, s4.snd.2))
                    else
                      Option.bind
                        (Go.Sx.iter
                          (fun (s5 : Int × List Bool × List (List Int × Int × Int × Int) × List Int) =>
                            if Decidable.decide (s5.fst ≥ (0 : Int)) = Bool.true then
                              if (0 : Int) ≤ s5.fst ∧ s5.fst < (↑(List.length v1) : Int) then
                                if
                                    Go.Sx.roomOk (List.length s5.snd.snd.snd + List.length (List.getD v1 (Int.toNat s5.fst) []))
                                      { kind := Go.Sx.TK.int Go.IntKind.i64, size := (1 : Nat), bytes := (8 : Nat), ty := Option.some (Go.Sx.Ty.int Go.IntKind.i64),
                                          zero := [Go.Sx.SV.val (Go.Sx.Ty.int Go.IntKind.i64) (0 : Int)] : Go.Sx.TI }.bytes then
                                  Option.bind (Go.Sx.Q.f25F (x.1, v1, v2, s5.1)) fun (v6 : Int) =>
                                    Option.some (Sum.inl (v6, s5.snd.1, s5.snd.snd.1, s5.snd.snd.2 ++ List.getD v1 (Int.toNat s5.fst) []))
                                else Option.none
                              else Option.none
                            else Option.some (Sum.inr (s5.snd.1, s5.snd.snd.1, s5.snd.snd.2)))
                          (s4.1, s4.snd.1, s4.snd.2, []))
                        fun (v5 : List Bool × List (List Int × Int × Int × Int) × List Int) =>
                        if (0 : Int) ≤ (0 : Int) ∧ (0 : Int) < (↑(List.length v5.snd.snd) : Int) then
                          if (0 : Int) ≤ List.getD v5.snd.2 (Int.toNat (0 : Int)) (0 : Int) ∧ List.getD v5.snd.2 (Int.toNat (0 : Int)) (0 : Int) < (↑(List.length x.snd.fst) : Int) then
                            Option.bind
                              (Go.Sx.Q.f26F ((v5.snd.2, List.getD x.snd.fst (Int.toNat (List.getD v5.snd.2 (Int.toNat (0 : Int)) (0 : Int))) (0 : Int), (0 : Int), (0 : Int)), x.1, x.snd.1, x.snd.2))
                              fun (v6 : List Int × Int × Int × Int) =>
                              if
                                  Go.Sx.roomOk (List.length v5.snd.fst + (1 : Nat))
                                    {
                                        kind :=
                                          Go.Sx.TK.struct
                                            [((22 : Go.TypeId), (0 : Nat), (1 : Nat), Bool.false), ((3 : Go.TypeId), (1 : Nat), (1 : Nat), Bool.false),
                                              ((3 : Go.TypeId), (2 : Nat), (1 : Nat), Bool.false), ((3 : Go.TypeId), (3 : Nat), (1 : Nat), Bool.false)],
                                        size := (4 : Nat), bytes := (48 : Nat),
                                        ty :=
                                          Option.some
                                            (Go.Sx.Ty.st
                                              (Go.Sx.Ty.pair (Go.Sx.Ty.sl (Go.Sx.Ty.int Go.IntKind.i64))
                                                (Go.Sx.Ty.pair (Go.Sx.Ty.int Go.IntKind.i64) (Go.Sx.Ty.pair (Go.Sx.Ty.int Go.IntKind.i64) (Go.Sx.Ty.int Go.IntKind.i64))))),
                                        zero :=
                                          [Go.Sx.SV.nils, Go.Sx.SV.val (Go.Sx.Ty.int Go.IntKind.i64) (0 : Int), Go.Sx.SV.val (Go.Sx.Ty.int Go.IntKind.i64) (0 : Int),
                                            Go.Sx.SV.val (Go.Sx.Ty.int Go.IntKind.i64) (0 : Int)] :
                                        Go.Sx.TI }.bytes then
                                Option.some (Sum.inl (Go.IntKind.wrap Go.IntKind.i64 (s4.fst + (1 : Int)), v5.1, v5.snd.1 ++ [v6]))
                              else Option.none
                          else Option.none
                        else Option.none
                  else Option.none
                else Option.some (Sum.inr s4.snd.2))
              ((0 : Int), v3, []))
            fun (v4 : List (List Int × Int × Int × Int)) => Option.some v4
      else Option.none
theorem Q.f8eq : ∀ x, runFn Q.C Q.f8Γ Q.f8sig Q.f8ann Go.Proofs.Try.f8 x = Q.f8F x := by
  intro x
  kernel_rfl
noncomputable def Q.f8con : Con := ⟨8, Q.f8sig, Q.f8F⟩
theorem Q.f8ok : Con.Ok Go.Proofs.Try.prog Q.C Q.f8con :=
  runFn_ok (Γ := Q.f8Γ) (an := Q.f8ann) ⟨Q.Cok, (List.forall_mem_cons.2 ⟨Q.f23ok, (List.forall_mem_cons.2 ⟨Q.f24ok, (List.forall_mem_cons.2 ⟨Q.f25ok, (List.forall_mem_cons.2 ⟨Q.f26ok, (fun _ h => nomatch h)⟩)⟩)⟩)⟩), Q.mixed⟩ Go.Proofs.Try.func8 rfl rfl (fun x y h => (Q.f8eq x).trans h) (by decide)
def Q.f12sig : Sig := ⟨⟨[.hole (.sl (.int .i64)), .hole (.sl (.int .i64))], []⟩, ⟨[.hole (.sl (.arr 2 (.int .i64)))], []⟩⟩
noncomputable def Q.f12Γ : List Con := [Q.f23con]
def Q.f12ann : Ann :=
  (.seq .leaf (.seq .leaf (.seq .leaf (.seq (.seq .leaf (.block (.loop ⟨.normal, [(6, .own 0), (7, .hole (.int .i64))], [.arr 39 (.arr 2 (.int .i64))]⟩ [⟨(.exit 0), [(6, .own 0)], [.arr 39 (.arr 2 (.int .i64))]⟩] (.seq (.seq .leaf (.cond .leaf .leaf)) (.seq (.block (.effl 3 [] [0, 0, 0, 6, 14, 30, 62, 0, 0, 384, 896, 0, 0, 6144, 14336, 30720, 63488, 130944, 262016, 524286, 1048574, 2097151])) .leaf))))) (.seq .leaf .leaf)))))
/- ductus/ductusref08.Runs -/
noncomputable def Q.f12F : List Int × List Int → Option (List (List Int)) :=
  fun (x : List Int × List Int) =>
  Option.bind (Go.Sx.Q.f23F (x.1, x.2)) fun (v1 : List (List Int)) =>
    Option.bind
      (Go.Sx.iter
        (fun (s2 : Int × List (List Int)) =>
          if Decidable.decide (s2.fst < (↑(List.length v1) : Int)) = Bool.true then
            if (0 : Int) ≤ s2.fst ∧ s2.fst < (↑(List.length v1) : Int) then
              if (0 : Int) ≤ (0 : Int) ∧ (0 : Int) < (↑(List.length (List.getD v1 (Int.toNat s2.fst) [])) : Int) then
                if (0 : Int) ≤ s2.fst ∧ s2.fst < (↑(List.length v1) : Int) then
                  if (0 : Int) ≤ s2.fst ∧ s2.fst < (↑(List.length v1) : Int) then
                    if
                        (0 : Int) ≤ Go.IntKind.wrap Go.IntKind.i64 ((↑(List.length (List.getD v1 (Int.toNat s2.fst) [])) : Int) - (1 : Int)) ∧
                          Go.IntKind.wrap Go.IntKind.i64 ((↑(List.length (List.getD v1 (Int.toNat s2.fst) [])) : Int) - (1 : Int)) < (↑(List.length (List.getD v1 (Int.toNat s2.fst) [])) : Int) then
                      if
                          Go.Sx.roomOk (List.length s2.snd + (1 : Nat))
                            { kind := Go.Sx.TK.array (2 : Nat) (3 : Go.TypeId), size := (2 : Nat), bytes := (16 : Nat), ty := Option.some (Go.Sx.Ty.arr (2 : Nat) (Go.Sx.Ty.int Go.IntKind.i64)),
                                zero := [Go.Sx.SV.val (Go.Sx.Ty.int Go.IntKind.i64) (0 : Int), Go.Sx.SV.val (Go.Sx.Ty.int Go.IntKind.i64) (0 : Int)] : Go.Sx.TI }.bytes then
                        Option.some
                          (Sum.inl
                            (Go.IntKind.wrap Go.IntKind.i64 (s2.fst + (1 : Int)),
                              s2.2 ++
                                [[List.getD (List.getD v1 (Int.toNat s2.fst) []) (Int.toNat (0 : Int)) (0 : Int),
                                    List.getD (List.getD v1 (Int.toNat s2.fst) [])
                                      (Int.toNat (Go.IntKind.wrap Go.IntKind.i64 ((↑(List.length (List.getD v1 (Int.toNat s2.fst) [])) : Int) - (1 : Int)))) (0 : Int)]]))
                      else Option.none
                    else Option.none
                  else Option.none
                else Option.none
              else Option.none
            else Option.none
          else Option.some (Sum.inr s2.2))
        ((0 : Int), []))
      fun (v2 : List (List Int)) => Option.some v2
theorem Q.f12eq : ∀ x, runFn Q.C Q.f12Γ Q.f12sig Q.f12ann Go.Proofs.Try.f12 x = Q.f12F x := by
  intro x
  kernel_rfl
noncomputable def Q.f12con : Con := ⟨12, Q.f12sig, Q.f12F⟩
theorem Q.f12ok : Con.Ok Go.Proofs.Try.prog Q.C Q.f12con :=
  runFn_ok (Γ := Q.f12Γ) (an := Q.f12ann) ⟨Q.Cok, (List.forall_mem_cons.2 ⟨Q.f23ok, (fun _ h => nomatch h)⟩), Q.mixed⟩ Go.Proofs.Try.func12 rfl rfl (fun x y h => (Q.f12eq x).trans h) (by decide)
def Q.f10sig : Sig := ⟨⟨[.hole (.sl (.arr 2 (.int .i64))), .hole (.sl (.arr 2 (.int .i64)))], []⟩, ⟨[.hole .bool], []⟩⟩
noncomputable def Q.f10Γ : List Con := []
def Q.f10ann : Ann :=
  (.seq .leaf (.seq (.seq .leaf (.cond (.seq .leaf .leaf) .leaf)) (.seq (.seq .leaf (.block (.loop ⟨.normal, [(5, .hole (.int .i64))], []⟩ [⟨(.exit 0), [], []⟩, ⟨.ret, [(4, .hole .bool)], []⟩] (.seq (.seq .leaf (.cond .leaf .leaf)) (.seq (.block (.seq .leaf (.cond (.seq .leaf .leaf) .leaf))) .leaf))))) (.seq .leaf .leaf))))
/- ductus/ductuslaw08.same -/
noncomputable def Q.f10F : List (List Int) × List (List Int) → Option (Bool) :=
  fun (x : List (List Int) × List (List Int)) =>
  if ((↑(List.length x.fst) : Int) != (↑(List.length x.snd) : Int)) = Bool.true then Option.some Bool.false
  else
    Option.bind
      (Go.Sx.iter
        (fun (s1 : Int) =>
          if Decidable.decide (s1 < (↑(List.length x.fst) : Int)) = Bool.true then
            if (0 : Int) ≤ s1 ∧ s1 < (↑(List.length x.fst) : Int) then
              if (0 : Int) ≤ s1 ∧ s1 < (↑(List.length x.snd) : Int) then
                if
                    (!Go.Sx.Ty.eqb (Go.Sx.Ty.arr (2 : Nat) (Go.Sx.Ty.int Go.IntKind.i64)) (List.getD x.fst (Int.toNat s1) (List.replicate (2 : Nat) (0 : Int)))
                          (List.getD x.snd (Int.toNat s1) (List.replicate (2 : Nat) (0 : Int)))) =
                      Bool.true then
                  Option.some (Sum.inr (Sum.inr Bool.false))
                else Option.some (Sum.inl (Go.IntKind.wrap Go.IntKind.i64 (s1 + (1 : Int))))
              else Option.none
            else Option.none
          else Option.some (Sum.inr (Sum.inl ())))
        (0 : Int))
      fun (v1 : PUnit ⊕ Bool) => Sum.elim (fun (p2 : PUnit) => Option.some Bool.true) (fun (q2 : Bool) => Option.some q2) v1
theorem Q.f10eq : ∀ x, runFn Q.C Q.f10Γ Q.f10sig Q.f10ann Go.Proofs.Try.f10 x = Q.f10F x := by
  intro x
  kernel_rfl
noncomputable def Q.f10con : Con := ⟨10, Q.f10sig, Q.f10F⟩
theorem Q.f10ok : Con.Ok Go.Proofs.Try.prog Q.C Q.f10con :=
  runFn_ok (Γ := Q.f10Γ) (an := Q.f10ann) ⟨Q.Cok, (fun _ h => nomatch h), Q.mixed⟩ Go.Proofs.Try.func10 rfl rfl (fun x y h => (Q.f10eq x).trans h) (by decide)
def Q.f3sig : Sig := ⟨⟨[.hole (.sl (.int .i64)), .hole (.sl (.int .i64)), .hole (.int .i64)], []⟩, ⟨[.hole .bool], []⟩⟩
noncomputable def Q.f3Γ : List Con := [Q.f6con, Q.f7con, Q.f8con, Q.f9con, Q.f11con, Q.f12con, Q.f10con, Q.f13con, Q.f14con]
def Q.f3ann : Ann :=
  (.seq .leaf (.seq (.seq .leaf (.cond (.seq .leaf .leaf) .leaf)) (.seq (.seq (.join [⟨.normal, [(18, .hole .bool)], []⟩] .leaf) (.cond (.seq .leaf .leaf) .leaf)) (.seq .leaf (.seq .leaf (.seq .leaf .leaf))))))
/- ductus/ductuslaw08.SeqAnswers -/
noncomputable def Q.f3F : List Int × List Int × Int → Option (Bool) :=
  fun (x : List Int × List Int × Int) =>
  Option.bind (Go.Sx.Q.f6F ()) fun (v1 : Bool) =>
    if (!v1) = Bool.true then Option.some Bool.false
    else
      Option.bind
        (if Decidable.decide ((↑(List.length x.fst) : Int) > (300 : Int)) = Bool.true then Option.some Bool.true else Option.some (Decidable.decide ((↑(List.length x.snd.fst) : Int) > (300 : Int))))
        fun (v2 : Bool) =>
        if v2 = Bool.true then Option.some Bool.true
        else
          Option.bind (Go.Sx.Q.f7F (x.1, x.snd.1, x.snd.2)) fun (v3 : List (List Int × Int × Int × Int)) =>
            Option.bind (Go.Sx.Q.f8F (x.1, x.snd.1, x.snd.2)) fun (v4 : List (List Int × Int × Int × Int)) =>
              Option.bind (Go.Sx.Q.f9F (v3, v4)) fun (v5 : Bool) =>
                if v5 = Bool.true then
                  Option.bind (Go.Sx.Q.f11F (x.1, x.snd.1)) fun (v6 : List (List Int)) =>
                    Option.bind (Go.Sx.Q.f12F (x.1, x.snd.1)) fun (v7 : List (List Int)) =>
                      Option.bind (Go.Sx.Q.f10F (v6, v7)) fun (v8 : Bool) =>
                        if v8 = Bool.true then Option.bind (Go.Sx.Q.f13F x.snd.2) fun (v9 : Int) => Option.bind (Go.Sx.Q.f14F x.snd.2) fun (v10 : Int) => Option.some (v9 == v10)
                        else Option.some Bool.false
                else Option.some Bool.false
theorem Q.f3eq : ∀ x, runFn Q.C Q.f3Γ Q.f3sig Q.f3ann Go.Proofs.Try.f3 x = Q.f3F x := by
  intro x
  kernel_rfl
noncomputable def Q.f3con : Con := ⟨3, Q.f3sig, Q.f3F⟩
theorem Q.f3ok : Con.Ok Go.Proofs.Try.prog Q.C Q.f3con :=
  runFn_ok (Γ := Q.f3Γ) (an := Q.f3ann) ⟨Q.Cok, (List.forall_mem_cons.2 ⟨Q.f6ok, (List.forall_mem_cons.2 ⟨Q.f7ok, (List.forall_mem_cons.2 ⟨Q.f8ok, (List.forall_mem_cons.2 ⟨Q.f9ok, (List.forall_mem_cons.2 ⟨Q.f11ok, (List.forall_mem_cons.2 ⟨Q.f12ok, (List.forall_mem_cons.2 ⟨Q.f10ok, (List.forall_mem_cons.2 ⟨Q.f13ok, (List.forall_mem_cons.2 ⟨Q.f14ok, (fun _ h => nomatch h)⟩)⟩)⟩)⟩)⟩)⟩)⟩)⟩)⟩), Q.mixed⟩ Go.Proofs.Try.func3 rfl rfl (fun x y h => (Q.f3eq x).trans h) (by decide)
def Q.f46sig : Sig := ⟨⟨[.ptr 0 0, .hole (.st (.pair (.int .i64) (.pair (.int .i64) .bool)))], [.cells [.hole (.int .i64), .own 1, .hole (.int .i64), .hole (.int .i64), .hole (.int .i64), .hole (.int .i64), .own 2, .own 3, .hole (.sl (.int .i64))], .arr 70 (.st (.pair (.int .i64) (.pair (.int .i64) .bool))), .arr 3 (.int .i64), .arr 3 (.int .i64)]⟩, ⟨[], [.cells [.hole (.int .i64), .own 4, .hole (.int .i64), .hole (.int .i64), .hole (.int .i64), .hole (.int .i64), .own 5, .own 6, .hole (.sl (.int .i64))], .gone, .gone, .gone, .arr 70 (.st (.pair (.int .i64) (.pair (.int .i64) .bool))), .arr 3 (.int .i64), .arr 3 (.int .i64)]⟩⟩
noncomputable def Q.f46Γ : List Con := []
def Q.f46ann : Ann :=
  (.seq .leaf (.seq (.eff 8 [8] [0, 0, 0, 4, 12, 28, 62, 0, 128, 510, 1023, 2047, 4095]) (.tail 13)))
/- (*ductus/ductusref06.walk).push -/
noncomputable def Q.f46F : (Int × Int × Bool) × Int × Int × Int × Int × Int × List Int × List (Int × Int × Bool) × List Int × List Int → Option (Int × Int × Int × Int × Int × List Int × List (Int × Int × Bool) × List Int × List Int) :=
  fun (x : (Int × Int × Bool) × Int × Int × Int × Int × Int × List Int × List (Int × Int × Bool) × List Int × List Int) =>
  if
      Go.Sx.roomOk ((0 : Nat) + List.length x.snd.snd.snd.snd.snd.snd.snd.1)
        { kind := Go.Sx.TK.struct [((3 : Go.TypeId), (0 : Nat), (1 : Nat), Bool.false), ((3 : Go.TypeId), (1 : Nat), (1 : Nat), Bool.false), ((4 : Go.TypeId), (2 : Nat), (1 : Nat), Bool.false)],
            size := (3 : Nat), bytes := (24 : Nat), ty := Option.some (Go.Sx.Ty.st (Go.Sx.Ty.pair (Go.Sx.Ty.int Go.IntKind.i64) (Go.Sx.Ty.pair (Go.Sx.Ty.int Go.IntKind.i64) Go.Sx.Ty.bool))),
            zero := [Go.Sx.SV.val (Go.Sx.Ty.int Go.IntKind.i64) (0 : Int), Go.Sx.SV.val (Go.Sx.Ty.int Go.IntKind.i64) (0 : Int), Go.Sx.SV.bit Bool.false] : Go.Sx.TI }.bytes then
    if
        Go.Sx.roomOk (List.length ([] ++ x.snd.snd.snd.snd.snd.snd.snd.1) + (1 : Nat))
          { kind := Go.Sx.TK.struct [((3 : Go.TypeId), (0 : Nat), (1 : Nat), Bool.false), ((3 : Go.TypeId), (1 : Nat), (1 : Nat), Bool.false), ((4 : Go.TypeId), (2 : Nat), (1 : Nat), Bool.false)],
              size := (3 : Nat), bytes := (24 : Nat), ty := Option.some (Go.Sx.Ty.st (Go.Sx.Ty.pair (Go.Sx.Ty.int Go.IntKind.i64) (Go.Sx.Ty.pair (Go.Sx.Ty.int Go.IntKind.i64) Go.Sx.Ty.bool))),
              zero := [Go.Sx.SV.val (Go.Sx.Ty.int Go.IntKind.i64) (0 : Int), Go.Sx.SV.val (Go.Sx.Ty.int Go.IntKind.i64) (0 : Int), Go.Sx.SV.bit Bool.false] : Go.Sx.TI }.bytes then
      Option.some
        (x.snd.1, x.snd.snd.1, x.snd.snd.snd.1, x.snd.snd.snd.snd.1,
          Go.Sx.maxI x.snd.snd.snd.snd.snd.fst (↑(List.length ([] ++ x.snd.snd.snd.snd.snd.snd.snd.1 ++ [(x.fst.1, x.fst.snd.1, x.fst.snd.2)])) : Int), x.snd.snd.snd.snd.snd.snd.1,
          [] ++ x.snd.snd.snd.snd.snd.snd.snd.1 ++ [(x.fst.1, x.fst.snd.1, x.fst.snd.2)], x.snd.snd.snd.snd.snd.snd.snd.snd.1, x.snd.snd.snd.snd.snd.snd.snd.snd.2)
    else Option.none
  else Option.none
theorem Q.f46eq : ∀ x, runFn Q.C Q.f46Γ Q.f46sig Q.f46ann Go.Proofs.Try.f46 x = Q.f46F x := by
  intro x
  kernel_rfl
noncomputable def Q.f46con : Con := ⟨46, Q.f46sig, Q.f46F⟩
theorem Q.f46ok : Con.Ok Go.Proofs.Try.prog Q.C Q.f46con :=
  runFn_ok (Γ := Q.f46Γ) (an := Q.f46ann) ⟨Q.Cok, (fun _ h => nomatch h), Q.mixed⟩ Go.Proofs.Try.func46 rfl rfl (fun x y h => (Q.f46eq x).trans h) (by decide)
def Q.f37sig : Sig := ⟨⟨[.ptr 0 0], [.cells [.hole (.int .i64), .own 1, .hole (.int .i64), .hole (.int .i64), .hole (.int .i64), .hole (.int .i64), .own 2, .own 3, .hole (.sl (.int .i64))], .arr 70 (.st (.pair (.int .i64) (.pair (.int .i64) .bool))), .arr 3 (.int .i64), .arr 3 (.int .i64)]⟩, ⟨[], [.cells [.hole (.int .i64), .own 4, .hole (.int .i64), .hole (.int .i64), .hole (.int .i64), .hole (.int .i64), .own 5, .own 6, .hole (.sl (.int .i64))], .gone, .gone, .gone, .arr 70 (.st (.pair (.int .i64) (.pair (.int .i64) .bool))), .arr 3 (.int .i64), .arr 3 (.int .i64)]⟩⟩
noncomputable def Q.f37Γ : List Con := [Q.f46con]
def Q.f37ann : Ann :=
  (.seq .leaf (.seq .leaf .leaf))
/- (*ductus/ductusref06.walk).start -/
noncomputable def Q.f37F : Int × Int × Int × Int × Int × List Int × List (Int × Int × Bool) × List Int × List Int → Option (Int × Int × Int × Int × Int × List Int × List (Int × Int × Bool) × List Int × List Int) :=
  fun (x : Int × Int × Int × Int × Int × List Int × List (Int × Int × Bool) × List Int × List Int) =>
  Option.bind
    (Go.Sx.Q.f46F
      ((x.1, (-1 : Int), Bool.false), x.1, x.snd.1, x.snd.snd.1, x.snd.snd.snd.1, x.snd.snd.snd.snd.1, x.snd.snd.snd.snd.snd.1, [], x.snd.snd.snd.snd.snd.snd.snd.1, x.snd.snd.snd.snd.snd.snd.snd.2))
    fun (v1 : Int × Int × Int × Int × Int × List Int × List (Int × Int × Bool) × List Int × List Int) =>
    Option.some
      (v1.1, (0 : Int), (0 : Int), (0 : Int), v1.snd.snd.snd.snd.1, v1.snd.snd.snd.snd.snd.1, v1.snd.snd.snd.snd.snd.snd.1, v1.snd.snd.snd.snd.snd.snd.snd.1, v1.snd.snd.snd.snd.snd.snd.snd.2)
theorem Q.f37eq : ∀ x, runFn Q.C Q.f37Γ Q.f37sig Q.f37ann Go.Proofs.Try.f37 x = Q.f37F x := by
  intro x
  kernel_rfl
noncomputable def Q.f37con : Con := ⟨37, Q.f37sig, Q.f37F⟩
theorem Q.f37ok : Con.Ok Go.Proofs.Try.prog Q.C Q.f37con :=
  runFn_ok (Γ := Q.f37Γ) (an := Q.f37ann) ⟨Q.Cok, (List.forall_mem_cons.2 ⟨Q.f46ok, (fun _ h => nomatch h)⟩), Q.mixed⟩ Go.Proofs.Try.func37 rfl rfl (fun x y h => (Q.f37eq x).trans h) (by decide)
def Q.f42sig : Sig := ⟨⟨[.ro (.st (.pair (.int .i64) (.pair (.sl (.st (.pair (.int .i64) (.pair (.int .i64) .bool)))) (.pair (.int .i64) (.pair (.int .i64) (.pair (.int .i64) (.pair (.int .i64) (.pair (.sl (.int .i64)) (.pair (.sl (.int .i64)) (.sl (.int .i64)))))))))))], []⟩, ⟨[.hole (.st (.pair (.int .i64) (.pair (.int .i64) .bool)))], []⟩⟩
noncomputable def Q.f42Γ : List Con := []
def Q.f42ann : Ann :=
  (.seq .leaf (.seq (.tail 12) .leaf))
/- (*ductus/ductusref06.walk).top -/
noncomputable def Q.f42F : Int × List (Int × Int × Bool) × Int × Int × Int × Int × List Int × List Int × List Int → Option (Int × Int × Bool) :=
  fun (x : Int × List (Int × Int × Bool) × Int × Int × Int × Int × List Int × List Int × List Int) =>
  if
      (0 : Int) ≤ Go.IntKind.wrap Go.IntKind.i64 ((↑(List.length x.snd.fst) : Int) - (1 : Int)) ∧
        Go.IntKind.wrap Go.IntKind.i64 ((↑(List.length x.snd.fst) : Int) - (1 : Int)) < (↑(List.length x.snd.fst) : Int) then
    Option.some
      ((List.getD x.snd.fst (Int.toNat (Go.IntKind.wrap Go.IntKind.i64 ((↑(List.length x.snd.fst) : Int) - (1 : Int)))) ((0 : Int), (0 : Int), Bool.false)).1,
        (List.getD x.snd.fst (Int.toNat (Go.IntKind.wrap Go.IntKind.i64 ((↑(List.length x.snd.fst) : Int) - (1 : Int)))) ((0 : Int), (0 : Int), Bool.false)).snd.1,
        (List.getD x.snd.fst (Int.toNat (Go.IntKind.wrap Go.IntKind.i64 ((↑(List.length x.snd.fst) : Int) - (1 : Int)))) ((0 : Int), (0 : Int), Bool.false)).snd.2)
  else Option.none
theorem Q.f42eq : ∀ x, runFn Q.C Q.f42Γ Q.f42sig Q.f42ann Go.Proofs.Try.f42 x = Q.f42F x := by
  intro x
  kernel_rfl
noncomputable def Q.f42con : Con := ⟨42, Q.f42sig, Q.f42F⟩
theorem Q.f42ok : Con.Ok Go.Proofs.Try.prog Q.C Q.f42con :=
  runFn_ok (Γ := Q.f42Γ) (an := Q.f42ann) ⟨Q.Cok, (fun _ h => nomatch h), Q.mixed⟩ Go.Proofs.Try.func42 rfl rfl (fun x y h => (Q.f42eq x).trans h) (by decide)
def Q.f47sig : Sig := ⟨⟨[.hole (.int .i64), .hole (.int .i64)], []⟩, ⟨[.hole (.int .i64)], []⟩⟩
noncomputable def Q.f47Γ : List Con := []
def Q.f47ann : Ann :=
  (.seq .leaf (.seq (.seq (.join [⟨.normal, [(12, .hole .bool)], []⟩] .leaf) (.cond (.seq .leaf .leaf) .leaf)) (.seq .leaf (.seq .leaf (.seq (.join [⟨.normal, [(6, .hole (.int .i64))], []⟩] (.seq .leaf (.cond .leaf .leaf))) (.seq (.block (.loop ⟨.normal, [(5, .hole (.int .i64))], []⟩ [⟨(.exit 0), [(5, .hole (.int .i64))], []⟩] (.seq (.seq .leaf (.cond .leaf .leaf)) (.block .leaf)))) (.seq .leaf .leaf)))))))
/- ductus/ductusref06.Next -/
noncomputable def Q.f47F : Int × Int → Option (Int) :=
  fun (x : Int × Int) =>
  Option.bind (if Decidable.decide (x.fst < (0 : Int)) = Bool.true then Option.some Bool.true else Option.some (Decidable.decide (x.fst > (125 : Int)))) fun (v1 : Bool) =>
    if v1 = Bool.true then Option.some (-1 : Int)
    else
      Option.bind (if (x.snd == (1 : Int)) = Bool.true then Option.some (1 : Int) else Option.some (0 : Int)) fun (v2 : Int) =>
        Option.bind
          (Go.Sx.iter (fun (s3 : Int) => if (Int.tmod s3 (2 : Int) != v2) = Bool.true then Option.some (Sum.inl (Go.IntKind.wrap Go.IntKind.i64 (s3 + (1 : Int)))) else Option.some (Sum.inr s3))
            (Go.IntKind.wrap Go.IntKind.i64 (x.fst + (1 : Int))))
          fun (v3 : Int) => Option.some v3
theorem Q.f47eq : ∀ x, runFn Q.C Q.f47Γ Q.f47sig Q.f47ann Go.Proofs.Try.f47 x = Q.f47F x := by
  intro x
  kernel_rfl
noncomputable def Q.f47con : Con := ⟨47, Q.f47sig, Q.f47F⟩
theorem Q.f47ok : Con.Ok Go.Proofs.Try.prog Q.C Q.f47con :=
  runFn_ok (Γ := Q.f47Γ) (an := Q.f47ann) ⟨Q.Cok, (fun _ h => nomatch h), Q.mixed⟩ Go.Proofs.Try.func47 rfl rfl (fun x y h => (Q.f47eq x).trans h) (by decide)
def Q.f48sig : Sig := ⟨⟨[.ro (.st (.pair (.int .i64) (.pair (.sl (.st (.pair (.int .i64) (.pair (.int .i64) .bool)))) (.pair (.int .i64) (.pair (.int .i64) (.pair (.int .i64) (.pair (.int .i64) (.pair (.sl (.int .i64)) (.pair (.sl (.int .i64)) (.sl (.int .i64))))))))))), .hole (.int .i64)], []⟩, ⟨[.hole .bool], []⟩⟩
noncomputable def Q.f48Γ : List Con := []
def Q.f48ann : Ann :=
  (.seq .leaf (.seq .leaf .leaf))
/- (*ductus/ductusref06.walk).fits -/
noncomputable def Q.f48F : (Int × List (Int × Int × Bool) × Int × Int × Int × Int × List Int × List Int × List Int) × Int → Option (Bool) :=
  fun (x : (Int × List (Int × Int × Bool) × Int × Int × Int × Int × List Int × List Int × List Int) × Int) =>
  if Decidable.decide (x.snd ≤ (125 : Int)) = Bool.true then if (x.fst.snd.snd.fst == (0 : Int)) = Bool.true then Option.some (x.fst.snd.snd.snd.fst == (0 : Int)) else Option.some Bool.false
  else Option.some Bool.false
theorem Q.f48eq : ∀ x, runFn Q.C Q.f48Γ Q.f48sig Q.f48ann Go.Proofs.Try.f48 x = Q.f48F x := by
  intro x
  kernel_rfl
noncomputable def Q.f48con : Con := ⟨48, Q.f48sig, Q.f48F⟩
theorem Q.f48ok : Con.Ok Go.Proofs.Try.prog Q.C Q.f48con :=
  runFn_ok (Γ := Q.f48Γ) (an := Q.f48ann) ⟨Q.Cok, (fun _ h => nomatch h), Q.mixed⟩ Go.Proofs.Try.func48 rfl rfl (fun x y h => (Q.f48eq x).trans h) (by decide)
def Q.f38sig : Sig := ⟨⟨[.ptr 0 0, .hole (.int .i64)], [.cells [.hole (.int .i64), .own 1, .hole (.int .i64), .hole (.int .i64), .hole (.int .i64), .hole (.int .i64), .own 2, .own 3, .hole (.sl (.int .i64))], .arr 70 (.st (.pair (.int .i64) (.pair (.int .i64) .bool))), .arr 3 (.int .i64), .arr 3 (.int .i64)]⟩, ⟨[], [.cells [.hole (.int .i64), .own 4, .hole (.int .i64), .hole (.int .i64), .hole (.int .i64), .hole (.int .i64), .own 5, .own 6, .hole (.sl (.int .i64))], .gone, .gone, .gone, .arr 70 (.st (.pair (.int .i64) (.pair (.int .i64) .bool))), .arr 3 (.int .i64), .arr 3 (.int .i64)]⟩⟩
noncomputable def Q.f38Γ : List Con := [Q.f42con, Q.f47con, Q.f48con, Q.f46con]
def Q.f38ann : Ann :=
  (.seq (.eff 7 [16] [0, 0, 0, 4, 12, 28, 0, 64, 192, 448, 1020, 0, 2048, 6144, 14336, 0, 32768, 131068, 262141, 524285, 1048573, 2097151, 4194303, 8388607]) (.seq .leaf (.seq (.join [⟨.normal, [(4, .hole (.int .i64))], [.cells [.hole (.int .i64), .own 1, .hole (.int .i64), .hole (.int .i64), .hole (.int .i64), .hole (.int .i64), .own 5, .own 6, .hole (.sl (.int .i64))], .arr 70 (.st (.pair (.int .i64) (.pair (.int .i64) .bool))), .gone, .gone, .gone, .arr 3 (.int .i64), .arr 3 (.int .i64)]⟩] (.seq (.join [⟨.normal, [(34, .hole .bool)], [.cells [.hole (.int .i64), .own 1, .hole (.int .i64), .hole (.int .i64), .hole (.int .i64), .hole (.int .i64), .own 5, .own 6, .hole (.sl (.int .i64))], .arr 70 (.st (.pair (.int .i64) (.pair (.int .i64) .bool))), .gone, .gone, .gone, .arr 3 (.int .i64), .arr 3 (.int .i64)]⟩] .leaf) (.cond .leaf .leaf))) (.seq (.join [⟨.normal, [(5, .hole (.int .i64))], [.cells [.hole (.int .i64), .own 1, .hole (.int .i64), .hole (.int .i64), .hole (.int .i64), .hole (.int .i64), .own 5, .own 6, .hole (.sl (.int .i64))], .arr 70 (.st (.pair (.int .i64) (.pair (.int .i64) .bool))), .gone, .gone, .gone, .arr 3 (.int .i64), .arr 3 (.int .i64)]⟩] (.seq .leaf (.cond .leaf .leaf))) (.seq (.join [⟨.normal, [(5, .hole (.int .i64))], [.cells [.hole (.int .i64), .own 1, .hole (.int .i64), .hole (.int .i64), .hole (.int .i64), .hole (.int .i64), .own 5, .own 6, .hole (.sl (.int .i64))], .arr 70 (.st (.pair (.int .i64) (.pair (.int .i64) .bool))), .gone, .gone, .gone, .arr 3 (.int .i64), .arr 3 (.int .i64)]⟩] (.seq .leaf (.cond .leaf .leaf))) (.seq .leaf (.seq .leaf (.cond .leaf (.seq .leaf (.cond .leaf .leaf))))))))))
/- (*ductus/ductusref06.walk).embed -/
noncomputable def Q.f38F : Int × Int × Int × Int × Int × Int × List Int × List (Int × Int × Bool) × List Int × List Int → Option (Int × Int × Int × Int × Int × List Int × List (Int × Int × Bool) × List Int × List Int) :=
  fun (x : Int × Int × Int × Int × Int × Int × List Int × List (Int × Int × Bool) × List Int × List Int) =>
  Option.bind
    (Go.Sx.Q.f42F
      (x.snd.1, x.snd.snd.snd.snd.snd.snd.snd.1, x.snd.snd.1, x.snd.snd.snd.1, x.snd.snd.snd.snd.1, x.snd.snd.snd.snd.snd.1, x.snd.snd.snd.snd.snd.snd.snd.snd.1, x.snd.snd.snd.snd.snd.snd.snd.snd.2,
        x.snd.snd.snd.snd.snd.snd.1))
    fun (v1 : Int × Int × Bool) =>
    if
        Go.Sx.roomOk (List.length x.snd.snd.snd.snd.snd.snd.snd.snd.fst + (1 : Nat))
          { kind := Go.Sx.TK.int Go.IntKind.i64, size := (1 : Nat), bytes := (8 : Nat), ty := Option.some (Go.Sx.Ty.int Go.IntKind.i64),
              zero := [Go.Sx.SV.val (Go.Sx.Ty.int Go.IntKind.i64) (0 : Int)] : Go.Sx.TI }.bytes then
      if
          Go.Sx.roomOk (List.length x.snd.snd.snd.snd.snd.snd.snd.snd.snd + (1 : Nat))
            { kind := Go.Sx.TK.int Go.IntKind.i64, size := (1 : Nat), bytes := (8 : Nat), ty := Option.some (Go.Sx.Ty.int Go.IntKind.i64),
                zero := [Go.Sx.SV.val (Go.Sx.Ty.int Go.IntKind.i64) (0 : Int)] : Go.Sx.TI }.bytes then
        Option.bind
          (Option.bind
            (if (x.fst == (16 : Int)) = Bool.true then
              Option.some
                (Bool.true, x.snd.1, x.snd.snd.1, x.snd.snd.snd.1, x.snd.snd.snd.snd.1, x.snd.snd.snd.snd.snd.1, x.snd.snd.snd.snd.snd.snd.1, x.snd.snd.snd.snd.snd.snd.snd.1,
                  x.snd.snd.snd.snd.snd.snd.snd.snd.1 ++ [v1.1], x.snd.snd.snd.snd.snd.snd.snd.snd.2 ++ [x.1])
            else
              Option.some
                (x.fst == (17 : Int), x.snd.1, x.snd.snd.1, x.snd.snd.snd.1, x.snd.snd.snd.snd.1, x.snd.snd.snd.snd.snd.1, x.snd.snd.snd.snd.snd.snd.1, x.snd.snd.snd.snd.snd.snd.snd.1,
                  x.snd.snd.snd.snd.snd.snd.snd.snd.1 ++ [v1.1], x.snd.snd.snd.snd.snd.snd.snd.snd.2 ++ [x.1]))
            fun (v2 : Bool × Int × Int × Int × Int × Int × List Int × List (Int × Int × Bool) × List Int × List Int) =>
            if v2.fst = Bool.true then
              Option.some
                ((1 : Int), v2.snd.1, v2.snd.snd.1, v2.snd.snd.snd.1, v2.snd.snd.snd.snd.1, v2.snd.snd.snd.snd.snd.1, v2.snd.snd.snd.snd.snd.snd.1, v2.snd.snd.snd.snd.snd.snd.snd.1,
                  v2.snd.snd.snd.snd.snd.snd.snd.snd.1, v2.snd.snd.snd.snd.snd.snd.snd.snd.2)
            else
              Option.some
                ((0 : Int), v2.snd.1, v2.snd.snd.1, v2.snd.snd.snd.1, v2.snd.snd.snd.snd.1, v2.snd.snd.snd.snd.snd.1, v2.snd.snd.snd.snd.snd.snd.1, v2.snd.snd.snd.snd.snd.snd.snd.1,
                  v2.snd.snd.snd.snd.snd.snd.snd.snd.1, v2.snd.snd.snd.snd.snd.snd.snd.snd.2))
          fun (v2 : Int × Int × Int × Int × Int × Int × List Int × List (Int × Int × Bool) × List Int × List Int) =>
          Option.bind
            (if (x.fst == (15 : Int)) = Bool.true then
              Option.some
                ((0 : Int), v2.snd.1, v2.snd.snd.1, v2.snd.snd.snd.1, v2.snd.snd.snd.snd.1, v2.snd.snd.snd.snd.snd.1, v2.snd.snd.snd.snd.snd.snd.1, v2.snd.snd.snd.snd.snd.snd.snd.1,
                  v2.snd.snd.snd.snd.snd.snd.snd.snd.1, v2.snd.snd.snd.snd.snd.snd.snd.snd.2)
            else
              Option.some
                ((-1 : Int), v2.snd.1, v2.snd.snd.1, v2.snd.snd.snd.1, v2.snd.snd.snd.snd.1, v2.snd.snd.snd.snd.snd.1, v2.snd.snd.snd.snd.snd.snd.1, v2.snd.snd.snd.snd.snd.snd.snd.1,
                  v2.snd.snd.snd.snd.snd.snd.snd.snd.1, v2.snd.snd.snd.snd.snd.snd.snd.snd.2))
            fun (v3 : Int × Int × Int × Int × Int × Int × List Int × List (Int × Int × Bool) × List Int × List Int) =>
            Option.bind
              (if (x.fst == (17 : Int)) = Bool.true then
                Option.some
                  ((1 : Int), v3.snd.1, v3.snd.snd.1, v3.snd.snd.snd.1, v3.snd.snd.snd.snd.1, v3.snd.snd.snd.snd.snd.1, v3.snd.snd.snd.snd.snd.snd.1, v3.snd.snd.snd.snd.snd.snd.snd.1,
                    v3.snd.snd.snd.snd.snd.snd.snd.snd.1, v3.snd.snd.snd.snd.snd.snd.snd.snd.2)
              else
                Option.some
                  (v3.1, v3.snd.1, v3.snd.snd.1, v3.snd.snd.snd.1, v3.snd.snd.snd.snd.1, v3.snd.snd.snd.snd.snd.1, v3.snd.snd.snd.snd.snd.snd.1, v3.snd.snd.snd.snd.snd.snd.snd.1,
                    v3.snd.snd.snd.snd.snd.snd.snd.snd.1, v3.snd.snd.snd.snd.snd.snd.snd.snd.2))
              fun (v4 : Int × Int × Int × Int × Int × Int × List Int × List (Int × Int × Bool) × List Int × List Int) =>
              Option.bind
                (Go.Sx.Q.f42F
                  (v4.snd.1, v4.snd.snd.snd.snd.snd.snd.snd.1, v4.snd.snd.1, v4.snd.snd.snd.1, v4.snd.snd.snd.snd.1, v4.snd.snd.snd.snd.snd.1, v4.snd.snd.snd.snd.snd.snd.snd.snd.1,
                    v4.snd.snd.snd.snd.snd.snd.snd.snd.2, v4.snd.snd.snd.snd.snd.snd.1))
                fun (v5 : Int × Int × Bool) =>
                Option.bind (Go.Sx.Q.f47F (v5.1, v2.1)) fun (v6 : Int) =>
                  Option.bind
                    (Go.Sx.Q.f48F
                      ((v4.snd.1, v4.snd.snd.snd.snd.snd.snd.snd.1, v4.snd.snd.1, v4.snd.snd.snd.1, v4.snd.snd.snd.snd.1, v4.snd.snd.snd.snd.snd.1, v4.snd.snd.snd.snd.snd.snd.snd.snd.1,
                          v4.snd.snd.snd.snd.snd.snd.snd.snd.2, v4.snd.snd.snd.snd.snd.snd.1),
                        v6))
                    fun (v7 : Bool) =>
                    if v7 = Bool.true then
                      Option.bind
                        (Go.Sx.Q.f46F
                          ((v6, v4.1, Bool.false), v4.snd.1, v4.snd.snd.1, v4.snd.snd.snd.1, v4.snd.snd.snd.snd.1, v4.snd.snd.snd.snd.snd.1, v4.snd.snd.snd.snd.snd.snd.1,
                            v4.snd.snd.snd.snd.snd.snd.snd.1, v4.snd.snd.snd.snd.snd.snd.snd.snd.1, v4.snd.snd.snd.snd.snd.snd.snd.snd.2))
                        fun (v8 : Int × Int × Int × Int × Int × List Int × List (Int × Int × Bool) × List Int × List Int) =>
                        Option.some
                          (v8.1, v8.snd.1, v8.snd.snd.1, v8.snd.snd.snd.1, v8.snd.snd.snd.snd.1, v8.snd.snd.snd.snd.snd.1, v8.snd.snd.snd.snd.snd.snd.1, v8.snd.snd.snd.snd.snd.snd.snd.1,
                            v8.snd.snd.snd.snd.snd.snd.snd.2)
                    else
                      if (v4.snd.snd.fst == (0 : Int)) = Bool.true then
                        Option.some
                          (v4.snd.1, v4.snd.snd.1, Go.IntKind.wrap Go.IntKind.i64 (v4.snd.snd.snd.fst + (1 : Int)), v4.snd.snd.snd.snd.1, v4.snd.snd.snd.snd.snd.1, v4.snd.snd.snd.snd.snd.snd.1,
                            v4.snd.snd.snd.snd.snd.snd.snd.1, v4.snd.snd.snd.snd.snd.snd.snd.snd.1, v4.snd.snd.snd.snd.snd.snd.snd.snd.2)
                      else
                        Option.some
                          (v4.snd.1, v4.snd.snd.1, v4.snd.snd.snd.1, v4.snd.snd.snd.snd.1, v4.snd.snd.snd.snd.snd.1, v4.snd.snd.snd.snd.snd.snd.1, v4.snd.snd.snd.snd.snd.snd.snd.1,
                            v4.snd.snd.snd.snd.snd.snd.snd.snd.1, v4.snd.snd.snd.snd.snd.snd.snd.snd.2)
      else Option.none
    else Option.none
theorem Q.f38eq : ∀ x, runFn Q.C Q.f38Γ Q.f38sig Q.f38ann Go.Proofs.Try.f38 x = Q.f38F x := by
  intro x
  kernel_rfl
noncomputable def Q.f38con : Con := ⟨38, Q.f38sig, Q.f38F⟩
theorem Q.f38ok : Con.Ok Go.Proofs.Try.prog Q.C Q.f38con :=
  runFn_ok (Γ := Q.f38Γ) (an := Q.f38ann) ⟨Q.Cok, (List.forall_mem_cons.2 ⟨Q.f42ok, (List.forall_mem_cons.2 ⟨Q.f47ok, (List.forall_mem_cons.2 ⟨Q.f48ok, (List.forall_mem_cons.2 ⟨Q.f46ok, (fun _ h => nomatch h)⟩)⟩)⟩)⟩), Q.mixed⟩ Go.Proofs.Try.func38 rfl rfl (fun x y h => (Q.f38eq x).trans h) (by decide)
def Q.f44sig : Sig := ⟨⟨[.ptr 0 0, .hole (.int .i64)], [.cells [.hole (.int .i64), .own 1, .hole (.int .i64), .hole (.int .i64), .hole (.int .i64), .hole (.int .i64), .own 2, .own 3, .hole (.sl (.int .i64))], .arr 70 (.st (.pair (.int .i64) (.pair (.int .i64) .bool))), .arr 3 (.int .i64), .arr 3 (.int .i64)]⟩, ⟨[], [.cells [.hole (.int .i64), .own 4, .hole (.int .i64), .hole (.int .i64), .hole (.int .i64), .hole (.int .i64), .own 5, .own 6, .hole (.sl (.int .i64))], .gone, .gone, .gone, .arr 70 (.st (.pair (.int .i64) (.pair (.int .i64) .bool))), .arr 3 (.int .i64), .arr 3 (.int .i64)]⟩⟩
noncomputable def Q.f44Γ : List Con := [Q.f42con]
def Q.f44ann : Ann :=
  (.seq (.eff 6 [] [0, 0, 2, 6, 14, 0, 32, 96, 224, 510, 1023, 2047, 4095]) (.seq (.join [⟨.normal, [(1, .hole (.int .i64))], [.cells [.hole (.int .i64), .own 1, .hole (.int .i64), .hole (.int .i64), .hole (.int .i64), .hole (.int .i64), .own 5, .own 3, .hole (.sl (.int .i64))], .arr 70 (.st (.pair (.int .i64) (.pair (.int .i64) .bool))), .gone, .arr 3 (.int .i64), .gone, .arr 3 (.int .i64)]⟩] (.seq .leaf (.cond .leaf .leaf))) .leaf))
/- (*ductus/ductusref06.walk).put -/
noncomputable def Q.f44F : Int × Int × Int × Int × Int × Int × List Int × List (Int × Int × Bool) × List Int × List Int → Option (Int × Int × Int × Int × Int × List Int × List (Int × Int × Bool) × List Int × List Int) :=
  fun (x : Int × Int × Int × Int × Int × Int × List Int × List (Int × Int × Bool) × List Int × List Int) =>
  Option.bind
    (Go.Sx.Q.f42F
      (x.snd.1, x.snd.snd.snd.snd.snd.snd.snd.1, x.snd.snd.1, x.snd.snd.snd.1, x.snd.snd.snd.snd.1, x.snd.snd.snd.snd.snd.1, x.snd.snd.snd.snd.snd.snd.snd.snd.1, x.snd.snd.snd.snd.snd.snd.snd.snd.2,
        x.snd.snd.snd.snd.snd.snd.1))
    fun (v1 : Int × Int × Bool) =>
    if
        Go.Sx.roomOk (List.length x.snd.snd.snd.snd.snd.snd.snd.snd.fst + (1 : Nat))
          { kind := Go.Sx.TK.int Go.IntKind.i64, size := (1 : Nat), bytes := (8 : Nat), ty := Option.some (Go.Sx.Ty.int Go.IntKind.i64),
              zero := [Go.Sx.SV.val (Go.Sx.Ty.int Go.IntKind.i64) (0 : Int)] : Go.Sx.TI }.bytes then
      Option.bind
        (Option.bind
          (Go.Sx.Q.f42F
            (x.snd.1, x.snd.snd.snd.snd.snd.snd.snd.1, x.snd.snd.1, x.snd.snd.snd.1, x.snd.snd.snd.snd.1, x.snd.snd.snd.snd.snd.1, x.snd.snd.snd.snd.snd.snd.snd.snd.1 ++ [v1.1],
              x.snd.snd.snd.snd.snd.snd.snd.snd.2, x.snd.snd.snd.snd.snd.snd.1))
          fun (v2 : Int × Int × Bool) =>
          if Decidable.decide (v2.snd.fst ≥ (0 : Int)) = Bool.true then
            Option.bind
              (Go.Sx.Q.f42F
                (x.snd.1, x.snd.snd.snd.snd.snd.snd.snd.1, x.snd.snd.1, x.snd.snd.snd.1, x.snd.snd.snd.snd.1, x.snd.snd.snd.snd.snd.1, x.snd.snd.snd.snd.snd.snd.snd.snd.1 ++ [v1.1],
                  x.snd.snd.snd.snd.snd.snd.snd.snd.2, x.snd.snd.snd.snd.snd.snd.1))
              fun (v3 : Int × Int × Bool) =>
              Option.some
                (v3.snd.1, x.snd.1, x.snd.snd.1, x.snd.snd.snd.1, x.snd.snd.snd.snd.1, x.snd.snd.snd.snd.snd.1, x.snd.snd.snd.snd.snd.snd.1, x.snd.snd.snd.snd.snd.snd.snd.1,
                  x.snd.snd.snd.snd.snd.snd.snd.snd.2, x.snd.snd.snd.snd.snd.snd.snd.snd.1 ++ [v1.1])
          else
            Option.some
              (x.1, x.snd.1, x.snd.snd.1, x.snd.snd.snd.1, x.snd.snd.snd.snd.1, x.snd.snd.snd.snd.snd.1, x.snd.snd.snd.snd.snd.snd.1, x.snd.snd.snd.snd.snd.snd.snd.1,
                x.snd.snd.snd.snd.snd.snd.snd.snd.2, x.snd.snd.snd.snd.snd.snd.snd.snd.1 ++ [v1.1]))
        fun (v2 : Int × Int × Int × Int × Int × Int × List Int × List (Int × Int × Bool) × List Int × List Int) =>
        if
            Go.Sx.roomOk (List.length v2.snd.snd.snd.snd.snd.snd.snd.snd.fst + (1 : Nat))
              { kind := Go.Sx.TK.int Go.IntKind.i64, size := (1 : Nat), bytes := (8 : Nat), ty := Option.some (Go.Sx.Ty.int Go.IntKind.i64),
                  zero := [Go.Sx.SV.val (Go.Sx.Ty.int Go.IntKind.i64) (0 : Int)] : Go.Sx.TI }.bytes then
          Option.some
            (v2.snd.1, v2.snd.snd.1, v2.snd.snd.snd.1, v2.snd.snd.snd.snd.1, v2.snd.snd.snd.snd.snd.1, v2.snd.snd.snd.snd.snd.snd.1, v2.snd.snd.snd.snd.snd.snd.snd.1,
              v2.snd.snd.snd.snd.snd.snd.snd.snd.2, v2.snd.snd.snd.snd.snd.snd.snd.snd.1 ++ [v2.1])
        else Option.none
    else Option.none
theorem Q.f44eq : ∀ x, runFn Q.C Q.f44Γ Q.f44sig Q.f44ann Go.Proofs.Try.f44 x = Q.f44F x := by
  intro x
  kernel_rfl
noncomputable def Q.f44con : Con := ⟨44, Q.f44sig, Q.f44F⟩
theorem Q.f44ok : Con.Ok Go.Proofs.Try.prog Q.C Q.f44con :=
  runFn_ok (Γ := Q.f44Γ) (an := Q.f44ann) ⟨Q.Cok, (List.forall_mem_cons.2 ⟨Q.f42ok, (fun _ h => nomatch h)⟩), Q.mixed⟩ Go.Proofs.Try.func44 rfl rfl (fun x y h => (Q.f44eq x).trans h) (by decide)
def Q.f43sig : Sig := ⟨⟨[.hole (.int .i64)], []⟩, ⟨[.hole .str], []⟩⟩
noncomputable def Q.f43Γ : List Con := []
def Q.f43ann : Ann :=
  (.seq .leaf (.seq .leaf (.seq (.seq (.join [⟨.normal, [(12, .hole .bool)], [.arr 9 .str]⟩] .leaf) (.cond (.seq .leaf .leaf) .leaf)) (.seq .leaf .leaf))))
/- ductus/ductusref02.Word -/
noncomputable def Q.f43F : Int → Option (ByteArray) :=
  fun (x : Int) =>
  Option.bind
    (if Decidable.decide (x < (0 : Int)) = Bool.true then
      Option.some
        (Bool.true,
          [{ data := #[(76 : UInt8)] : ByteArray }, { data := #[(82 : UInt8)] : ByteArray }, { data := #[(65 : UInt8), (76 : UInt8)] : ByteArray },
            { data := #[(69 : UInt8), (78 : UInt8)] : ByteArray }, { data := #[(69 : UInt8), (83 : UInt8)] : ByteArray }, { data := #[(69 : UInt8), (84 : UInt8)] : ByteArray },
            { data := #[(65 : UInt8), (78 : UInt8)] : ByteArray }, { data := #[(67 : UInt8), (83 : UInt8)] : ByteArray }, { data := #[(78 : UInt8), (83 : UInt8), (77 : UInt8)] : ByteArray },
            { data := #[(66 : UInt8), (78 : UInt8)] : ByteArray }, { data := #[(66 : UInt8)] : ByteArray }, { data := #[(83 : UInt8)] : ByteArray },
            { data := #[(87 : UInt8), (83 : UInt8)] : ByteArray }, { data := #[(79 : UInt8), (78 : UInt8)] : ByteArray }, { data := #[(76 : UInt8), (82 : UInt8), (69 : UInt8)] : ByteArray },
            { data := #[(76 : UInt8), (82 : UInt8), (79 : UInt8)] : ByteArray }, { data := #[(82 : UInt8), (76 : UInt8), (69 : UInt8)] : ByteArray },
            { data := #[(82 : UInt8), (76 : UInt8), (79 : UInt8)] : ByteArray }, { data := #[(80 : UInt8), (68 : UInt8), (70 : UInt8)] : ByteArray },
            { data := #[(76 : UInt8), (82 : UInt8), (73 : UInt8)] : ByteArray }, { data := #[(82 : UInt8), (76 : UInt8), (73 : UInt8)] : ByteArray },
            { data := #[(70 : UInt8), (83 : UInt8), (73 : UInt8)] : ByteArray }, { data := #[(80 : UInt8), (68 : UInt8), (73 : UInt8)] : ByteArray }])
    else
      Option.some
        (Decidable.decide (x ≥ (↑((22 : Nat) + (1 : Nat)) : Int)),
          [{ data := #[(76 : UInt8)] : ByteArray }, { data := #[(82 : UInt8)] : ByteArray }, { data := #[(65 : UInt8), (76 : UInt8)] : ByteArray },
            { data := #[(69 : UInt8), (78 : UInt8)] : ByteArray }, { data := #[(69 : UInt8), (83 : UInt8)] : ByteArray }, { data := #[(69 : UInt8), (84 : UInt8)] : ByteArray },
            { data := #[(65 : UInt8), (78 : UInt8)] : ByteArray }, { data := #[(67 : UInt8), (83 : UInt8)] : ByteArray }, { data := #[(78 : UInt8), (83 : UInt8), (77 : UInt8)] : ByteArray },
            { data := #[(66 : UInt8), (78 : UInt8)] : ByteArray }, { data := #[(66 : UInt8)] : ByteArray }, { data := #[(83 : UInt8)] : ByteArray },
            { data := #[(87 : UInt8), (83 : UInt8)] : ByteArray }, { data := #[(79 : UInt8), (78 : UInt8)] : ByteArray }, { data := #[(76 : UInt8), (82 : UInt8), (69 : UInt8)] : ByteArray },
            { data := #[(76 : UInt8), (82 : UInt8), (79 : UInt8)] : ByteArray }, { data := #[(82 : UInt8), (76 : UInt8), (69 : UInt8)] : ByteArray },
            { data := #[(82 : UInt8), (76 : UInt8), (79 : UInt8)] : ByteArray }, { data := #[(80 : UInt8), (68 : UInt8), (70 : UInt8)] : ByteArray },
            { data := #[(76 : UInt8), (82 : UInt8), (73 : UInt8)] : ByteArray }, { data := #[(82 : UInt8), (76 : UInt8), (73 : UInt8)] : ByteArray },
            { data := #[(70 : UInt8), (83 : UInt8), (73 : UInt8)] : ByteArray }, { data := #[(80 : UInt8), (68 : UInt8), (73 : UInt8)] : ByteArray }]))
    fun (v1 : Bool × List ByteArray) =>
    if v1.fst = Bool.true then Option.some { data := #[] : ByteArray }
    else if (0 : Int) ≤ x ∧ x < (↑(List.length v1.snd) : Int) then Option.some (List.getD v1.2 (Int.toNat x) ByteArray.empty) else Option.none
theorem Q.f43eq : ∀ x, runFn Q.C Q.f43Γ Q.f43sig Q.f43ann Go.Proofs.Try.f43 x = Q.f43F x := by
  intro x
  kernel_rfl
noncomputable def Q.f43con : Con := ⟨43, Q.f43sig, Q.f43F⟩
theorem Q.f43ok : Con.Ok Go.Proofs.Try.prog Q.C Q.f43con :=
  runFn_ok (Γ := Q.f43Γ) (an := Q.f43ann) ⟨Q.Cok, (fun _ h => nomatch h), Q.mixed⟩ Go.Proofs.Try.func43 rfl rfl (fun x y h => (Q.f43eq x).trans h) (by decide)
def Q.f52sig : Sig := ⟨⟨[.hole (.sl (.int .i64)), .hole (.int .i64), .hole (.int .i64)], []⟩, ⟨[.hole (.int .i64)], []⟩⟩
noncomputable def Q.f52Γ : List Con := [Q.f35con, Q.f36con, Q.f43con]
def Q.f52ann : Ann :=
  (.seq .leaf (.seq (.seq .leaf (.block (.loop ⟨.normal, [(7, .hole (.int .i64))], []⟩ [⟨(.exit 0), [], []⟩, ⟨.ret, [(6, .hole (.int .i64))], []⟩] (.seq (.seq .leaf (.cond .leaf .leaf)) (.seq (.block (.block (.seq .leaf (.cond (.seq .leaf .leaf) (.seq .leaf (.cond (.seq .leaf (.seq (.seq (.join [⟨.normal, [(40, .hole .bool)], []⟩] .leaf) (.cond (.seq .leaf .leaf) .leaf)) .leaf)) (.seq (.join [⟨.normal, [(42, .hole .bool)], []⟩] .leaf) (.cond (.seq .leaf .leaf) (.seq (.join [⟨.normal, [(55, .hole .bool)], []⟩] .leaf) (.cond (.seq .leaf .leaf) .leaf)))))))))) .leaf))))) (.seq .leaf .leaf)))
/- ductus/ductusref05.First -/
noncomputable def Q.f52F : List Int × Int × Int → Option (Int) :=
  fun (x : List Int × Int × Int) =>
  Option.bind
    (Go.Sx.iter
      (fun (s1 : Int) =>
        if Decidable.decide (s1 < Go.Sx.minI x.snd.snd (↑(List.length x.fst) : Int)) = Bool.true then
          if (0 : Int) ≤ s1 ∧ s1 < (↑(List.length x.fst) : Int) then
            if (List.getD x.fst (Int.toNat s1) (0 : Int) == (10 : Int)) = Bool.true then Option.some (Sum.inr (Sum.inr (-1 : Int)))
            else
              if (0 : Int) ≤ s1 ∧ s1 < (↑(List.length x.fst) : Int) then
                Option.bind (Go.Sx.Q.f35F (List.getD x.fst (Int.toNat s1) (0 : Int))) fun (v2 : Bool) =>
                  if v2 = Bool.true then
                    Option.bind (Go.Sx.Q.f36F (x.1, s1)) fun (v3 : Int) =>
                      Option.bind (if Decidable.decide (v3 < (0 : Int)) = Bool.true then Option.some Bool.true else Option.some (Decidable.decide (v3 ≥ x.snd.snd))) fun (v4 : Bool) =>
                        if v4 = Bool.true then Option.some (Sum.inr (Sum.inr (-1 : Int))) else Option.some (Sum.inl (Go.IntKind.wrap Go.IntKind.i64 (v3 + (1 : Int))))
                  else
                    Option.bind
                      (if (0 : Int) ≤ s1 ∧ s1 < (↑(List.length x.fst) : Int) then
                        if (List.getD x.fst (Int.toNat s1) (0 : Int) == (1 : Int)) = Bool.true then Option.some Bool.true
                        else if (0 : Int) ≤ s1 ∧ s1 < (↑(List.length x.fst) : Int) then Option.some (List.getD x.fst (Int.toNat s1) (0 : Int) == (2 : Int)) else Option.none
                      else Option.none)
                      fun (v3 : Bool) =>
                      if v3 = Bool.true then Option.some (Sum.inr (Sum.inr (1 : Int)))
                      else
                        Option.bind
                          (if (0 : Int) ≤ s1 ∧ s1 < (↑(List.length x.fst) : Int) then
                            if (List.getD x.fst (Int.toNat s1) (0 : Int) == (0 : Int)) = Bool.true then Option.some Bool.true
                            else
                              if (0 : Int) ≤ s1 ∧ s1 < (↑(List.length x.fst) : Int) then
                                Option.bind (Go.Sx.Q.f43F (List.getD x.fst (Int.toNat s1) (0 : Int))) fun (v4 : ByteArray) =>
                                  Option.some (ByteArray.toList v4 == ByteArray.toList { data := #[] : ByteArray })
                              else Option.none
                          else Option.none)
                          fun (v4 : Bool) => if v4 = Bool.true then Option.some (Sum.inr (Sum.inr (0 : Int))) else Option.some (Sum.inl (Go.IntKind.wrap Go.IntKind.i64 (s1 + (1 : Int))))
              else Option.none
          else Option.none
        else Option.some (Sum.inr (Sum.inl ())))
      (Go.Sx.maxI (0 : Int) x.snd.fst))
    fun (v1 : PUnit ⊕ Int) => Sum.elim (fun (p2 : PUnit) => Option.some (-1 : Int)) (fun (q2 : Int) => Option.some q2) v1
theorem Q.f52eq : ∀ x, runFn Q.C Q.f52Γ Q.f52sig Q.f52ann Go.Proofs.Try.f52 x = Q.f52F x := by
  intro x
  kernel_rfl
noncomputable def Q.f52con : Con := ⟨52, Q.f52sig, Q.f52F⟩
theorem Q.f52ok : Con.Ok Go.Proofs.Try.prog Q.C Q.f52con :=
  runFn_ok (Γ := Q.f52Γ) (an := Q.f52ann) ⟨Q.Cok, (List.forall_mem_cons.2 ⟨Q.f35ok, (List.forall_mem_cons.2 ⟨Q.f36ok, (List.forall_mem_cons.2 ⟨Q.f43ok, (fun _ h => nomatch h)⟩)⟩)⟩), Q.mixed⟩ Go.Proofs.Try.func52 rfl rfl (fun x y h => (Q.f52eq x).trans h) (by decide)
def Q.f49sig : Sig := ⟨⟨[.hole (.sl (.int .i64)), .hole (.int .i64)], []⟩, ⟨[.hole (.int .i64)], []⟩⟩
noncomputable def Q.f49Γ : List Con := [Q.f36con, Q.f52con]
def Q.f49ann : Ann :=
  (.seq .leaf (.seq (.seq (.join [⟨.normal, [(13, .hole .bool)], []⟩] .leaf) (.cond (.seq .leaf .leaf) .leaf)) (.seq (.seq .leaf (.block (.seq .leaf (.cond (.seq .leaf .leaf) (.seq .leaf (.cond (.seq .leaf .leaf) (.seq .leaf (.cond (.seq .leaf (.seq (.join [⟨.normal, [(5, .hole (.int .i64))], []⟩] (.seq .leaf (.cond .leaf .leaf))) (.seq .leaf .leaf))) .leaf)))))))) (.seq .leaf .leaf))))
/- ductus/ductusref05.Isolate -/
noncomputable def Q.f49F : List Int × Int → Option (Int) :=
  fun (x : List Int × Int) =>
  Option.bind (if Decidable.decide (x.snd < (0 : Int)) = Bool.true then Option.some Bool.true else Option.some (Decidable.decide (x.snd ≥ (↑(List.length x.fst) : Int)))) fun (v1 : Bool) =>
    if v1 = Bool.true then Option.some (-1 : Int)
    else
      if (0 : Int) ≤ x.snd ∧ x.snd < (↑(List.length x.fst) : Int) then
        if (List.getD x.fst (Int.toNat x.snd) (0 : Int) == (19 : Int)) = Bool.true then Option.some (0 : Int)
        else
          if (List.getD x.fst (Int.toNat x.snd) (0 : Int) == (20 : Int)) = Bool.true then Option.some (1 : Int)
          else
            if (List.getD x.fst (Int.toNat x.snd) (0 : Int) == (21 : Int)) = Bool.true then
              Option.bind (Go.Sx.Q.f36F (x.1, x.2)) fun (v2 : Int) =>
                Option.bind (if Decidable.decide (v2 < (0 : Int)) = Bool.true then Option.some (↑(List.length x.fst) : Int) else Option.some v2) fun (v3 : Int) =>
                  Option.bind (Go.Sx.Q.f52F (x.1, Go.IntKind.wrap Go.IntKind.i64 (x.snd + (1 : Int)), v3)) fun (v4 : Int) => Option.some (Go.Sx.maxI (0 : Int) v4)
            else Option.some (-1 : Int)
      else Option.none
theorem Q.f49eq : ∀ x, runFn Q.C Q.f49Γ Q.f49sig Q.f49ann Go.Proofs.Try.f49 x = Q.f49F x := by
  intro x
  kernel_rfl
noncomputable def Q.f49con : Con := ⟨49, Q.f49sig, Q.f49F⟩
theorem Q.f49ok : Con.Ok Go.Proofs.Try.prog Q.C Q.f49con :=
  runFn_ok (Γ := Q.f49Γ) (an := Q.f49ann) ⟨Q.Cok, (List.forall_mem_cons.2 ⟨Q.f36ok, (List.forall_mem_cons.2 ⟨Q.f52ok, (fun _ h => nomatch h)⟩)⟩), Q.mixed⟩ Go.Proofs.Try.func49 rfl rfl (fun x y h => (Q.f49eq x).trans h) (by decide)
def Q.f39sig : Sig := ⟨⟨[.ptr 0 0, .hole (.int .i64), .hole (.int .i64)], [.cells [.hole (.int .i64), .own 1, .hole (.int .i64), .hole (.int .i64), .hole (.int .i64), .hole (.int .i64), .own 2, .own 3, .hole (.sl (.int .i64))], .arr 70 (.st (.pair (.int .i64) (.pair (.int .i64) .bool))), .arr 3 (.int .i64), .arr 3 (.int .i64)]⟩, ⟨[], [.cells [.hole (.int .i64), .own 4, .hole (.int .i64), .hole (.int .i64), .hole (.int .i64), .hole (.int .i64), .own 5, .own 6, .hole (.sl (.int .i64))], .gone, .gone, .gone, .arr 70 (.st (.pair (.int .i64) (.pair (.int .i64) .bool))), .arr 3 (.int .i64), .arr 3 (.int .i64)]⟩⟩
noncomputable def Q.f39Γ : List Con := [Q.f44con, Q.f42con, Q.f49con, Q.f47con, Q.f48con, Q.f46con]
def Q.f39ann : Ann :=
  (.seq .leaf (.seq .leaf (.seq .leaf (.cond (.seq .leaf .leaf) .leaf))))
/- (*ductus/ductusref06.walk).isolate -/
noncomputable def Q.f39F : Int × Int × Int × Int × Int × Int × Int × List Int × List (Int × Int × Bool) × List Int × List Int → Option (Int × Int × Int × Int × Int × List Int × List (Int × Int × Bool) × List Int × List Int) :=
  fun (x : Int × Int × Int × Int × Int × Int × Int × List Int × List (Int × Int × Bool) × List Int × List Int) =>
  Option.bind
    (Go.Sx.Q.f44F
      (x.snd.1, x.snd.snd.1, x.snd.snd.snd.1, x.snd.snd.snd.snd.1, x.snd.snd.snd.snd.snd.1, x.snd.snd.snd.snd.snd.snd.1, x.snd.snd.snd.snd.snd.snd.snd.1, x.snd.snd.snd.snd.snd.snd.snd.snd.1,
        x.snd.snd.snd.snd.snd.snd.snd.snd.snd.1, x.snd.snd.snd.snd.snd.snd.snd.snd.snd.2))
    fun (v1 : Int × Int × Int × Int × Int × List Int × List (Int × Int × Bool) × List Int × List Int) =>
    Option.bind
      (Go.Sx.Q.f42F
        (v1.1, v1.snd.snd.snd.snd.snd.snd.1, v1.snd.1, v1.snd.snd.1, v1.snd.snd.snd.1, v1.snd.snd.snd.snd.1, v1.snd.snd.snd.snd.snd.snd.snd.1, v1.snd.snd.snd.snd.snd.snd.snd.2,
          v1.snd.snd.snd.snd.snd.1))
      fun (v2 : Int × Int × Bool) =>
      Option.bind (Go.Sx.Q.f49F (v1.snd.snd.snd.snd.snd.1, x.1)) fun (v3 : Int) =>
        Option.bind (Go.Sx.Q.f47F (v2.1, v3)) fun (v4 : Int) =>
          Option.bind
            (Go.Sx.Q.f48F
              ((v1.1, v1.snd.snd.snd.snd.snd.snd.1, v1.snd.1, v1.snd.snd.1, v1.snd.snd.snd.1, v1.snd.snd.snd.snd.1, v1.snd.snd.snd.snd.snd.snd.snd.1, v1.snd.snd.snd.snd.snd.snd.snd.2,
                  v1.snd.snd.snd.snd.snd.1),
                v4))
            fun (v5 : Bool) =>
            if v5 = Bool.true then
              Option.bind
                (Go.Sx.Q.f46F
                  ((v4, (-1 : Int), Bool.true), v1.1, v1.snd.1, v1.snd.snd.1, Go.IntKind.wrap Go.IntKind.i64 (v1.snd.snd.snd.fst + (1 : Int)), v1.snd.snd.snd.snd.1, v1.snd.snd.snd.snd.snd.1,
                    v1.snd.snd.snd.snd.snd.snd.1, v1.snd.snd.snd.snd.snd.snd.snd.1, v1.snd.snd.snd.snd.snd.snd.snd.2))
                fun (v6 : Int × Int × Int × Int × Int × List Int × List (Int × Int × Bool) × List Int × List Int) =>
                Option.some
                  (v6.1, v6.snd.1, v6.snd.snd.1, v6.snd.snd.snd.1, v6.snd.snd.snd.snd.1, v6.snd.snd.snd.snd.snd.1, v6.snd.snd.snd.snd.snd.snd.1, v6.snd.snd.snd.snd.snd.snd.snd.1,
                    v6.snd.snd.snd.snd.snd.snd.snd.2)
            else
              Option.some
                (v1.1, Go.IntKind.wrap Go.IntKind.i64 (v1.snd.fst + (1 : Int)), v1.snd.snd.1, v1.snd.snd.snd.1, v1.snd.snd.snd.snd.1, v1.snd.snd.snd.snd.snd.1, v1.snd.snd.snd.snd.snd.snd.1,
                  v1.snd.snd.snd.snd.snd.snd.snd.1, v1.snd.snd.snd.snd.snd.snd.snd.2)
theorem Q.f39eq : ∀ x, runFn Q.C Q.f39Γ Q.f39sig Q.f39ann Go.Proofs.Try.f39 x = Q.f39F x := by
  intro x
  kernel_rfl
noncomputable def Q.f39con : Con := ⟨39, Q.f39sig, Q.f39F⟩
theorem Q.f39ok : Con.Ok Go.Proofs.Try.prog Q.C Q.f39con :=
  runFn_ok (Γ := Q.f39Γ) (an := Q.f39ann) ⟨Q.Cok, (List.forall_mem_cons.2 ⟨Q.f44ok, (List.forall_mem_cons.2 ⟨Q.f42ok, (List.forall_mem_cons.2 ⟨Q.f49ok, (List.forall_mem_cons.2 ⟨Q.f47ok, (List.forall_mem_cons.2 ⟨Q.f48ok, (List.forall_mem_cons.2 ⟨Q.f46ok, (fun _ h => nomatch h)⟩)⟩)⟩)⟩)⟩)⟩), Q.mixed⟩ Go.Proofs.Try.func39 rfl rfl (fun x y h => (Q.f39eq x).trans h) (by decide)
def Q.f50sig : Sig := ⟨⟨[.ptr 0 0], [.cells [.hole (.int .i64), .own 1, .hole (.int .i64), .hole (.int .i64), .hole (.int .i64), .hole (.int .i64), .own 2, .own 3, .hole (.sl (.int .i64))], .arr 70 (.st (.pair (.int .i64) (.pair (.int .i64) .bool))), .arr 3 (.int .i64), .arr 3 (.int .i64)]⟩, ⟨[], [.cells [.hole (.int .i64), .own 4, .hole (.int .i64), .hole (.int .i64), .hole (.int .i64), .hole (.int .i64), .own 5, .own 6, .hole (.sl (.int .i64))], .gone, .gone, .gone, .arr 70 (.st (.pair (.int .i64) (.pair (.int .i64) .bool))), .arr 3 (.int .i64), .arr 3 (.int .i64)]⟩⟩
noncomputable def Q.f50Γ : List Con := []
def Q.f50ann : Ann :=
  (.tail 14)
/- (*ductus/ductusref06.walk).pop -/
noncomputable def Q.f50F : Int × Int × Int × Int × Int × List Int × List (Int × Int × Bool) × List Int × List Int → Option (Int × Int × Int × Int × Int × List Int × List (Int × Int × Bool) × List Int × List Int) :=
  fun (x : Int × Int × Int × Int × Int × List Int × List (Int × Int × Bool) × List Int × List Int) =>
  if
      (0 : Int) ≤ Go.IntKind.wrap Go.IntKind.i64 ((↑(List.length x.snd.snd.snd.snd.snd.snd.fst) : Int) - (1 : Int)) ∧
        Go.IntKind.wrap Go.IntKind.i64 ((↑(List.length x.snd.snd.snd.snd.snd.snd.fst) : Int) - (1 : Int)) ≤ (↑(List.length x.snd.snd.snd.snd.snd.snd.fst) : Int) then
    Option.some
      (x.1, x.snd.1, x.snd.snd.1, x.snd.snd.snd.1, x.snd.snd.snd.snd.1, x.snd.snd.snd.snd.snd.1,
        List.take (Int.toNat (Go.IntKind.wrap Go.IntKind.i64 ((↑(List.length x.snd.snd.snd.snd.snd.snd.fst) : Int) - (1 : Int)))) x.snd.snd.snd.snd.snd.snd.1, x.snd.snd.snd.snd.snd.snd.snd.1,
        x.snd.snd.snd.snd.snd.snd.snd.2)
  else Option.none
theorem Q.f50eq : ∀ x, runFn Q.C Q.f50Γ Q.f50sig Q.f50ann Go.Proofs.Try.f50 x = Q.f50F x := by
  intro x
  kernel_rfl
noncomputable def Q.f50con : Con := ⟨50, Q.f50sig, Q.f50F⟩
theorem Q.f50ok : Con.Ok Go.Proofs.Try.prog Q.C Q.f50con :=
  runFn_ok (Γ := Q.f50Γ) (an := Q.f50ann) ⟨Q.Cok, (fun _ h => nomatch h), Q.mixed⟩ Go.Proofs.Try.func50 rfl rfl (fun x y h => (Q.f50eq x).trans h) (by decide)
def Q.f40sig : Sig := ⟨⟨[.ptr 0 0, .hole (.int .i64)], [.cells [.hole (.int .i64), .own 1, .hole (.int .i64), .hole (.int .i64), .hole (.int .i64), .hole (.int .i64), .own 2, .own 3, .hole (.sl (.int .i64))], .arr 70 (.st (.pair (.int .i64) (.pair (.int .i64) .bool))), .arr 3 (.int .i64), .arr 3 (.int .i64)]⟩, ⟨[], [.cells [.hole (.int .i64), .own 4, .hole (.int .i64), .hole (.int .i64), .hole (.int .i64), .hole (.int .i64), .own 5, .own 6, .hole (.sl (.int .i64))], .gone, .gone, .gone, .arr 70 (.st (.pair (.int .i64) (.pair (.int .i64) .bool))), .arr 3 (.int .i64), .arr 3 (.int .i64)]⟩⟩
noncomputable def Q.f40Γ : List Con := [Q.f42con, Q.f50con, Q.f44con]
def Q.f40ann : Ann :=
  (.seq (.block (.seq .leaf (.cond .leaf (.seq .leaf (.cond (.seq .leaf (.seq (.block (.loop ⟨.normal, [], [.cells [.hole (.int .i64), .own 4, .hole (.int .i64), .hole (.int .i64), .hole (.int .i64), .hole (.int .i64), .own 5, .own 6, .hole (.sl (.int .i64))], .gone, .gone, .gone, .arr 70 (.st (.pair (.int .i64) (.pair (.int .i64) .bool))), .arr 3 (.int .i64), .arr 3 (.int .i64)]⟩ [⟨(.exit 1), [], [.cells [.hole (.int .i64), .own 4, .hole (.int .i64), .hole (.int .i64), .hole (.int .i64), .hole (.int .i64), .own 5, .own 6, .hole (.sl (.int .i64))], .gone, .gone, .gone, .arr 70 (.st (.pair (.int .i64) (.pair (.int .i64) .bool))), .arr 3 (.int .i64), .arr 3 (.int .i64)]⟩] (.seq (.seq .leaf (.cond .leaf .leaf)) (.block .leaf)))) (.seq .leaf .leaf))) .leaf))))) .leaf)
/- (*ductus/ductusref06.walk).end -/
noncomputable def Q.f40F : Int × Int × Int × Int × Int × Int × List Int × List (Int × Int × Bool) × List Int × List Int → Option (Int × Int × Int × Int × Int × List Int × List (Int × Int × Bool) × List Int × List Int) :=
  fun (x : Int × Int × Int × Int × Int × Int × List Int × List (Int × Int × Bool) × List Int × List Int) =>
  if Decidable.decide (x.snd.snd.fst > (0 : Int)) = Bool.true then
    Option.bind
      (Go.Sx.Q.f44F
        (x.1, x.snd.1, Go.IntKind.wrap Go.IntKind.i64 (x.snd.snd.fst - (1 : Int)), x.snd.snd.snd.1, x.snd.snd.snd.snd.1, x.snd.snd.snd.snd.snd.1, x.snd.snd.snd.snd.snd.snd.1,
          x.snd.snd.snd.snd.snd.snd.snd.1, x.snd.snd.snd.snd.snd.snd.snd.snd.1, x.snd.snd.snd.snd.snd.snd.snd.snd.2))
      fun (v1 : Int × Int × Int × Int × Int × List Int × List (Int × Int × Bool) × List Int × List Int) =>
      Option.some
        (v1.1, v1.snd.1, v1.snd.snd.1, v1.snd.snd.snd.1, v1.snd.snd.snd.snd.1, v1.snd.snd.snd.snd.snd.1, v1.snd.snd.snd.snd.snd.snd.1, v1.snd.snd.snd.snd.snd.snd.snd.1,
          v1.snd.snd.snd.snd.snd.snd.snd.2)
  else
    if Decidable.decide (x.snd.snd.snd.snd.fst > (0 : Int)) = Bool.true then
      Option.bind
        (Go.Sx.iter
          (fun (s1 : Int × Int × Int × Int × Int × List Int × List (Int × Int × Bool) × List Int × List Int) =>
            Option.bind
              (Go.Sx.Q.f42F
                (s1.1, s1.snd.snd.snd.snd.snd.snd.1, s1.snd.1, s1.snd.snd.1, s1.snd.snd.snd.1, s1.snd.snd.snd.snd.1, s1.snd.snd.snd.snd.snd.snd.snd.1, s1.snd.snd.snd.snd.snd.snd.snd.2,
                  s1.snd.snd.snd.snd.snd.1))
              fun (v2 : Int × Int × Bool) =>
              if (!v2.snd.snd) = Bool.true then
                Option.bind
                  (Go.Sx.Q.f50F
                    (s1.1, s1.snd.1, s1.snd.snd.1, s1.snd.snd.snd.1, s1.snd.snd.snd.snd.1, s1.snd.snd.snd.snd.snd.1, s1.snd.snd.snd.snd.snd.snd.1, s1.snd.snd.snd.snd.snd.snd.snd.1,
                      s1.snd.snd.snd.snd.snd.snd.snd.2))
                  fun (v3 : Int × Int × Int × Int × Int × List Int × List (Int × Int × Bool) × List Int × List Int) =>
                  Option.some
                    (Sum.inl
                      (v3.1, v3.snd.1, v3.snd.snd.1, v3.snd.snd.snd.1, v3.snd.snd.snd.snd.1, v3.snd.snd.snd.snd.snd.1, v3.snd.snd.snd.snd.snd.snd.1, v3.snd.snd.snd.snd.snd.snd.snd.1,
                        v3.snd.snd.snd.snd.snd.snd.snd.2))
              else
                Option.some
                  (Sum.inr
                    (s1.1, s1.snd.1, s1.snd.snd.1, s1.snd.snd.snd.1, s1.snd.snd.snd.snd.1, s1.snd.snd.snd.snd.snd.1, s1.snd.snd.snd.snd.snd.snd.1, s1.snd.snd.snd.snd.snd.snd.snd.1,
                      s1.snd.snd.snd.snd.snd.snd.snd.2)))
          (x.snd.1, x.snd.snd.1, (0 : Int), x.snd.snd.snd.snd.1, x.snd.snd.snd.snd.snd.1, x.snd.snd.snd.snd.snd.snd.1, x.snd.snd.snd.snd.snd.snd.snd.1, x.snd.snd.snd.snd.snd.snd.snd.snd.1,
            x.snd.snd.snd.snd.snd.snd.snd.snd.2))
        fun (v1 : Int × Int × Int × Int × Int × List Int × List (Int × Int × Bool) × List Int × List Int) =>
        Option.bind
          (Go.Sx.Q.f50F
            (v1.1, v1.snd.1, v1.snd.snd.1, v1.snd.snd.snd.1, v1.snd.snd.snd.snd.1, v1.snd.snd.snd.snd.snd.1, v1.snd.snd.snd.snd.snd.snd.1, v1.snd.snd.snd.snd.snd.snd.snd.1,
              v1.snd.snd.snd.snd.snd.snd.snd.2))
          fun (v2 : Int × Int × Int × Int × Int × List Int × List (Int × Int × Bool) × List Int × List Int) =>
          Option.bind
            (Go.Sx.Q.f44F
              (x.1, v2.1, v2.snd.1, v2.snd.snd.1, Go.IntKind.wrap Go.IntKind.i64 (v2.snd.snd.snd.fst - (1 : Int)), v2.snd.snd.snd.snd.1, v2.snd.snd.snd.snd.snd.1, v2.snd.snd.snd.snd.snd.snd.1,
                v2.snd.snd.snd.snd.snd.snd.snd.1, v2.snd.snd.snd.snd.snd.snd.snd.2))
            fun (v3 : Int × Int × Int × Int × Int × List Int × List (Int × Int × Bool) × List Int × List Int) =>
            Option.some
              (v3.1, v3.snd.1, v3.snd.snd.1, v3.snd.snd.snd.1, v3.snd.snd.snd.snd.1, v3.snd.snd.snd.snd.snd.1, v3.snd.snd.snd.snd.snd.snd.1, v3.snd.snd.snd.snd.snd.snd.snd.1,
                v3.snd.snd.snd.snd.snd.snd.snd.2)
    else
      Option.bind
        (Go.Sx.Q.f44F
          (x.1, x.snd.1, x.snd.snd.1, x.snd.snd.snd.1, x.snd.snd.snd.snd.1, x.snd.snd.snd.snd.snd.1, x.snd.snd.snd.snd.snd.snd.1, x.snd.snd.snd.snd.snd.snd.snd.1, x.snd.snd.snd.snd.snd.snd.snd.snd.1,
            x.snd.snd.snd.snd.snd.snd.snd.snd.2))
        fun (v1 : Int × Int × Int × Int × Int × List Int × List (Int × Int × Bool) × List Int × List Int) =>
        Option.some
          (v1.1, v1.snd.1, v1.snd.snd.1, v1.snd.snd.snd.1, v1.snd.snd.snd.snd.1, v1.snd.snd.snd.snd.snd.1, v1.snd.snd.snd.snd.snd.snd.1, v1.snd.snd.snd.snd.snd.snd.snd.1,
            v1.snd.snd.snd.snd.snd.snd.snd.2)
theorem Q.f40eq : ∀ x, runFn Q.C Q.f40Γ Q.f40sig Q.f40ann Go.Proofs.Try.f40 x = Q.f40F x := by
  intro x
  kernel_rfl
noncomputable def Q.f40con : Con := ⟨40, Q.f40sig, Q.f40F⟩
theorem Q.f40ok : Con.Ok Go.Proofs.Try.prog Q.C Q.f40con :=
  runFn_ok (Γ := Q.f40Γ) (an := Q.f40ann) ⟨Q.Cok, (List.forall_mem_cons.2 ⟨Q.f42ok, (List.forall_mem_cons.2 ⟨Q.f50ok, (List.forall_mem_cons.2 ⟨Q.f44ok, (fun _ h => nomatch h)⟩)⟩)⟩), Q.mixed⟩ Go.Proofs.Try.func40 rfl rfl (fun x y h => (Q.f40eq x).trans h) (by decide)
def Q.f41sig : Sig := ⟨⟨[.ptr 0 0], [.cells [.hole (.int .i64), .own 1, .hole (.int .i64), .hole (.int .i64), .hole (.int .i64), .hole (.int .i64), .own 2, .own 3, .hole (.sl (.int .i64))], .arr 70 (.st (.pair (.int .i64) (.pair (.int .i64) .bool))), .arr 3 (.int .i64), .arr 3 (.int .i64)]⟩, ⟨[], [.cells [.hole (.int .i64), .own 4, .hole (.int .i64), .hole (.int .i64), .hole (.int .i64), .hole (.int .i64), .own 5, .own 6, .hole (.sl (.int .i64))], .gone, .gone, .gone, .arr 70 (.st (.pair (.int .i64) (.pair (.int .i64) .bool))), .arr 3 (.int .i64), .arr 3 (.int .i64)]⟩⟩
noncomputable def Q.f41Γ : List Con := [Q.f42con, Q.f50con]
def Q.f41ann : Ann :=
  (.seq (.eff 7 [15] [0, 0, 0, 4, 12, 28, 0, 64, 192, 448, 1020, 0, 2048, 6144, 14336, 0, 65532, 131069, 262141, 524285, 1048575, 2097151, 4194303]) (.block (.seq .leaf (.cond .leaf (.seq .leaf (.cond .leaf (.seq (.join [⟨.normal, [(42, .hole .bool)], [.cells [.hole (.int .i64), .own 1, .hole (.int .i64), .hole (.int .i64), .hole (.int .i64), .hole (.int .i64), .own 5, .own 6, .hole (.sl (.int .i64))], .arr 70 (.st (.pair (.int .i64) (.pair (.int .i64) .bool))), .gone, .gone, .gone, .arr 3 (.int .i64), .arr 3 (.int .i64)]⟩] .leaf) (.cond .leaf .leaf))))))))
/- (*ductus/ductusref06.walk).back -/
noncomputable def Q.f41F : Int × Int × Int × Int × Int × List Int × List (Int × Int × Bool) × List Int × List Int → Option (Int × Int × Int × Int × Int × List Int × List (Int × Int × Bool) × List Int × List Int) :=
  fun (x : Int × Int × Int × Int × Int × List Int × List (Int × Int × Bool) × List Int × List Int) =>
  Option.bind
    (Go.Sx.Q.f42F
      (x.1, x.snd.snd.snd.snd.snd.snd.1, x.snd.1, x.snd.snd.1, x.snd.snd.snd.1, x.snd.snd.snd.snd.1, x.snd.snd.snd.snd.snd.snd.snd.1, x.snd.snd.snd.snd.snd.snd.snd.2, x.snd.snd.snd.snd.snd.1))
    fun (v1 : Int × Int × Bool) =>
    if
        Go.Sx.roomOk (List.length x.snd.snd.snd.snd.snd.snd.snd.fst + (1 : Nat))
          { kind := Go.Sx.TK.int Go.IntKind.i64, size := (1 : Nat), bytes := (8 : Nat), ty := Option.some (Go.Sx.Ty.int Go.IntKind.i64),
              zero := [Go.Sx.SV.val (Go.Sx.Ty.int Go.IntKind.i64) (0 : Int)] : Go.Sx.TI }.bytes then
      if
          Go.Sx.roomOk (List.length x.snd.snd.snd.snd.snd.snd.snd.snd + (1 : Nat))
            { kind := Go.Sx.TK.int Go.IntKind.i64, size := (1 : Nat), bytes := (8 : Nat), ty := Option.some (Go.Sx.Ty.int Go.IntKind.i64),
                zero := [Go.Sx.SV.val (Go.Sx.Ty.int Go.IntKind.i64) (0 : Int)] : Go.Sx.TI }.bytes then
        if Decidable.decide (x.snd.fst > (0 : Int)) = Bool.true then
          Option.some
            (x.1, x.snd.1, x.snd.snd.1, x.snd.snd.snd.1, x.snd.snd.snd.snd.1, x.snd.snd.snd.snd.snd.1, x.snd.snd.snd.snd.snd.snd.1, x.snd.snd.snd.snd.snd.snd.snd.1 ++ [v1.1],
              x.snd.snd.snd.snd.snd.snd.snd.2 ++ [(18 : Int)])
        else
          if Decidable.decide (x.snd.snd.fst > (0 : Int)) = Bool.true then
            Option.some
              (x.1, x.snd.1, Go.IntKind.wrap Go.IntKind.i64 (x.snd.snd.fst - (1 : Int)), x.snd.snd.snd.1, x.snd.snd.snd.snd.1, x.snd.snd.snd.snd.snd.1, x.snd.snd.snd.snd.snd.snd.1,
                x.snd.snd.snd.snd.snd.snd.snd.1 ++ [v1.1], x.snd.snd.snd.snd.snd.snd.snd.2 ++ [(18 : Int)])
          else
            Option.bind
              (Option.bind
                (Go.Sx.Q.f42F
                  (x.1, x.snd.snd.snd.snd.snd.snd.1, x.snd.1, x.snd.snd.1, x.snd.snd.snd.1, x.snd.snd.snd.snd.1, x.snd.snd.snd.snd.snd.snd.snd.1 ++ [v1.1],
                    x.snd.snd.snd.snd.snd.snd.snd.2 ++ [(18 : Int)], x.snd.snd.snd.snd.snd.1))
                fun (v2 : Int × Int × Bool) =>
                if (!v2.snd.snd) = Bool.true then
                  Option.some
                    (Decidable.decide ((↑(List.length x.snd.snd.snd.snd.snd.snd.fst) : Int) ≥ (2 : Int)), x.1, x.snd.1, x.snd.snd.1, x.snd.snd.snd.1, x.snd.snd.snd.snd.1, x.snd.snd.snd.snd.snd.1,
                      x.snd.snd.snd.snd.snd.snd.1, x.snd.snd.snd.snd.snd.snd.snd.1 ++ [v1.1], x.snd.snd.snd.snd.snd.snd.snd.2 ++ [(18 : Int)])
                else
                  Option.some
                    (Bool.false, x.1, x.snd.1, x.snd.snd.1, x.snd.snd.snd.1, x.snd.snd.snd.snd.1, x.snd.snd.snd.snd.snd.1, x.snd.snd.snd.snd.snd.snd.1, x.snd.snd.snd.snd.snd.snd.snd.1 ++ [v1.1],
                      x.snd.snd.snd.snd.snd.snd.snd.2 ++ [(18 : Int)]))
              fun (v2 : Bool × Int × Int × Int × Int × Int × List Int × List (Int × Int × Bool) × List Int × List Int) =>
              if v2.fst = Bool.true then
                Option.bind
                  (Go.Sx.Q.f50F
                    (v2.snd.1, v2.snd.snd.1, v2.snd.snd.snd.1, v2.snd.snd.snd.snd.1, v2.snd.snd.snd.snd.snd.1, v2.snd.snd.snd.snd.snd.snd.1, v2.snd.snd.snd.snd.snd.snd.snd.1,
                      v2.snd.snd.snd.snd.snd.snd.snd.snd.1, v2.snd.snd.snd.snd.snd.snd.snd.snd.2))
                  fun (v3 : Int × Int × Int × Int × Int × List Int × List (Int × Int × Bool) × List Int × List Int) =>
                  Option.some
                    (v3.1, v3.snd.1, v3.snd.snd.1, v3.snd.snd.snd.1, v3.snd.snd.snd.snd.1, v3.snd.snd.snd.snd.snd.1, v3.snd.snd.snd.snd.snd.snd.1, v3.snd.snd.snd.snd.snd.snd.snd.1,
                      v3.snd.snd.snd.snd.snd.snd.snd.2)
              else
                Option.some
                  (v2.snd.1, v2.snd.snd.1, v2.snd.snd.snd.1, v2.snd.snd.snd.snd.1, v2.snd.snd.snd.snd.snd.1, v2.snd.snd.snd.snd.snd.snd.1, v2.snd.snd.snd.snd.snd.snd.snd.1,
                    v2.snd.snd.snd.snd.snd.snd.snd.snd.1, v2.snd.snd.snd.snd.snd.snd.snd.snd.2)
      else Option.none
    else Option.none
theorem Q.f41eq : ∀ x, runFn Q.C Q.f41Γ Q.f41sig Q.f41ann Go.Proofs.Try.f41 x = Q.f41F x := by
  intro x
  kernel_rfl
noncomputable def Q.f41con : Con := ⟨41, Q.f41sig, Q.f41F⟩
theorem Q.f41ok : Con.Ok Go.Proofs.Try.prog Q.C Q.f41con :=
  runFn_ok (Γ := Q.f41Γ) (an := Q.f41ann) ⟨Q.Cok, (List.forall_mem_cons.2 ⟨Q.f42ok, (List.forall_mem_cons.2 ⟨Q.f50ok, (fun _ h => nomatch h)⟩)⟩), Q.mixed⟩ Go.Proofs.Try.func41 rfl rfl (fun x y h => (Q.f41eq x).trans h) (by decide)
def Q.f28sig : Sig := ⟨⟨[.hole (.sl (.int .i64)), .hole (.int .i64)], []⟩, ⟨[.ptr 0 0], [.cells [.hole (.int .i64), .own 1, .hole (.int .i64), .hole (.int .i64), .hole (.int .i64), .hole (.int .i64), .own 2, .own 3, .hole (.sl (.int .i64))], .arr 70 (.st (.pair (.int .i64) (.pair (.int .i64) .bool))), .arr 3 (.int .i64), .arr 3 (.int .i64)]⟩⟩
noncomputable def Q.f28Γ : List Con := [Q.f37con, Q.f38con, Q.f35con, Q.f39con, Q.f40con, Q.f41con, Q.f42con, Q.f43con, Q.f44con]
def Q.f28ann : Ann :=
  (.seq .leaf (.seq .leaf (.seq (.join [⟨.normal, [], [.cells [.hole (.int .i64), .own 1, .hole (.int .i64), .hole (.int .i64), .hole (.int .i64), .hole (.int .i64), .own 2, .own 3, .hole (.sl (.int .i64))], .arr 70 (.st (.pair (.int .i64) (.pair (.int .i64) .bool))), .arr 3 (.int .i64), .arr 3 (.int .i64)]⟩] (.seq .leaf (.cond .leaf .leaf))) (.seq .leaf (.seq (.seq .leaf (.block (.loop ⟨.normal, [(6, .hole (.int .i64))], [.cells [.hole (.int .i64), .own 7, .hole (.int .i64), .hole (.int .i64), .hole (.int .i64), .hole (.int .i64), .own 8, .own 9, .hole (.sl (.int .i64))], .gone, .gone, .gone, .gone, .gone, .gone, .arr 70 (.st (.pair (.int .i64) (.pair (.int .i64) .bool))), .arr 3 (.int .i64), .arr 3 (.int .i64)]⟩ [⟨(.exit 0), [], [.cells [.hole (.int .i64), .own 7, .hole (.int .i64), .hole (.int .i64), .hole (.int .i64), .hole (.int .i64), .own 8, .own 9, .hole (.sl (.int .i64))], .gone, .gone, .gone, .gone, .gone, .gone, .arr 70 (.st (.pair (.int .i64) (.pair (.int .i64) .bool))), .arr 3 (.int .i64), .arr 3 (.int .i64)]⟩] (.seq (.seq .leaf (.cond .leaf .leaf)) (.seq (.block (.seq .leaf (.block (.seq (.join [⟨.normal, [(31, .hole .bool)], [.cells [.hole (.int .i64), .own 7, .hole (.int .i64), .hole (.int .i64), .hole (.int .i64), .hole (.int .i64), .own 8, .own 9, .hole (.sl (.int .i64))], .gone, .gone, .gone, .gone, .gone, .gone, .arr 70 (.st (.pair (.int .i64) (.pair (.int .i64) .bool))), .arr 3 (.int .i64), .arr 3 (.int .i64)]⟩] .leaf) (.cond .leaf (.seq .leaf (.cond .leaf (.seq .leaf (.cond .leaf (.seq .leaf (.cond .leaf (.seq .leaf (.cond (.eff 13 [16] [0, 0, 0, 4, 12, 28, 0, 64, 192, 448, 1020, 0, 2048, 6144, 14336, 0, 32768, 131068, 262141, 524285, 1048573, 2097151, 4194303, 8388607]) (.seq .leaf (.cond (.seq .leaf (.eff 16 [17] [0, 0, 0, 4, 12, 28, 0, 64, 192, 448, 960, 2044, 0, 4096, 12288, 28672, 0, 65536, 262140, 524285, 1048573, 2097149, 4194303, 8388607, 16777215])) (.seq .leaf (.cond .leaf .leaf))))))))))))))))) .leaf))))) (.seq .leaf .leaf))))))
/- ductus/ductusref06.went -/
noncomputable def Q.f28F : List Int × Int → Option (Int × Int × Int × Int × Int × List Int × List (Int × Int × Bool) × List Int × List Int) :=
  fun (x : List Int × Int) =>
  Option.bind
    (if (x.snd != (0 : Int)) = Bool.true then Option.some ((1 : Int), (0 : Int), (0 : Int), (0 : Int), (0 : Int), x.1, [], [], [])
    else Option.some ((0 : Int), (0 : Int), (0 : Int), (0 : Int), (0 : Int), x.1, [], [], []))
    fun (v1 : Int × Int × Int × Int × Int × List Int × List (Int × Int × Bool) × List Int × List Int) =>
    Option.bind
      (Go.Sx.Q.f37F
        (v1.1, v1.snd.1, v1.snd.snd.1, v1.snd.snd.snd.1, v1.snd.snd.snd.snd.1, v1.snd.snd.snd.snd.snd.1, v1.snd.snd.snd.snd.snd.snd.1, v1.snd.snd.snd.snd.snd.snd.snd.1,
          v1.snd.snd.snd.snd.snd.snd.snd.2))
      fun (v2 : Int × Int × Int × Int × Int × List Int × List (Int × Int × Bool) × List Int × List Int) =>
      Option.bind
        (Go.Sx.iter
          (fun (s3 : Int × Int × Int × Int × Int × Int × List Int × List (Int × Int × Bool) × List Int × List Int) =>
            if Decidable.decide (s3.fst < (↑(List.length x.fst) : Int)) = Bool.true then
              if (0 : Int) ≤ s3.fst ∧ s3.fst < (↑(List.length x.fst) : Int) then
                Option.bind
                  (if (List.getD x.fst (Int.toNat s3.fst) (0 : Int) == (16 : Int)) = Bool.true then
                    Option.some
                      (Bool.true, s3.snd.1, s3.snd.snd.1, s3.snd.snd.snd.1, s3.snd.snd.snd.snd.1, s3.snd.snd.snd.snd.snd.1, s3.snd.snd.snd.snd.snd.snd.1, s3.snd.snd.snd.snd.snd.snd.snd.1,
                        s3.snd.snd.snd.snd.snd.snd.snd.snd.1, s3.snd.snd.snd.snd.snd.snd.snd.snd.2)
                  else
                    if (List.getD x.fst (Int.toNat s3.fst) (0 : Int) == (14 : Int)) = Bool.true then
                      Option.some
                        (Bool.true, s3.snd.1, s3.snd.snd.1, s3.snd.snd.snd.1, s3.snd.snd.snd.snd.1, s3.snd.snd.snd.snd.snd.1, s3.snd.snd.snd.snd.snd.snd.1, s3.snd.snd.snd.snd.snd.snd.snd.1,
                          s3.snd.snd.snd.snd.snd.snd.snd.snd.1, s3.snd.snd.snd.snd.snd.snd.snd.snd.2)
                    else
                      if (List.getD x.fst (Int.toNat s3.fst) (0 : Int) == (17 : Int)) = Bool.true then
                        Option.some
                          (Bool.true, s3.snd.1, s3.snd.snd.1, s3.snd.snd.snd.1, s3.snd.snd.snd.snd.1, s3.snd.snd.snd.snd.snd.1, s3.snd.snd.snd.snd.snd.snd.1, s3.snd.snd.snd.snd.snd.snd.snd.1,
                            s3.snd.snd.snd.snd.snd.snd.snd.snd.1, s3.snd.snd.snd.snd.snd.snd.snd.snd.2)
                      else
                        Option.some
                          (List.getD x.fst (Int.toNat s3.fst) (0 : Int) == (15 : Int), s3.snd.1, s3.snd.snd.1, s3.snd.snd.snd.1, s3.snd.snd.snd.snd.1, s3.snd.snd.snd.snd.snd.1,
                            s3.snd.snd.snd.snd.snd.snd.1, s3.snd.snd.snd.snd.snd.snd.snd.1, s3.snd.snd.snd.snd.snd.snd.snd.snd.1, s3.snd.snd.snd.snd.snd.snd.snd.snd.2))
                  fun (v4 : Bool × Int × Int × Int × Int × Int × List Int × List (Int × Int × Bool) × List Int × List Int) =>
                  if v4.fst = Bool.true then
                    Option.bind
                      (Go.Sx.Q.f38F
                        (List.getD x.fst (Int.toNat s3.fst) (0 : Int), v4.snd.1, v4.snd.snd.1, v4.snd.snd.snd.1, v4.snd.snd.snd.snd.1, v4.snd.snd.snd.snd.snd.1, v4.snd.snd.snd.snd.snd.snd.1,
                          v4.snd.snd.snd.snd.snd.snd.snd.1, v4.snd.snd.snd.snd.snd.snd.snd.snd.1, v4.snd.snd.snd.snd.snd.snd.snd.snd.2))
                      fun (v5 : Int × Int × Int × Int × Int × List Int × List (Int × Int × Bool) × List Int × List Int) =>
                      Option.some
                        (Sum.inl
                          (Go.IntKind.wrap Go.IntKind.i64 (s3.fst + (1 : Int)), v5.1, v5.snd.1, v5.snd.snd.1, v5.snd.snd.snd.1, v5.snd.snd.snd.snd.1, v5.snd.snd.snd.snd.snd.1,
                            v5.snd.snd.snd.snd.snd.snd.1, v5.snd.snd.snd.snd.snd.snd.snd.1, v5.snd.snd.snd.snd.snd.snd.snd.2))
                  else
                    Option.bind (Go.Sx.Q.f35F (List.getD x.fst (Int.toNat s3.fst) (0 : Int))) fun (v5 : Bool) =>
                      if v5 = Bool.true then
                        Option.bind
                          (Go.Sx.Q.f39F
                            (s3.1, List.getD x.fst (Int.toNat s3.fst) (0 : Int), v4.snd.1, v4.snd.snd.1, v4.snd.snd.snd.1, v4.snd.snd.snd.snd.1, v4.snd.snd.snd.snd.snd.1, v4.snd.snd.snd.snd.snd.snd.1,
                              v4.snd.snd.snd.snd.snd.snd.snd.1, v4.snd.snd.snd.snd.snd.snd.snd.snd.1, v4.snd.snd.snd.snd.snd.snd.snd.snd.2))
                          fun (v6 : Int × Int × Int × Int × Int × List Int × List (Int × Int × Bool) × List Int × List Int) =>
                          Option.some
                            (Sum.inl
                              (Go.IntKind.wrap Go.IntKind.i64 (s3.fst + (1 : Int)), v6.1, v6.snd.1, v6.snd.snd.1, v6.snd.snd.snd.1, v6.snd.snd.snd.snd.1, v6.snd.snd.snd.snd.snd.1,
                                v6.snd.snd.snd.snd.snd.snd.1, v6.snd.snd.snd.snd.snd.snd.snd.1, v6.snd.snd.snd.snd.snd.snd.snd.2))
                      else
                        if (List.getD x.fst (Int.toNat s3.fst) (0 : Int) == (22 : Int)) = Bool.true then
                          Option.bind
                            (Go.Sx.Q.f40F
                              (List.getD x.fst (Int.toNat s3.fst) (0 : Int), v4.snd.1, v4.snd.snd.1, v4.snd.snd.snd.1, v4.snd.snd.snd.snd.1, v4.snd.snd.snd.snd.snd.1, v4.snd.snd.snd.snd.snd.snd.1,
                                v4.snd.snd.snd.snd.snd.snd.snd.1, v4.snd.snd.snd.snd.snd.snd.snd.snd.1, v4.snd.snd.snd.snd.snd.snd.snd.snd.2))
                            fun (v6 : Int × Int × Int × Int × Int × List Int × List (Int × Int × Bool) × List Int × List Int) =>
                            Option.some
                              (Sum.inl
                                (Go.IntKind.wrap Go.IntKind.i64 (s3.fst + (1 : Int)), v6.1, v6.snd.1, v6.snd.snd.1, v6.snd.snd.snd.1, v6.snd.snd.snd.snd.1, v6.snd.snd.snd.snd.snd.1,
                                  v6.snd.snd.snd.snd.snd.snd.1, v6.snd.snd.snd.snd.snd.snd.snd.1, v6.snd.snd.snd.snd.snd.snd.snd.2))
                        else
                          if (List.getD x.fst (Int.toNat s3.fst) (0 : Int) == (18 : Int)) = Bool.true then
                            Option.bind
                              (Go.Sx.Q.f41F
                                (v4.snd.1, v4.snd.snd.1, v4.snd.snd.snd.1, v4.snd.snd.snd.snd.1, v4.snd.snd.snd.snd.snd.1, v4.snd.snd.snd.snd.snd.snd.1, v4.snd.snd.snd.snd.snd.snd.snd.1,
                                  v4.snd.snd.snd.snd.snd.snd.snd.snd.1, v4.snd.snd.snd.snd.snd.snd.snd.snd.2))
                              fun (v6 : Int × Int × Int × Int × Int × List Int × List (Int × Int × Bool) × List Int × List Int) =>
                              Option.some
                                (Sum.inl
                                  (Go.IntKind.wrap Go.IntKind.i64 (s3.fst + (1 : Int)), v6.1, v6.snd.1, v6.snd.snd.1, v6.snd.snd.snd.1, v6.snd.snd.snd.snd.1, v6.snd.snd.snd.snd.snd.1,
                                    v6.snd.snd.snd.snd.snd.snd.1, v6.snd.snd.snd.snd.snd.snd.snd.1, v6.snd.snd.snd.snd.snd.snd.snd.2))
                          else
                            if (List.getD x.fst (Int.toNat s3.fst) (0 : Int) == (9 : Int)) = Bool.true then
                              Option.bind
                                (Go.Sx.Q.f42F
                                  (v4.snd.1, v4.snd.snd.snd.snd.snd.snd.snd.1, v4.snd.snd.1, v4.snd.snd.snd.1, v4.snd.snd.snd.snd.1, v4.snd.snd.snd.snd.snd.1, v4.snd.snd.snd.snd.snd.snd.snd.snd.1,
                                    v4.snd.snd.snd.snd.snd.snd.snd.snd.2, v4.snd.snd.snd.snd.snd.snd.1))
                                fun (v6 : Int × Int × Bool) =>
                                if
                                    Go.Sx.roomOk (List.length v4.snd.snd.snd.snd.snd.snd.snd.snd.fst + (1 : Nat))
                                      { kind := Go.Sx.TK.int Go.IntKind.i64, size := (1 : Nat), bytes := (8 : Nat), ty := Option.some (Go.Sx.Ty.int Go.IntKind.i64),
                                          zero := [Go.Sx.SV.val (Go.Sx.Ty.int Go.IntKind.i64) (0 : Int)] : Go.Sx.TI }.bytes then
                                  if
                                      Go.Sx.roomOk (List.length v4.snd.snd.snd.snd.snd.snd.snd.snd.snd + (1 : Nat))
                                        { kind := Go.Sx.TK.int Go.IntKind.i64, size := (1 : Nat), bytes := (8 : Nat), ty := Option.some (Go.Sx.Ty.int Go.IntKind.i64),
                                            zero := [Go.Sx.SV.val (Go.Sx.Ty.int Go.IntKind.i64) (0 : Int)] : Go.Sx.TI }.bytes then
                                    Option.some
                                      (Sum.inl
                                        (Go.IntKind.wrap Go.IntKind.i64 (s3.fst + (1 : Int)), v4.snd.1, v4.snd.snd.1, v4.snd.snd.snd.1, v4.snd.snd.snd.snd.1, v4.snd.snd.snd.snd.snd.1,
                                          v4.snd.snd.snd.snd.snd.snd.1, v4.snd.snd.snd.snd.snd.snd.snd.1, v4.snd.snd.snd.snd.snd.snd.snd.snd.1 ++ [v6.1],
                                          v4.snd.snd.snd.snd.snd.snd.snd.snd.2 ++ [List.getD x.fst (Int.toNat s3.fst) (0 : Int)]))
                                  else Option.none
                                else Option.none
                            else
                              if (List.getD x.fst (Int.toNat s3.fst) (0 : Int) == (10 : Int)) = Bool.true then
                                Option.bind
                                  (Go.Sx.Q.f37F
                                    (v4.snd.1, v4.snd.snd.1, v4.snd.snd.snd.1, v4.snd.snd.snd.snd.1, v4.snd.snd.snd.snd.snd.1, v4.snd.snd.snd.snd.snd.snd.1, v4.snd.snd.snd.snd.snd.snd.snd.1,
                                      v4.snd.snd.snd.snd.snd.snd.snd.snd.1, v4.snd.snd.snd.snd.snd.snd.snd.snd.2))
                                  fun (v6 : Int × Int × Int × Int × Int × List Int × List (Int × Int × Bool) × List Int × List Int) =>
                                  if
                                      Go.Sx.roomOk (List.length v6.snd.snd.snd.snd.snd.snd.snd.fst + (1 : Nat))
                                        { kind := Go.Sx.TK.int Go.IntKind.i64, size := (1 : Nat), bytes := (8 : Nat), ty := Option.some (Go.Sx.Ty.int Go.IntKind.i64),
                                            zero := [Go.Sx.SV.val (Go.Sx.Ty.int Go.IntKind.i64) (0 : Int)] : Go.Sx.TI }.bytes then
                                    if
                                        Go.Sx.roomOk (List.length v6.snd.snd.snd.snd.snd.snd.snd.snd + (1 : Nat))
                                          { kind := Go.Sx.TK.int Go.IntKind.i64, size := (1 : Nat), bytes := (8 : Nat), ty := Option.some (Go.Sx.Ty.int Go.IntKind.i64),
                                              zero := [Go.Sx.SV.val (Go.Sx.Ty.int Go.IntKind.i64) (0 : Int)] : Go.Sx.TI }.bytes then
                                      Option.some
                                        (Sum.inl
                                          (Go.IntKind.wrap Go.IntKind.i64 (s3.fst + (1 : Int)), v6.1, v6.snd.1, v6.snd.snd.1, v6.snd.snd.snd.1, v6.snd.snd.snd.snd.1, v6.snd.snd.snd.snd.snd.1,
                                            v6.snd.snd.snd.snd.snd.snd.1, v6.snd.snd.snd.snd.snd.snd.snd.1 ++ [v6.1],
                                            v6.snd.snd.snd.snd.snd.snd.snd.2 ++ [List.getD x.fst (Int.toNat s3.fst) (0 : Int)]))
                                    else Option.none
                                  else Option.none
                              else
                                Option.bind (Go.Sx.Q.f43F (List.getD x.fst (Int.toNat s3.fst) (0 : Int))) fun (v6 : ByteArray) =>
                                  if (ByteArray.toList v6 == ByteArray.toList { data := #[] : ByteArray }) = Bool.true then
                                    Option.bind
                                      (Go.Sx.Q.f44F
                                        ((0 : Int), v4.snd.1, v4.snd.snd.1, v4.snd.snd.snd.1, v4.snd.snd.snd.snd.1, v4.snd.snd.snd.snd.snd.1, v4.snd.snd.snd.snd.snd.snd.1,
                                          v4.snd.snd.snd.snd.snd.snd.snd.1, v4.snd.snd.snd.snd.snd.snd.snd.snd.1, v4.snd.snd.snd.snd.snd.snd.snd.snd.2))
                                      fun (v7 : Int × Int × Int × Int × Int × List Int × List (Int × Int × Bool) × List Int × List Int) =>
                                      Option.some
                                        (Sum.inl
                                          (Go.IntKind.wrap Go.IntKind.i64 (s3.fst + (1 : Int)), v7.1, v7.snd.1, v7.snd.snd.1, v7.snd.snd.snd.1, v7.snd.snd.snd.snd.1, v7.snd.snd.snd.snd.snd.1,
                                            v7.snd.snd.snd.snd.snd.snd.1, v7.snd.snd.snd.snd.snd.snd.snd.1, v7.snd.snd.snd.snd.snd.snd.snd.2))
                                  else
                                    Option.bind
                                      (Go.Sx.Q.f44F
                                        (List.getD x.fst (Int.toNat s3.fst) (0 : Int), v4.snd.1, v4.snd.snd.1, v4.snd.snd.snd.1, v4.snd.snd.snd.snd.1, v4.snd.snd.snd.snd.snd.1,
                                          v4.snd.snd.snd.snd.snd.snd.1, v4.snd.snd.snd.snd.snd.snd.snd.1, v4.snd.snd.snd.snd.snd.snd.snd.snd.1, v4.snd.snd.snd.snd.snd.snd.snd.snd.2))
                                      fun (v7 : Int × Int × Int × Int × Int × List Int × List (Int × Int × Bool) × List Int × List Int) =>
                                      Option.some
                                        (Sum.inl
                                          (Go.IntKind.wrap Go.IntKind.i64 (s3.fst + (1 : Int)), v7.1, v7.snd.1, v7.snd.snd.1, v7.snd.snd.snd.1, v7.snd.snd.snd.snd.1, v7.snd.snd.snd.snd.snd.1,
                                            v7.snd.snd.snd.snd.snd.snd.1, v7.snd.snd.snd.snd.snd.snd.snd.1, v7.snd.snd.snd.snd.snd.snd.snd.2))
              else Option.none
            else
              Option.some
                (Sum.inr
                  (s3.snd.1, s3.snd.snd.1, s3.snd.snd.snd.1, s3.snd.snd.snd.snd.1, s3.snd.snd.snd.snd.snd.1, s3.snd.snd.snd.snd.snd.snd.1, s3.snd.snd.snd.snd.snd.snd.snd.1,
                    s3.snd.snd.snd.snd.snd.snd.snd.snd.1, s3.snd.snd.snd.snd.snd.snd.snd.snd.2)))
          ((0 : Int), v2.1, v2.snd.1, v2.snd.snd.1, v2.snd.snd.snd.1, v2.snd.snd.snd.snd.1, v2.snd.snd.snd.snd.snd.1, v2.snd.snd.snd.snd.snd.snd.1, v2.snd.snd.snd.snd.snd.snd.snd.1,
            v2.snd.snd.snd.snd.snd.snd.snd.2))
        fun (v3 : Int × Int × Int × Int × Int × List Int × List (Int × Int × Bool) × List Int × List Int) =>
        Option.some
          (v3.1, v3.snd.1, v3.snd.snd.1, v3.snd.snd.snd.1, v3.snd.snd.snd.snd.1, v3.snd.snd.snd.snd.snd.1, v3.snd.snd.snd.snd.snd.snd.1, v3.snd.snd.snd.snd.snd.snd.snd.1,
            v3.snd.snd.snd.snd.snd.snd.snd.2)
theorem Q.f28eq : ∀ x, runFn Q.C Q.f28Γ Q.f28sig Q.f28ann Go.Proofs.Try.f28 x = Q.f28F x := by
  intro x
  kernel_rfl
noncomputable def Q.f28con : Con := ⟨28, Q.f28sig, Q.f28F⟩
theorem Q.f28ok : Con.Ok Go.Proofs.Try.prog Q.C Q.f28con :=
  runFn_ok (Γ := Q.f28Γ) (an := Q.f28ann) ⟨Q.Cok, (List.forall_mem_cons.2 ⟨Q.f37ok, (List.forall_mem_cons.2 ⟨Q.f38ok, (List.forall_mem_cons.2 ⟨Q.f35ok, (List.forall_mem_cons.2 ⟨Q.f39ok, (List.forall_mem_cons.2 ⟨Q.f40ok, (List.forall_mem_cons.2 ⟨Q.f41ok, (List.forall_mem_cons.2 ⟨Q.f42ok, (List.forall_mem_cons.2 ⟨Q.f43ok, (List.forall_mem_cons.2 ⟨Q.f44ok, (fun _ h => nomatch h)⟩)⟩)⟩)⟩)⟩)⟩)⟩)⟩)⟩), Q.mixed⟩ Go.Proofs.Try.func28 rfl rfl (fun x y h => (Q.f28eq x).trans h) (by decide)
def Q.f15sig : Sig := ⟨⟨[.hole (.sl (.int .i64)), .hole (.int .i64)], []⟩, ⟨[.hole (.sl (.int .i64)), .hole (.sl (.int .i64))], []⟩⟩
noncomputable def Q.f15Γ : List Con := [Q.f28con]
def Q.f15ann : Ann :=
  (.seq .leaf (.seq .leaf (.seq .leaf .leaf)))
/- ductus/ductusref06.Of -/
noncomputable def Q.f15F : List Int × Int → Option (List Int × List Int) :=
  fun (x : List Int × Int) =>
  Option.bind (Go.Sx.Q.f28F (x.1, x.2)) fun (v1 : Int × Int × Int × Int × Int × List Int × List (Int × Int × Bool) × List Int × List Int) =>
    Option.some (v1.snd.snd.snd.snd.snd.snd.snd.1, v1.snd.snd.snd.snd.snd.snd.snd.2)
theorem Q.f15eq : ∀ x, runFn Q.C Q.f15Γ Q.f15sig Q.f15ann Go.Proofs.Try.f15 x = Q.f15F x := by
  intro x
  kernel_rfl
noncomputable def Q.f15con : Con := ⟨15, Q.f15sig, Q.f15F⟩
theorem Q.f15ok : Con.Ok Go.Proofs.Try.prog Q.C Q.f15con :=
  runFn_ok (Γ := Q.f15Γ) (an := Q.f15ann) ⟨Q.Cok, (List.forall_mem_cons.2 ⟨Q.f28ok, (fun _ h => nomatch h)⟩), Q.mixed⟩ Go.Proofs.Try.func15 rfl rfl (fun x y h => (Q.f15eq x).trans h) (by decide)
def Q.f4sig : Sig := ⟨⟨[.hole (.sl (.int .i64)), .hole .bool], []⟩, ⟨[.hole .bool], []⟩⟩
noncomputable def Q.f4Γ : List Con := [Q.f6con, Q.f15con, Q.f7con, Q.f16con, Q.f17con, Q.f14con]
def Q.f4ann : Ann :=
  (.seq .leaf (.seq (.seq .leaf (.cond (.seq .leaf .leaf) .leaf)) (.seq (.seq .leaf (.cond (.seq .leaf .leaf) .leaf)) (.seq .leaf (.seq (.join [⟨.normal, [(5, .hole (.int .i64))], []⟩] (.seq .leaf (.cond .leaf .leaf))) (.seq .leaf (.seq .leaf (.seq (.seq .leaf (.cond (.seq .leaf .leaf) .leaf)) (.seq .leaf (.seq (.seq .leaf (.block (.loop ⟨.normal, [(9, .hole (.int .i64)), (10, .hole (.int .i64))], []⟩ [⟨(.exit 0), [(9, .hole (.int .i64))], []⟩, ⟨.ret, [(4, .hole .bool)], []⟩] (.seq (.seq .leaf (.cond .leaf .leaf)) (.seq (.block (.seq (.seq (.join [⟨.normal, [(70, .hole .bool)], []⟩] .leaf) (.cond (.seq .leaf .leaf) .leaf)) (.seq (.seq .leaf (.block (.loop ⟨.normal, [(9, .hole (.int .i64)), (11, .hole (.int .i64))], []⟩ [⟨(.exit 2), [(9, .hole (.int .i64))], []⟩, ⟨.ret, [(4, .hole .bool)], []⟩] (.seq (.seq .leaf (.cond .leaf .leaf)) (.seq (.block (.seq .leaf (.seq (.seq (.join [⟨.normal, [(105, .hole .bool)], []⟩] .leaf) (.cond (.seq .leaf .leaf) .leaf)) .leaf))) .leaf))))) (.seq (.join [⟨.normal, [(135, .hole .bool)], []⟩] .leaf) (.cond (.seq .leaf .leaf) .leaf))))) .leaf))))) (.seq .leaf (.seq (.seq .leaf (.block (.loop ⟨.normal, [(13, .hole (.int .i64)), (14, .hole (.int .i64))], []⟩ [⟨(.exit 4), [(13, .hole (.int .i64))], []⟩] (.seq (.seq .leaf (.cond .leaf .leaf)) (.seq (.block (.seq .leaf (.cond .leaf .leaf))) .leaf))))) (.seq .leaf .leaf)))))))))))))
/- ductus/ductuslaw08.SeqOnce -/
noncomputable def Q.f4F : List Int × Bool → Option (Bool) :=
  fun (x : List Int × Bool) =>
  Option.bind (Go.Sx.Q.f6F ()) fun (v1 : Bool) =>
    if (!v1) = Bool.true then Option.some Bool.false
    else
      if Decidable.decide ((↑(List.length x.fst) : Int) > (300 : Int)) = Bool.true then Option.some Bool.true
      else
        Option.bind (if x.snd = Bool.true then Option.some (1 : Int) else Option.some (0 : Int)) fun (v2 : Int) =>
          Option.bind (Go.Sx.Q.f15F (x.1, v2)) fun (v3 : List Int × List Int) =>
            Option.bind (Go.Sx.Q.f7F (x.1, v3.1, v2)) fun (v4 : List (List Int × Int × Int × Int)) =>
              Option.bind (Go.Sx.Q.f16F (v4, (↑(List.length x.fst) : Int))) fun (v5 : Bool) =>
                if (!v5) = Bool.true then Option.some Bool.false
                else
                  Option.bind
                    (Go.Sx.iter
                      (fun (s6 : Int × Int) =>
                        if Decidable.decide (s6.snd < (↑(List.length v4) : Int)) = Bool.true then
                          Option.bind
                            (if (0 : Int) ≤ s6.snd ∧ s6.snd < (↑(List.length v4) : Int) then
                              if ((↑(List.length (List.getD v4 (Int.toNat s6.snd) ([], (0 : Int), (0 : Int), (0 : Int))).fst) : Int) == (0 : Int)) = Bool.true then Option.some Bool.true
                              else
                                if Decidable.decide (s6.snd > (0 : Int)) = Bool.true then
                                  if (0 : Int) ≤ Go.IntKind.wrap Go.IntKind.i64 (s6.snd - (1 : Int)) ∧ Go.IntKind.wrap Go.IntKind.i64 (s6.snd - (1 : Int)) < (↑(List.length v4) : Int) then
                                    if
                                        (0 : Int) ≤ (0 : Int) ∧
                                          (0 : Int) <
                                            (↑(List.length (List.getD v4 (Int.toNat (Go.IntKind.wrap Go.IntKind.i64 (s6.snd - (1 : Int)))) ([], (0 : Int), (0 : Int), (0 : Int))).fst) : Int) then
                                      if (0 : Int) ≤ s6.snd ∧ s6.snd < (↑(List.length v4) : Int) then
                                        if (0 : Int) ≤ (0 : Int) ∧ (0 : Int) < (↑(List.length (List.getD v4 (Int.toNat s6.snd) ([], (0 : Int), (0 : Int), (0 : Int))).fst) : Int) then
                                          Option.some
                                            (Decidable.decide
                                              (List.getD (List.getD v4 (Int.toNat (Go.IntKind.wrap Go.IntKind.i64 (s6.snd - (1 : Int)))) ([], (0 : Int), (0 : Int), (0 : Int))).fst
                                                  (Int.toNat (0 : Int)) (0 : Int) ≥
                                                List.getD (List.getD v4 (Int.toNat s6.snd) ([], (0 : Int), (0 : Int), (0 : Int))).fst (Int.toNat (0 : Int)) (0 : Int)))
                                        else Option.none
                                      else Option.none
                                    else Option.none
                                  else Option.none
                                else Option.some Bool.false
                            else Option.none)
                            fun (v7 : Bool) =>
                            if v7 = Bool.true then Option.some (Sum.inr (Sum.inr Bool.false))
                            else
                              Option.bind
                                (Go.Sx.iter
                                  (fun (s8 : Int × Int) =>
                                    if (0 : Int) ≤ s6.snd ∧ s6.snd < (↑(List.length v4) : Int) then
                                      if Decidable.decide (s8.snd < (↑(List.length (List.getD v4 (Int.toNat s6.snd) ([], (0 : Int), (0 : Int), (0 : Int))).fst) : Int)) = Bool.true then
                                        if (0 : Int) ≤ s6.snd ∧ s6.snd < (↑(List.length v4) : Int) then
                                          if (0 : Int) ≤ s8.snd ∧ s8.snd < (↑(List.length (List.getD v4 (Int.toNat s6.snd) ([], (0 : Int), (0 : Int), (0 : Int))).fst) : Int) then
                                            Option.bind
                                              (if
                                                  (0 : Int) ≤ List.getD (List.getD v4 (Int.toNat s6.snd) ([], (0 : Int), (0 : Int), (0 : Int))).fst (Int.toNat s8.snd) (0 : Int) ∧
                                                    List.getD (List.getD v4 (Int.toNat s6.snd) ([], (0 : Int), (0 : Int), (0 : Int))).fst (Int.toNat s8.snd) (0 : Int) <
                                                      (↑(List.length v3.fst) : Int) then
                                                if (0 : Int) ≤ s6.snd ∧ s6.snd < (↑(List.length v4) : Int) then
                                                  if
                                                      (List.getD v3.fst (Int.toNat (List.getD (List.getD v4 (Int.toNat s6.snd) ([], (0 : Int), (0 : Int), (0 : Int))).fst (Int.toNat s8.snd) (0 : Int)))
                                                            (0 : Int) !=
                                                          (List.getD v4 (Int.toNat s6.snd) ([], (0 : Int), (0 : Int), (0 : Int))).snd.fst) =
                                                        Bool.true then
                                                    Option.some Bool.true
                                                  else
                                                    if
                                                        (0 : Int) ≤ List.getD (List.getD v4 (Int.toNat s6.snd) ([], (0 : Int), (0 : Int), (0 : Int))).fst (Int.toNat s8.snd) (0 : Int) ∧
                                                          List.getD (List.getD v4 (Int.toNat s6.snd) ([], (0 : Int), (0 : Int), (0 : Int))).fst (Int.toNat s8.snd) (0 : Int) <
                                                            (↑(List.length v3.snd) : Int) then
                                                      Option.bind
                                                        (Go.Sx.Q.f17F
                                                          (List.getD v3.snd
                                                            (Int.toNat (List.getD (List.getD v4 (Int.toNat s6.snd) ([], (0 : Int), (0 : Int), (0 : Int))).fst (Int.toNat s8.snd) (0 : Int))) (0 : Int)))
                                                        fun (v9 : Bool) => Option.some v9
                                                    else Option.none
                                                else Option.none
                                              else Option.none)
                                              fun (v9 : Bool) =>
                                              if v9 = Bool.true then Option.some (Sum.inr (Sum.inr Bool.false))
                                              else Option.some (Sum.inl (Go.IntKind.wrap Go.IntKind.i64 (s8.fst + (1 : Int)), Go.IntKind.wrap Go.IntKind.i64 (s8.snd + (1 : Int))))
                                          else Option.none
                                        else Option.none
                                      else Option.some (Sum.inr (Sum.inl s8.1))
                                    else Option.none)
                                  (s6.1, (0 : Int)))
                                fun (v8 : Int ⊕ Bool) =>
                                Sum.elim
                                  (fun (p9 : Int) =>
                                    Option.bind
                                      (if (s6.snd == (0 : Int)) = Bool.true then
                                        if (0 : Int) ≤ s6.snd ∧ s6.snd < (↑(List.length v4) : Int) then
                                          if (0 : Int) ≤ (0 : Int) ∧ (0 : Int) < (↑(List.length (List.getD v4 (Int.toNat s6.snd) ([], (0 : Int), (0 : Int), (0 : Int))).fst) : Int) then
                                            if (List.getD (List.getD v4 (Int.toNat s6.snd) ([], (0 : Int), (0 : Int), (0 : Int))).fst (Int.toNat (0 : Int)) (0 : Int) == (0 : Int)) = Bool.true then
                                              if (0 : Int) ≤ s6.snd ∧ s6.snd < (↑(List.length v4) : Int) then
                                                if (0 : Int) ≤ s6.snd ∧ s6.snd < (↑(List.length v4) : Int) then
                                                  Option.bind (Go.Sx.Q.f14F (Go.Sx.maxI (List.getD v4 (Int.toNat s6.snd) ([], (0 : Int), (0 : Int), (0 : Int))).snd.fst v2)) fun (v10 : Int) =>
                                                    Option.some ((List.getD v4 (Int.toNat s6.snd) ([], (0 : Int), (0 : Int), (0 : Int))).snd.snd.fst != v10)
                                                else Option.none
                                              else Option.none
                                            else Option.some Bool.false
                                          else Option.none
                                        else Option.none
                                      else Option.some Bool.false)
                                      fun (v10 : Bool) =>
                                      if v10 = Bool.true then Option.some (Sum.inr (Sum.inr Bool.false)) else Option.some (Sum.inl (p9, Go.IntKind.wrap Go.IntKind.i64 (s6.snd + (1 : Int)))))
                                  (fun (q9 : Bool) => Option.some (Sum.inr (Sum.inr q9))) v8
                        else Option.some (Sum.inr (Sum.inl s6.1)))
                      ((0 : Int), (0 : Int)))
                    fun (v6 : Int ⊕ Bool) =>
                    Sum.elim
                      (fun (p7 : Int) =>
                        Option.bind
                          (Go.Sx.iter
                            (fun (s8 : Int × Int) =>
                              if Decidable.decide (s8.snd < (↑(List.length x.fst) : Int)) = Bool.true then
                                if (0 : Int) ≤ s8.snd ∧ s8.snd < (↑(List.length x.fst) : Int) then
                                  Option.bind (Go.Sx.Q.f17F (List.getD x.fst (Int.toNat s8.snd) (0 : Int))) fun (v9 : Bool) =>
                                    if (!v9) = Bool.true then Option.some (Sum.inl (Go.IntKind.wrap Go.IntKind.i64 (s8.fst + (1 : Int)), Go.IntKind.wrap Go.IntKind.i64 (s8.snd + (1 : Int))))
                                    else Option.some (Sum.inl (s8.1, Go.IntKind.wrap Go.IntKind.i64 (s8.snd + (1 : Int))))
                                else Option.none
                              else Option.some (Sum.inr s8.1))
                            ((0 : Int), (0 : Int)))
                          fun (v8 : Int) => Option.some (p7 == v8))
                      (fun (q7 : Bool) => Option.some q7) v6
theorem Q.f4eq : ∀ x, runFn Q.C Q.f4Γ Q.f4sig Q.f4ann Go.Proofs.Try.f4 x = Q.f4F x := by
  intro x
  kernel_rfl
noncomputable def Q.f4con : Con := ⟨4, Q.f4sig, Q.f4F⟩
theorem Q.f4ok : Con.Ok Go.Proofs.Try.prog Q.C Q.f4con :=
  runFn_ok (Γ := Q.f4Γ) (an := Q.f4ann) ⟨Q.Cok, (List.forall_mem_cons.2 ⟨Q.f6ok, (List.forall_mem_cons.2 ⟨Q.f15ok, (List.forall_mem_cons.2 ⟨Q.f7ok, (List.forall_mem_cons.2 ⟨Q.f16ok, (List.forall_mem_cons.2 ⟨Q.f17ok, (List.forall_mem_cons.2 ⟨Q.f14ok, (fun _ h => nomatch h)⟩)⟩)⟩)⟩)⟩)⟩), Q.mixed⟩ Go.Proofs.Try.func4 rfl rfl (fun x y h => (Q.f4eq x).trans h) (by decide)
def Q.f5sig : Sig := ⟨⟨[.hole (.sl (.int .i64)), .hole (.sl (.int .i64))], []⟩, ⟨[.hole .bool], []⟩⟩
noncomputable def Q.f5Γ : List Con := [Q.f6con, Q.f11con, Q.f17con]
def Q.f5ann : Ann :=
  (.seq .leaf (.seq (.seq .leaf (.cond (.seq .leaf .leaf) .leaf)) (.seq (.seq (.join [⟨.normal, [(21, .hole .bool)], []⟩] .leaf) (.cond (.seq .leaf .leaf) .leaf)) (.seq .leaf (.seq (.seq .leaf (.cond (.seq .leaf .leaf) .leaf)) (.seq .leaf (.seq (.seq .leaf (.block (.loop ⟨.normal, [(6, .hole (.int .i64)), (7, .hole (.int .i64))], []⟩ [⟨(.exit 0), [], []⟩, ⟨.ret, [(4, .hole .bool)], []⟩] (.seq (.seq .leaf (.cond .leaf .leaf)) (.seq (.block (.seq .leaf (.seq (.seq (.join [⟨.normal, [(76, .hole .bool)], []⟩] .leaf) (.cond (.seq .leaf .leaf) .leaf)) (.seq (.seq .leaf (.block (.loop ⟨.normal, [(10, .hole (.int .i64))], []⟩ [⟨(.exit 2), [], []⟩, ⟨.ret, [(4, .hole .bool)], []⟩] (.seq (.seq .leaf (.cond .leaf .leaf)) (.seq (.block (.seq .leaf (.cond (.seq .leaf .leaf) .leaf))) .leaf))))) (.seq (.seq .leaf (.block (.loop ⟨.normal, [(11, .hole (.int .i64))], []⟩ [⟨(.exit 4), [], []⟩, ⟨.ret, [(4, .hole .bool)], []⟩] (.seq (.seq .leaf (.cond .leaf .leaf)) (.seq (.block (.seq (.join [⟨.normal, [(124, .hole .bool)], []⟩] .leaf) (.cond (.seq .leaf .leaf) .leaf))) .leaf))))) (.seq (.seq (.join [⟨.normal, [(144, .hole .bool)], []⟩] .leaf) (.cond (.seq .leaf .leaf) .leaf)) .leaf)))))) .leaf))))) (.seq .leaf .leaf))))))))
/- ductus/ductuslaw08.SeqRuns -/
noncomputable def Q.f5F : List Int × List Int → Option (Bool) :=
  fun (x : List Int × List Int) =>
  Option.bind (Go.Sx.Q.f6F ()) fun (v1 : Bool) =>
    if (!v1) = Bool.true then Option.some Bool.false
    else
      Option.bind
        (if Decidable.decide ((↑(List.length x.fst) : Int) > (300 : Int)) = Bool.true then Option.some Bool.true else Option.some (Decidable.decide ((↑(List.length x.snd) : Int) > (300 : Int))))
        fun (v2 : Bool) =>
        if v2 = Bool.true then Option.some Bool.true
        else
          Option.bind (Go.Sx.Q.f11F (x.1, x.2)) fun (v3 : List (List Int)) =>
            if ((↑(List.length x.fst) : Int) != (↑(List.length x.snd) : Int)) = Bool.true then Option.some ((↑(List.length v3) : Int) == (0 : Int))
            else
              Option.bind
                (Go.Sx.iter
                  (fun (s4 : Int × Int) =>
                    if Decidable.decide (s4.snd < (↑(List.length v3) : Int)) = Bool.true then
                      if (0 : Int) ≤ s4.snd ∧ s4.snd < (↑(List.length v3) : Int) then
                        if (0 : Int) ≤ (0 : Int) ∧ (0 : Int) < (↑(2 : Nat) : Int) then
                          if (0 : Int) ≤ s4.snd ∧ s4.snd < (↑(List.length v3) : Int) then
                            if (0 : Int) ≤ (1 : Int) ∧ (1 : Int) < (↑(2 : Nat) : Int) then
                              Option.bind
                                (if Decidable.decide (List.getD (List.getD v3 (Int.toNat s4.snd) (List.replicate (2 : Nat) (0 : Int))) (Int.toNat (0 : Int)) (0 : Int) ≤ s4.fst) = Bool.true then
                                  Option.some Bool.true
                                else
                                  if
                                      Decidable.decide
                                          (List.getD (List.getD v3 (Int.toNat s4.snd) (List.replicate (2 : Nat) (0 : Int))) (Int.toNat (1 : Int)) (0 : Int) <
                                            List.getD (List.getD v3 (Int.toNat s4.snd) (List.replicate (2 : Nat) (0 : Int))) (Int.toNat (0 : Int)) (0 : Int)) =
                                        Bool.true then
                                    Option.some Bool.true
                                  else
                                    if
                                        Decidable.decide
                                            (List.getD (List.getD v3 (Int.toNat s4.snd) (List.replicate (2 : Nat) (0 : Int))) (Int.toNat (1 : Int)) (0 : Int) ≥ (↑(List.length x.fst) : Int)) =
                                          Bool.true then
                                      Option.some Bool.true
                                    else
                                      if
                                          (0 : Int) ≤ List.getD (List.getD v3 (Int.toNat s4.snd) (List.replicate (2 : Nat) (0 : Int))) (Int.toNat (0 : Int)) (0 : Int) ∧
                                            List.getD (List.getD v3 (Int.toNat s4.snd) (List.replicate (2 : Nat) (0 : Int))) (Int.toNat (0 : Int)) (0 : Int) < (↑(List.length x.fst) : Int) then
                                        Option.bind
                                          (Go.Sx.Q.f17F
                                            (List.getD x.fst (Int.toNat (List.getD (List.getD v3 (Int.toNat s4.snd) (List.replicate (2 : Nat) (0 : Int))) (Int.toNat (0 : Int)) (0 : Int))) (0 : Int)))
                                          fun (v5 : Bool) =>
                                          if v5 = Bool.true then Option.some Bool.true
                                          else
                                            if
                                                (0 : Int) ≤ List.getD (List.getD v3 (Int.toNat s4.snd) (List.replicate (2 : Nat) (0 : Int))) (Int.toNat (1 : Int)) (0 : Int) ∧
                                                  List.getD (List.getD v3 (Int.toNat s4.snd) (List.replicate (2 : Nat) (0 : Int))) (Int.toNat (1 : Int)) (0 : Int) < (↑(List.length x.fst) : Int) then
                                              Option.bind
                                                (Go.Sx.Q.f17F
                                                  (List.getD x.fst (Int.toNat (List.getD (List.getD v3 (Int.toNat s4.snd) (List.replicate (2 : Nat) (0 : Int))) (Int.toNat (1 : Int)) (0 : Int)))
                                                    (0 : Int)))
                                                fun (v6 : Bool) => Option.some v6
                                            else Option.none
                                      else Option.none)
                                fun (v5 : Bool) =>
                                if v5 = Bool.true then Option.some (Sum.inr (Sum.inr Bool.false))
                                else
                                  Option.bind
                                    (Go.Sx.iter
                                      (fun (s6 : Int) =>
                                        if Decidable.decide (s6 < List.getD (List.getD v3 (Int.toNat s4.snd) (List.replicate (2 : Nat) (0 : Int))) (Int.toNat (0 : Int)) (0 : Int)) = Bool.true then
                                          if (0 : Int) ≤ s6 ∧ s6 < (↑(List.length x.fst) : Int) then
                                            Option.bind (Go.Sx.Q.f17F (List.getD x.fst (Int.toNat s6) (0 : Int))) fun (v7 : Bool) =>
                                              if (!v7) = Bool.true then Option.some (Sum.inr (Sum.inr Bool.false)) else Option.some (Sum.inl (Go.IntKind.wrap Go.IntKind.i64 (s6 + (1 : Int))))
                                          else Option.none
                                        else Option.some (Sum.inr (Sum.inl ())))
                                      (Go.IntKind.wrap Go.IntKind.i64 (s4.fst + (1 : Int))))
                                    fun (v6 : PUnit ⊕ Bool) =>
                                    Sum.elim
                                      (fun (p7 : PUnit) =>
                                        Option.bind
                                          (Go.Sx.iter
                                            (fun (s8 : Int) =>
                                              if
                                                  Decidable.decide (s8 ≤ List.getD (List.getD v3 (Int.toNat s4.snd) (List.replicate (2 : Nat) (0 : Int))) (Int.toNat (1 : Int)) (0 : Int)) =
                                                    Bool.true then
                                                Option.bind
                                                  (if (0 : Int) ≤ s8 ∧ s8 < (↑(List.length x.fst) : Int) then
                                                    Option.bind (Go.Sx.Q.f17F (List.getD x.fst (Int.toNat s8) (0 : Int))) fun (v9 : Bool) =>
                                                      if (!v9) = Bool.true then
                                                        if (0 : Int) ≤ s8 ∧ s8 < (↑(List.length x.snd) : Int) then
                                                          if
                                                              (0 : Int) ≤ List.getD (List.getD v3 (Int.toNat s4.snd) (List.replicate (2 : Nat) (0 : Int))) (Int.toNat (0 : Int)) (0 : Int) ∧
                                                                List.getD (List.getD v3 (Int.toNat s4.snd) (List.replicate (2 : Nat) (0 : Int))) (Int.toNat (0 : Int)) (0 : Int) <
                                                                  (↑(List.length x.snd) : Int) then
                                                            if
                                                                (List.getD x.snd (Int.toNat s8) (0 : Int) !=
                                                                    List.getD x.snd
                                                                      (Int.toNat (List.getD (List.getD v3 (Int.toNat s4.snd) (List.replicate (2 : Nat) (0 : Int))) (Int.toNat (0 : Int)) (0 : Int)))
                                                                      (0 : Int)) =
                                                                  Bool.true then
                                                              Option.some Bool.true
                                                            else
                                                              if (0 : Int) ≤ s8 ∧ s8 < (↑(List.length x.fst) : Int) then
                                                                if (List.getD x.fst (Int.toNat s8) (0 : Int) == (10 : Int)) = Bool.true then
                                                                  Option.some (s8 != List.getD (List.getD v3 (Int.toNat s4.snd) (List.replicate (2 : Nat) (0 : Int))) (Int.toNat (1 : Int)) (0 : Int))
                                                                else Option.some Bool.false
                                                              else Option.none
                                                          else Option.none
                                                        else Option.none
                                                      else Option.some Bool.false
                                                  else Option.none)
                                                  fun (v9 : Bool) =>
                                                  if v9 = Bool.true then Option.some (Sum.inr (Sum.inr Bool.false)) else Option.some (Sum.inl (Go.IntKind.wrap Go.IntKind.i64 (s8 + (1 : Int))))
                                              else Option.some (Sum.inr (Sum.inl ())))
                                            (List.getD (List.getD v3 (Int.toNat s4.snd) (List.replicate (2 : Nat) (0 : Int))) (Int.toNat (0 : Int)) (0 : Int)))
                                          fun (v8 : PUnit ⊕ Bool) =>
                                          Sum.elim
                                            (fun (p9 : PUnit) =>
                                              Option.bind
                                                (if Decidable.decide (s4.snd > (0 : Int)) = Bool.true then
                                                  if (0 : Int) ≤ s4.fst ∧ s4.fst < (↑(List.length x.snd) : Int) then
                                                    if
                                                        (0 : Int) ≤ List.getD (List.getD v3 (Int.toNat s4.snd) (List.replicate (2 : Nat) (0 : Int))) (Int.toNat (0 : Int)) (0 : Int) ∧
                                                          List.getD (List.getD v3 (Int.toNat s4.snd) (List.replicate (2 : Nat) (0 : Int))) (Int.toNat (0 : Int)) (0 : Int) <
                                                            (↑(List.length x.snd) : Int) then
                                                      if
                                                          (List.getD x.snd (Int.toNat s4.fst) (0 : Int) ==
                                                              List.getD x.snd
                                                                (Int.toNat (List.getD (List.getD v3 (Int.toNat s4.snd) (List.replicate (2 : Nat) (0 : Int))) (Int.toNat (0 : Int)) (0 : Int)))
                                                                (0 : Int)) =
                                                            Bool.true then
                                                        if (0 : Int) ≤ s4.fst ∧ s4.fst < (↑(List.length x.fst) : Int) then Option.some (List.getD x.fst (Int.toNat s4.fst) (0 : Int) != (10 : Int))
                                                        else Option.none
                                                      else Option.some Bool.false
                                                    else Option.none
                                                  else Option.none
                                                else Option.some Bool.false)
                                                fun (v10 : Bool) =>
                                                if v10 = Bool.true then Option.some (Sum.inr (Sum.inr Bool.false))
                                                else
                                                  Option.some
                                                    (Sum.inl
                                                      (List.getD (List.getD v3 (Int.toNat s4.snd) (List.replicate (2 : Nat) (0 : Int))) (Int.toNat (1 : Int)) (0 : Int),
                                                        Go.IntKind.wrap Go.IntKind.i64 (s4.snd + (1 : Int)))))
                                            (fun (q9 : Bool) => Option.some (Sum.inr (Sum.inr q9))) v8)
                                      (fun (q7 : Bool) => Option.some (Sum.inr (Sum.inr q7))) v6
                            else Option.none
                          else Option.none
                        else Option.none
                      else Option.none
                    else Option.some (Sum.inr (Sum.inl ())))
                  ((-1 : Int), (0 : Int)))
                fun (v4 : PUnit ⊕ Bool) => Sum.elim (fun (p5 : PUnit) => Option.some Bool.true) (fun (q5 : Bool) => Option.some q5) v4
theorem Q.f5eq : ∀ x, runFn Q.C Q.f5Γ Q.f5sig Q.f5ann Go.Proofs.Try.f5 x = Q.f5F x := by
  intro x
  kernel_rfl
noncomputable def Q.f5con : Con := ⟨5, Q.f5sig, Q.f5F⟩
theorem Q.f5ok : Con.Ok Go.Proofs.Try.prog Q.C Q.f5con :=
  runFn_ok (Γ := Q.f5Γ) (an := Q.f5ann) ⟨Q.Cok, (List.forall_mem_cons.2 ⟨Q.f6ok, (List.forall_mem_cons.2 ⟨Q.f11ok, (List.forall_mem_cons.2 ⟨Q.f17ok, (fun _ h => nomatch h)⟩)⟩)⟩), Q.mixed⟩ Go.Proofs.Try.func5 rfl rfl (fun x y h => (Q.f5eq x).trans h) (by decide)
end Go.Sx
