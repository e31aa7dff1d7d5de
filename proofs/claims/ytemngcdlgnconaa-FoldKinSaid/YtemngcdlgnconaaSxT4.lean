import Derived.Test.YtemngcdlgnconaaSxP
import Derived.Test.YtemngcdlgnconaaProg
import Derived.KernelRfl
set_option linter.unusedVariables false
set_option linter.unusedSimpArgs false
namespace Go.Sx
open Go.Proofs

def H.TT : List (TypeId × TI) := [
  (3, ⟨(.int .i64), 1, 8, some (.int .i64), [.val (.int .i64) (0 : Int)]⟩),
  (4, ⟨.bool, 1, 1, some .bool, [.bit false]⟩),
  (5, ⟨(.int .u8), 1, 1, some (.int .u8), [.val (.int .u8) (0 : Int)]⟩),
  (9, ⟨.str, 1, 16, some .str, [.val .str ByteArray.empty]⟩),
  (22, ⟨(.slice 3), 1, 24, some (.sl (.int .i64)), [.nils]⟩),
  (40, ⟨.other, 1, 8, none, [.und]⟩),
  (65, ⟨(.slice 68), 1, 24, some (.sl (.st (.pair (.int .i64) (.pair (.int .i64) (.int .i64))))), [.nils]⟩),
  (68, ⟨(.struct [(3, 0, 1, false), (3, 1, 1, false), (3, 2, 1, false)]), 3, 24, some (.st (.pair (.int .i64) (.pair (.int .i64) (.int .i64)))), [.val (.int .i64) (0 : Int), .val (.int .i64) (0 : Int), .val (.int .i64) (0 : Int)]⟩),
  (94, ⟨(.int .u64), 1, 8, some (.int .u64), [.val (.int .u64) (0 : Int)]⟩),
  (97, ⟨.other, 1, 0, none, [.und]⟩),
  (101, ⟨(.int .i64), 1, 8, some (.int .i64), [.val (.int .i64) (0 : Int)]⟩),
  (102, ⟨.other, 1, 0, none, [.und]⟩),
  (108, ⟨(.int .u32), 1, 4, some (.int .u32), [.val (.int .u32) (0 : Int)]⟩),
  (110, ⟨(.int .u64), 1, 8, some (.int .u64), [.val (.int .u64) (0 : Int)]⟩)]
noncomputable def H.C : Ctx := ⟨H.TT, []⟩
theorem H.Cok : H.C.ok Go.Proofs.Try.prog := checkTT_ok (by kernel_rfl)
theorem H.mixed : Go.Proofs.Try.prog.follows .mixedOrders = true := by kernel_rfl
def H.f46sig : Sig := ⟨⟨[], []⟩, ⟨[.hole (.sl (.st (.pair (.int .i64) (.pair (.int .i64) (.int .i64)))))], []⟩⟩
noncomputable def H.f46Γ : List Con := []
def H.f46ann : Ann :=
  (.seq .leaf (.seq .leaf .leaf))
/- ductus/fold.stretches -/
noncomputable def H.f46F : PUnit → Option (List (Int × Int × Int)) :=
  fun (x : PUnit) =>
  Option.some
    [((65 : Int), (90 : Int), (32 : Int)), ((181 : Int), (181 : Int), (775 : Int)), ((192 : Int), (214 : Int), (32 : Int)), ((216 : Int), (222 : Int), (32 : Int)),
      ((913 : Int), (929 : Int), (32 : Int)), ((931 : Int), (937 : Int), (32 : Int)), ((962 : Int), (962 : Int), (1 : Int)), ((1024 : Int), (1039 : Int), (80 : Int)),
      ((1040 : Int), (1071 : Int), (32 : Int)), ((7838 : Int), (7838 : Int), (-7615 : Int))]
theorem H.f46eq : ∀ x, runFn H.C H.f46Γ H.f46sig H.f46ann Go.Proofs.Try.f46 x = H.f46F x := by
  intro x
  kernel_rfl
noncomputable def H.f46con : Con := ⟨46, H.f46sig, H.f46F⟩
theorem H.f46ok : Con.Ok Go.Proofs.Try.prog H.C H.f46con :=
  runFn_ok (Γ := H.f46Γ) (an := H.f46ann) ⟨H.Cok, (fun _ h => nomatch h), H.mixed⟩ Go.Proofs.Try.func46 rfl rfl (fun x y h => (H.f46eq x).trans h) (by decide)
def H.f22sig : Sig := ⟨⟨[.hole (.int .i64)], []⟩, ⟨[.hole (.int .i64)], []⟩⟩
noncomputable def H.f22Γ : List Con := [H.f46con]
def H.f22ann : Ann :=
  (.seq .leaf (.seq (.seq .leaf (.block (.loop ⟨.normal, [(7, .hole (.int .i64))], []⟩ [⟨(.exit 0), [], []⟩, ⟨.ret, [(2, .hole (.int .i64))], []⟩] (.seq .leaf (.seq (.cond .leaf .leaf) (.seq (.block (.seq .leaf (.seq (.join [⟨.normal, [(20, .hole .bool)], [.cells [.hole (.int .i64), .hole (.int .i64), .hole (.int .i64)]]⟩] .leaf) (.cond (.seq .leaf .leaf) .leaf)))) .leaf)))))) (.seq .leaf .leaf)))
/- ductus/fold.Of -/
noncomputable def H.f22F : Int → Option (Int) :=
  fun (x : Int) =>
  Option.bind (Go.Sx.H.f46F ()) fun (v1 : List (Int × Int × Int)) =>
    Option.bind
      (Go.Sx.iter
        (fun (s2 : Int) =>
          if Decidable.decide (s2 < (↑(List.length v1) : Int)) = Bool.true then
            if (0 : Int) ≤ s2 ∧ s2 < (↑(List.length v1) : Int) then
              Option.bind
                (if Decidable.decide (x ≥ (List.getD v1 (Int.toNat s2) ((0 : Int), (0 : Int), (0 : Int))).fst) = Bool.true then
                  Option.some
                    (Decidable.decide (x ≤ (List.getD v1 (Int.toNat s2) ((0 : Int), (0 : Int), (0 : Int))).snd.fst), (List.getD v1 (Int.toNat s2) ((0 : Int), (0 : Int), (0 : Int))).1,
                      (List.getD v1 (Int.toNat s2) ((0 : Int), (0 : Int), (0 : Int))).snd.1, (List.getD v1 (Int.toNat s2) ((0 : Int), (0 : Int), (0 : Int))).snd.2)
                else
                  Option.some
                    (Bool.false, (List.getD v1 (Int.toNat s2) ((0 : Int), (0 : Int), (0 : Int))).1, (List.getD v1 (Int.toNat s2) ((0 : Int), (0 : Int), (0 : Int))).snd.1,
                      (List.getD v1 (Int.toNat s2) ((0 : Int), (0 : Int), (0 : Int))).snd.2))
                fun (v3 : Bool × Int × Int × Int) =>
                if v3.fst = Bool.true then Option.some (Sum.inr (Sum.inr (Go.IntKind.wrap Go.IntKind.i64 (x + v3.snd.snd.snd))))
                else Option.some (Sum.inl (Go.IntKind.wrap Go.IntKind.i64 (s2 + (1 : Int))))
            else Option.none
          else Option.some (Sum.inr (Sum.inl ())))
        (0 : Int))
      fun (v2 : PUnit ⊕ Int) => Sum.elim (fun (p3 : PUnit) => Option.some x) (fun (q3 : Int) => Option.some q3) v2
theorem H.f22eq : ∀ x, runFn H.C H.f22Γ H.f22sig H.f22ann Go.Proofs.Try.f22 x = H.f22F x := by
  intro x
  kernel_rfl
noncomputable def H.f22con : Con := ⟨22, H.f22sig, H.f22F⟩
theorem H.f22ok : Con.Ok Go.Proofs.Try.prog H.C H.f22con :=
  runFn_ok (Γ := H.f22Γ) (an := H.f22ann) ⟨H.Cok, (List.forall_mem_cons.2 ⟨H.f46ok, (fun _ h => nomatch h)⟩), H.mixed⟩ Go.Proofs.Try.func22 rfl rfl (fun x y h => (H.f22eq x).trans h) (by decide)
def H.f90sig : Sig := ⟨⟨[.hole (.int .u32)], []⟩, ⟨[.hole (.int .i64)], []⟩⟩
noncomputable def H.f90Γ : List Con := []
def H.f90ann : Ann :=
  (.seq .leaf (.seq (.join [⟨.normal, [(0, .hole (.int .u32)), (2, .hole (.int .i64))], []⟩] (.seq .leaf (.cond (.seq .leaf .leaf) .leaf))) (.seq (.join [⟨.normal, [(0, .hole (.int .u32)), (2, .hole (.int .i64))], []⟩] (.seq .leaf (.cond (.seq .leaf .leaf) .leaf))) (.seq .leaf .leaf))))
/- math/bits.Len32 -/
noncomputable def H.f90F : Int → Option (Int) :=
  fun (x : Int) =>
  Option.bind
    (if Decidable.decide (x ≥ (65536 : Int)) = Bool.true then Option.some (Int.fdiv x ((2 : Int) ^ Min.min (Int.toNat (16 : Int)) (Go.IntKind.bits Go.IntKind.u32)), (16 : Int))
    else Option.some (x, (0 : Int)))
    fun (v1 : Int × Int) =>
    Option.bind
      (if Decidable.decide (v1.fst ≥ (256 : Int)) = Bool.true then
        Option.some (Int.fdiv v1.fst ((2 : Int) ^ Min.min (Int.toNat (8 : Int)) (Go.IntKind.bits Go.IntKind.u32)), Go.IntKind.wrap Go.IntKind.i64 (v1.snd + (8 : Int)))
      else Option.some (v1.1, v1.2))
      fun (v2 : Int × Int) =>
      if
          (0 : Int) ≤ Go.IntKind.wrap Go.IntKind.u8 v2.fst ∧
            Go.IntKind.wrap Go.IntKind.u8 v2.fst <
              (↑(ByteArray.size
                    {
                      data :=
                        List.toArray
                          (List.append
                            (List.append
                              [(0 : UInt8), (1 : UInt8), (2 : UInt8), (2 : UInt8), (3 : UInt8), (3 : UInt8), (3 : UInt8), (3 : UInt8), (4 : UInt8), (4 : UInt8), (4 : UInt8), (4 : UInt8), (4 : UInt8),
                                (4 : UInt8), (4 : UInt8), (4 : UInt8), (5 : UInt8), (5 : UInt8), (5 : UInt8), (5 : UInt8), (5 : UInt8), (5 : UInt8), (5 : UInt8), (5 : UInt8), (5 : UInt8), (5 : UInt8),
                                (5 : UInt8), (5 : UInt8), (5 : UInt8), (5 : UInt8), (5 : UInt8), (5 : UInt8), (6 : UInt8), (6 : UInt8), (6 : UInt8), (6 : UInt8), (6 : UInt8), (6 : UInt8), (6 : UInt8),
                                (6 : UInt8), (6 : UInt8), (6 : UInt8), (6 : UInt8), (6 : UInt8), (6 : UInt8), (6 : UInt8), (6 : UInt8), (6 : UInt8), (6 : UInt8), (6 : UInt8), (6 : UInt8), (6 : UInt8),
                                (6 : UInt8), (6 : UInt8), (6 : UInt8), (6 : UInt8), (6 : UInt8), (6 : UInt8), (6 : UInt8), (6 : UInt8), (6 : UInt8), (6 : UInt8), (6 : UInt8), (6 : UInt8)]
                              [(7 : UInt8), (7 : UInt8), (7 : UInt8), (7 : UInt8), (7 : UInt8), (7 : UInt8), (7 : UInt8), (7 : UInt8), (7 : UInt8), (7 : UInt8), (7 : UInt8), (7 : UInt8), (7 : UInt8),
                                (7 : UInt8), (7 : UInt8), (7 : UInt8), (7 : UInt8), (7 : UInt8), (7 : UInt8), (7 : UInt8), (7 : UInt8), (7 : UInt8), (7 : UInt8), (7 : UInt8), (7 : UInt8), (7 : UInt8),
                                (7 : UInt8), (7 : UInt8), (7 : UInt8), (7 : UInt8), (7 : UInt8), (7 : UInt8), (7 : UInt8), (7 : UInt8), (7 : UInt8), (7 : UInt8), (7 : UInt8), (7 : UInt8), (7 : UInt8),
                                (7 : UInt8), (7 : UInt8), (7 : UInt8), (7 : UInt8), (7 : UInt8), (7 : UInt8), (7 : UInt8), (7 : UInt8), (7 : UInt8), (7 : UInt8), (7 : UInt8), (7 : UInt8), (7 : UInt8),
                                (7 : UInt8), (7 : UInt8), (7 : UInt8), (7 : UInt8), (7 : UInt8), (7 : UInt8), (7 : UInt8), (7 : UInt8), (7 : UInt8), (7 : UInt8), (7 : UInt8), (7 : UInt8)])
                            (List.append
                              [(8 : UInt8), (8 : UInt8), (8 : UInt8), (8 : UInt8), (8 : UInt8), (8 : UInt8), (8 : UInt8), (8 : UInt8), (8 : UInt8), (8 : UInt8), (8 : UInt8), (8 : UInt8), (8 : UInt8),
                                (8 : UInt8), (8 : UInt8), (8 : UInt8), (8 : UInt8), (8 : UInt8), (8 : UInt8), (8 : UInt8), (8 : UInt8), (8 : UInt8), (8 : UInt8), (8 : UInt8), (8 : UInt8), (8 : UInt8),
                                (8 : UInt8), (8 : UInt8), (8 : UInt8), (8 : UInt8), (8 : UInt8), (8 : UInt8), (8 : UInt8), (8 : UInt8), (8 : UInt8), (8 : UInt8), (8 : UInt8), (8 : UInt8), (8 : UInt8),
                                (8 : UInt8), (8 : UInt8), (8 : UInt8), (8 : UInt8), (8 : UInt8), (8 : UInt8), (8 : UInt8), (8 : UInt8), (8 : UInt8), (8 : UInt8), (8 : UInt8), (8 : UInt8), (8 : UInt8),
                                (8 : UInt8), (8 : UInt8), (8 : UInt8), (8 : UInt8), (8 : UInt8), (8 : UInt8), (8 : UInt8), (8 : UInt8), (8 : UInt8), (8 : UInt8), (8 : UInt8), (8 : UInt8)]
                              [(8 : UInt8), (8 : UInt8), (8 : UInt8), (8 : UInt8), (8 : UInt8), (8 : UInt8), (8 : UInt8), (8 : UInt8), (8 : UInt8), (8 : UInt8), (8 : UInt8), (8 : UInt8), (8 : UInt8),
                                (8 : UInt8), (8 : UInt8), (8 : UInt8), (8 : UInt8), (8 : UInt8), (8 : UInt8), (8 : UInt8), (8 : UInt8), (8 : UInt8), (8 : UInt8), (8 : UInt8), (8 : UInt8), (8 : UInt8),
                                (8 : UInt8), (8 : UInt8), (8 : UInt8), (8 : UInt8), (8 : UInt8), (8 : UInt8), (8 : UInt8), (8 : UInt8), (8 : UInt8), (8 : UInt8), (8 : UInt8), (8 : UInt8), (8 : UInt8),
                                (8 : UInt8), (8 : UInt8), (8 : UInt8), (8 : UInt8), (8 : UInt8), (8 : UInt8), (8 : UInt8), (8 : UInt8), (8 : UInt8), (8 : UInt8), (8 : UInt8), (8 : UInt8), (8 : UInt8),
                                (8 : UInt8), (8 : UInt8), (8 : UInt8), (8 : UInt8), (8 : UInt8), (8 : UInt8), (8 : UInt8), (8 : UInt8), (8 : UInt8), (8 : UInt8), (8 : UInt8), (8 : UInt8)])) :
                      ByteArray }) :
                Int) then
        Option.some
          (Go.IntKind.wrap Go.IntKind.i64
            (v2.snd +
              Go.IntKind.wrap Go.IntKind.i64
                (↑(UInt8.toNat
                      (List.getD
                        {
                              data :=
                                List.toArray
                                  (List.append
                                    (List.append
                                      [(0 : UInt8), (1 : UInt8), (2 : UInt8), (2 : UInt8), (3 : UInt8), (3 : UInt8), (3 : UInt8), (3 : UInt8), (4 : UInt8), (4 : UInt8), (4 : UInt8), (4 : UInt8),
                                        (4 : UInt8), (4 : UInt8), (4 : UInt8), (4 : UInt8), (5 : UInt8), (5 : UInt8), (5 : UInt8), (5 : UInt8), (5 : UInt8), (5 : UInt8), (5 : UInt8), (5 : UInt8),
                                        (5 : UInt8), (5 : UInt8), (5 : UInt8), (5 : UInt8), (5 : UInt8), (5 : UInt8), (5 : UInt8), (5 : UInt8), (6 : UInt8), (6 : UInt8), (6 : UInt8), (6 : UInt8),
                                        (6 : UInt8), (6 : UInt8), (6 : UInt8), (6 : UInt8), (6 : UInt8), (6 : UInt8), (6 : UInt8), (6 : UInt8), (6 : UInt8), (6 : UInt8), (6 : UInt8), (6 : UInt8),
                                        (6 : UInt8), (6 : UInt8), (6 : UInt8), (6 : UInt8), (6 : UInt8), (6 : UInt8), (6 : UInt8), (6 : UInt8), (6 : UInt8), (6 : UInt8), (6 : UInt8), (6 : UInt8),
                                        (6 : UInt8), (6 : UInt8), (6 : UInt8), (6 : UInt8)]
                                      [(7 : UInt8), (7 : UInt8), (7 : UInt8), (7 : UInt8), (7 : UInt8), (7 : UInt8), (7 : UInt8), (7 : UInt8), (7 : UInt8), (7 : UInt8), (7 : UInt8), (7 : UInt8),
                                        (7 : UInt8), (7 : UInt8), (7 : UInt8), (7 : UInt8), (7 : UInt8), (7 : UInt8), (7 : UInt8), (7 : UInt8), (7 : UInt8), (7 : UInt8), (7 : UInt8), (7 : UInt8),
                                        (7 : UInt8), (7 : UInt8), (7 : UInt8), (7 : UInt8), (7 : UInt8), (7 : UInt8), (7 : UInt8), (7 : UInt8), (7 : UInt8), (7 : UInt8), (7 : UInt8), (7 : UInt8),
                                        (7 : UInt8), (7 : UInt8), (7 : UInt8), (7 : UInt8), (7 : UInt8), (7 : UInt8), (7 : UInt8), (7 : UInt8), (7 : UInt8), (7 : UInt8), (7 : UInt8), (7 : UInt8),
                                        (7 : UInt8), (7 : UInt8), (7 : UInt8), (7 : UInt8), (7 : UInt8), (7 : UInt8), (7 : UInt8), (7 : UInt8), (7 : UInt8), (7 : UInt8), (7 : UInt8), (7 : UInt8),
                                        (7 : UInt8), (7 : UInt8), (7 : UInt8), (7 : UInt8)])
                                    (List.append
                                      [(8 : UInt8), (8 : UInt8), (8 : UInt8), (8 : UInt8), (8 : UInt8), (8 : UInt8), (8 : UInt8), (8 : UInt8), (8 : UInt8), (8 : UInt8), (8 : UInt8), (8 : UInt8),
                                        (8 : UInt8), (8 : UInt8), (8 : UInt8), (8 : UInt8), (8 : UInt8), (8 : UInt8), (8 : UInt8), (8 : UInt8), (8 : UInt8), (8 : UInt8), (8 : UInt8), (8 : UInt8),
                                        (8 : UInt8), (8 : UInt8), (8 : UInt8), (8 : UInt8), (8 : UInt8), (8 : UInt8), (8 : UInt8), (8 : UInt8), (8 : UInt8), (8 : UInt8), (8 : UInt8), (8 : UInt8),
                                        (8 : UInt8), (8 : UInt8), (8 : UInt8), (8 : UInt8), (8 : UInt8), (8 : UInt8), (8 : UInt8), (8 : UInt8), (8 : UInt8), (8 : UInt8), (8 : UInt8), (8 : UInt8),
                                        (8 : UInt8), (8 : UInt8), (8 : UInt8), (8 : UInt8), (8 : UInt8), (8 : UInt8), (8 : UInt8), (8 : UInt8), (8 : UInt8), (8 : UInt8), (8 : UInt8), (8 : UInt8),
                                        (8 : UInt8), (8 : UInt8), (8 : UInt8), (8 : UInt8)]
                                      [(8 : UInt8), (8 : UInt8), (8 : UInt8), (8 : UInt8), (8 : UInt8), (8 : UInt8), (8 : UInt8), (8 : UInt8), (8 : UInt8), (8 : UInt8), (8 : UInt8), (8 : UInt8),
                                        (8 : UInt8), (8 : UInt8), (8 : UInt8), (8 : UInt8), (8 : UInt8), (8 : UInt8), (8 : UInt8), (8 : UInt8), (8 : UInt8), (8 : UInt8), (8 : UInt8), (8 : UInt8),
                                        (8 : UInt8), (8 : UInt8), (8 : UInt8), (8 : UInt8), (8 : UInt8), (8 : UInt8), (8 : UInt8), (8 : UInt8), (8 : UInt8), (8 : UInt8), (8 : UInt8), (8 : UInt8),
                                        (8 : UInt8), (8 : UInt8), (8 : UInt8), (8 : UInt8), (8 : UInt8), (8 : UInt8), (8 : UInt8), (8 : UInt8), (8 : UInt8), (8 : UInt8), (8 : UInt8), (8 : UInt8),
                                        (8 : UInt8), (8 : UInt8), (8 : UInt8), (8 : UInt8), (8 : UInt8), (8 : UInt8), (8 : UInt8), (8 : UInt8), (8 : UInt8), (8 : UInt8), (8 : UInt8), (8 : UInt8),
                                        (8 : UInt8), (8 : UInt8), (8 : UInt8), (8 : UInt8)])) :
                              ByteArray }.data.toList
                        (Int.toNat (Go.IntKind.wrap Go.IntKind.u8 v2.fst)) (0 : UInt8))) :
                  Int)))
      else Option.none
theorem H.f90eq : ∀ x, runFn H.C H.f90Γ H.f90sig H.f90ann Go.Proofs.Try.f90 x = H.f90F x := by
  intro x
  kernel_rfl
noncomputable def H.f90con : Con := ⟨90, H.f90sig, H.f90F⟩
theorem H.f90ok : Con.Ok Go.Proofs.Try.prog H.C H.f90con :=
  runFn_ok (Γ := H.f90Γ) (an := H.f90ann) ⟨H.Cok, (fun _ h => nomatch h), H.mixed⟩ Go.Proofs.Try.func90 rfl rfl (fun x y h => (H.f90eq x).trans h) (by decide)
def H.f91sig : Sig := ⟨⟨[.hole (.int .u64)], []⟩, ⟨[.hole (.int .i64)], []⟩⟩
noncomputable def H.f91Γ : List Con := []
def H.f91ann : Ann :=
  (.seq .leaf (.seq (.join [⟨.normal, [(0, .hole (.int .u64)), (2, .hole (.int .i64))], []⟩] (.seq .leaf (.cond (.seq .leaf .leaf) .leaf))) (.seq (.join [⟨.normal, [(0, .hole (.int .u64)), (2, .hole (.int .i64))], []⟩] (.seq .leaf (.cond (.seq .leaf .leaf) .leaf))) (.seq (.join [⟨.normal, [(0, .hole (.int .u64)), (2, .hole (.int .i64))], []⟩] (.seq .leaf (.cond (.seq .leaf .leaf) .leaf))) (.seq .leaf .leaf)))))
/- math/bits.Len64 -/
noncomputable def H.f91F : Int → Option (Int) :=
  fun (x : Int) =>
  Option.bind
    (if Decidable.decide (x ≥ (4294967296 : Int)) = Bool.true then Option.some (Int.fdiv x ((2 : Int) ^ Min.min (Int.toNat (32 : Int)) (Go.IntKind.bits Go.IntKind.u64)), (32 : Int))
    else Option.some (x, (0 : Int)))
    fun (v1 : Int × Int) =>
    Option.bind
      (if Decidable.decide (v1.fst ≥ (65536 : Int)) = Bool.true then
        Option.some (Int.fdiv v1.fst ((2 : Int) ^ Min.min (Int.toNat (16 : Int)) (Go.IntKind.bits Go.IntKind.u64)), Go.IntKind.wrap Go.IntKind.i64 (v1.snd + (16 : Int)))
      else Option.some (v1.1, v1.2))
      fun (v2 : Int × Int) =>
      Option.bind
        (if Decidable.decide (v2.fst ≥ (256 : Int)) = Bool.true then
          Option.some (Int.fdiv v2.fst ((2 : Int) ^ Min.min (Int.toNat (8 : Int)) (Go.IntKind.bits Go.IntKind.u64)), Go.IntKind.wrap Go.IntKind.i64 (v2.snd + (8 : Int)))
        else Option.some (v2.1, v2.2))
        fun (v3 : Int × Int) =>
        if
            (0 : Int) ≤ Go.IntKind.wrap Go.IntKind.u8 v3.fst ∧
              Go.IntKind.wrap Go.IntKind.u8 v3.fst <
                (↑(ByteArray.size
                      {
                        data :=
                          List.toArray
                            (List.append
                              (List.append
                                [(0 : UInt8), (1 : UInt8), (2 : UInt8), (2 : UInt8), (3 : UInt8), (3 : UInt8), (3 : UInt8), (3 : UInt8), (4 : UInt8), (4 : UInt8), (4 : UInt8), (4 : UInt8),
                                  (4 : UInt8), (4 : UInt8), (4 : UInt8), (4 : UInt8), (5 : UInt8), (5 : UInt8), (5 : UInt8), (5 : UInt8), (5 : UInt8), (5 : UInt8), (5 : UInt8), (5 : UInt8),
                                  (5 : UInt8), (5 : UInt8), (5 : UInt8), (5 : UInt8), (5 : UInt8), (5 : UInt8), (5 : UInt8), (5 : UInt8), (6 : UInt8), (6 : UInt8), (6 : UInt8), (6 : UInt8),
                                  (6 : UInt8), (6 : UInt8), (6 : UInt8), (6 : UInt8), (6 : UInt8), (6 : UInt8), (6 : UInt8), (6 : UInt8), (6 : UInt8), (6 : UInt8), (6 : UInt8), (6 : UInt8),
                                  (6 : UInt8), (6 : UInt8), (6 : UInt8), (6 : UInt8), (6 : UInt8), (6 : UInt8), (6 : UInt8), (6 : UInt8), (6 : UInt8), (6 : UInt8), (6 : UInt8), (6 : UInt8),
                                  (6 : UInt8), (6 : UInt8), (6 : UInt8), (6 : UInt8)]
                                [(7 : UInt8), (7 : UInt8), (7 : UInt8), (7 : UInt8), (7 : UInt8), (7 : UInt8), (7 : UInt8), (7 : UInt8), (7 : UInt8), (7 : UInt8), (7 : UInt8), (7 : UInt8),
                                  (7 : UInt8), (7 : UInt8), (7 : UInt8), (7 : UInt8), (7 : UInt8), (7 : UInt8), (7 : UInt8), (7 : UInt8), (7 : UInt8), (7 : UInt8), (7 : UInt8), (7 : UInt8),
                                  (7 : UInt8), (7 : UInt8), (7 : UInt8), (7 : UInt8), (7 : UInt8), (7 : UInt8), (7 : UInt8), (7 : UInt8), (7 : UInt8), (7 : UInt8), (7 : UInt8), (7 : UInt8),
                                  (7 : UInt8), (7 : UInt8), (7 : UInt8), (7 : UInt8), (7 : UInt8), (7 : UInt8), (7 : UInt8), (7 : UInt8), (7 : UInt8), (7 : UInt8), (7 : UInt8), (7 : UInt8),
                                  (7 : UInt8), (7 : UInt8), (7 : UInt8), (7 : UInt8), (7 : UInt8), (7 : UInt8), (7 : UInt8), (7 : UInt8), (7 : UInt8), (7 : UInt8), (7 : UInt8), (7 : UInt8),
                                  (7 : UInt8), (7 : UInt8), (7 : UInt8), (7 : UInt8)])
                              (List.append
                                [(8 : UInt8), (8 : UInt8), (8 : UInt8), (8 : UInt8), (8 : UInt8), (8 : UInt8), (8 : UInt8), (8 : UInt8), (8 : UInt8), (8 : UInt8), (8 : UInt8), (8 : UInt8),
                                  (8 : UInt8), (8 : UInt8), (8 : UInt8), (8 : UInt8), (8 : UInt8), (8 : UInt8), (8 : UInt8), (8 : UInt8), (8 : UInt8), (8 : UInt8), (8 : UInt8), (8 : UInt8),
                                  (8 : UInt8), (8 : UInt8), (8 : UInt8), (8 : UInt8), (8 : UInt8), (8 : UInt8), (8 : UInt8), (8 : UInt8), (8 : UInt8), (8 : UInt8), (8 : UInt8), (8 : UInt8),
                                  (8 : UInt8), (8 : UInt8), (8 : UInt8), (8 : UInt8), (8 : UInt8), (8 : UInt8), (8 : UInt8), (8 : UInt8), (8 : UInt8), (8 : UInt8), (8 : UInt8), (8 : UInt8),
                                  (8 : UInt8), (8 : UInt8), (8 : UInt8), (8 : UInt8), (8 : UInt8), (8 : UInt8), (8 : UInt8), (8 : UInt8), (8 : UInt8), (8 : UInt8), (8 : UInt8), (8 : UInt8),
                                  (8 : UInt8), (8 : UInt8), (8 : UInt8), (8 : UInt8)]
                                [(8 : UInt8), (8 : UInt8), (8 : UInt8), (8 : UInt8), (8 : UInt8), (8 : UInt8), (8 : UInt8), (8 : UInt8), (8 : UInt8), (8 : UInt8), (8 : UInt8), (8 : UInt8),
                                  (8 : UInt8), (8 : UInt8), (8 : UInt8), (8 : UInt8), (8 : UInt8), (8 : UInt8), (8 : UInt8), (8 : UInt8), (8 : UInt8), (8 : UInt8), (8 : UInt8), (8 : UInt8),
                                  (8 : UInt8), (8 : UInt8), (8 : UInt8), (8 : UInt8), (8 : UInt8), (8 : UInt8), (8 : UInt8), (8 : UInt8), (8 : UInt8), (8 : UInt8), (8 : UInt8), (8 : UInt8),
                                  (8 : UInt8), (8 : UInt8), (8 : UInt8), (8 : UInt8), (8 : UInt8), (8 : UInt8), (8 : UInt8), (8 : UInt8), (8 : UInt8), (8 : UInt8), (8 : UInt8), (8 : UInt8),
                                  (8 : UInt8), (8 : UInt8), (8 : UInt8), (8 : UInt8), (8 : UInt8), (8 : UInt8), (8 : UInt8), (8 : UInt8), (8 : UInt8), (8 : UInt8), (8 : UInt8), (8 : UInt8),
                                  (8 : UInt8), (8 : UInt8), (8 : UInt8), (8 : UInt8)])) :
                        ByteArray }) :
                  Int) then
          Option.some
            (Go.IntKind.wrap Go.IntKind.i64
              (v3.snd +
                Go.IntKind.wrap Go.IntKind.i64
                  (↑(UInt8.toNat
                        (List.getD
                          {
                                data :=
                                  List.toArray
                                    (List.append
                                      (List.append
                                        [(0 : UInt8), (1 : UInt8), (2 : UInt8), (2 : UInt8), (3 : UInt8), (3 : UInt8), (3 : UInt8), (3 : UInt8), (4 : UInt8), (4 : UInt8), (4 : UInt8), (4 : UInt8),
                                          (4 : UInt8), (4 : UInt8), (4 : UInt8), (4 : UInt8), (5 : UInt8), (5 : UInt8), (5 : UInt8), (5 : UInt8), (5 : UInt8), (5 : UInt8), (5 : UInt8), (5 : UInt8),
                                          (5 : UInt8), (5 : UInt8), (5 : UInt8), (5 : UInt8), (5 : UInt8), (5 : UInt8), (5 : UInt8), (5 : UInt8), (6 : UInt8), (6 : UInt8), (6 : UInt8), (6 : UInt8),
                                          (6 : UInt8), (6 : UInt8), (6 : UInt8), (6 : UInt8), (6 : UInt8), (6 : UInt8), (6 : UInt8), (6 : UInt8), (6 : UInt8), (6 : UInt8), (6 : UInt8), (6 : UInt8),
                                          (6 : UInt8), (6 : UInt8), (6 : UInt8), (6 : UInt8), (6 : UInt8), (6 : UInt8), (6 : UInt8), (6 : UInt8), (6 : UInt8), (6 : UInt8), (6 : UInt8), (6 : UInt8),
                                          (6 : UInt8), (6 : UInt8), (6 : UInt8), (6 : UInt8)]
                                        [(7 : UInt8), (7 : UInt8), (7 : UInt8), (7 : UInt8), (7 : UInt8), (7 : UInt8), (7 : UInt8), (7 : UInt8), (7 : UInt8), (7 : UInt8), (7 : UInt8), (7 : UInt8),
                                          (7 : UInt8), (7 : UInt8), (7 : UInt8), (7 : UInt8), (7 : UInt8), (7 : UInt8), (7 : UInt8), (7 : UInt8), (7 : UInt8), (7 : UInt8), (7 : UInt8), (7 : UInt8),
                                          (7 : UInt8), (7 : UInt8), (7 : UInt8), (7 : UInt8), (7 : UInt8), (7 : UInt8), (7 : UInt8), (7 : UInt8), (7 : UInt8), (7 : UInt8), (7 : UInt8), (7 : UInt8),
                                          (7 : UInt8), (7 : UInt8), (7 : UInt8), (7 : UInt8), (7 : UInt8), (7 : UInt8), (7 : UInt8), (7 : UInt8), (7 : UInt8), (7 : UInt8), (7 : UInt8), (7 : UInt8),
                                          (7 : UInt8), (7 : UInt8), (7 : UInt8), (7 : UInt8), (7 : UInt8), (7 : UInt8), (7 : UInt8), (7 : UInt8), (7 : UInt8), (7 : UInt8), (7 : UInt8), (7 : UInt8),
                                          (7 : UInt8), (7 : UInt8), (7 : UInt8), (7 : UInt8)])
                                      (List.append
                                        [(8 : UInt8), (8 : UInt8), (8 : UInt8), (8 : UInt8), (8 : UInt8), (8 : UInt8), (8 : UInt8), (8 : UInt8), (8 : UInt8), (8 : UInt8), (8 : UInt8), (8 : UInt8),
                                          (8 : UInt8), (8 : UInt8), (8 : UInt8), (8 : UInt8), (8 : UInt8), (8 : UInt8), (8 : UInt8), (8 : UInt8), (8 : UInt8), (8 : UInt8), (8 : UInt8), (8 : UInt8),
                                          (8 : UInt8), (8 : UInt8), (8 : UInt8), (8 : UInt8), (8 : UInt8), (8 : UInt8), (8 : UInt8), (8 : UInt8), (8 : UInt8), (8 : UInt8), (8 : UInt8), (8 : UInt8),
                                          (8 : UInt8), (8 : UInt8), (8 : UInt8), (8 : UInt8), (8 : UInt8), (8 : UInt8), (8 : UInt8), (8 : UInt8), (8 : UInt8), (8 : UInt8), (8 : UInt8), (8 : UInt8),
                                          (8 : UInt8), (8 : UInt8), (8 : UInt8), (8 : UInt8), (8 : UInt8), (8 : UInt8), (8 : UInt8), (8 : UInt8), (8 : UInt8), (8 : UInt8), (8 : UInt8), (8 : UInt8),
                                          (8 : UInt8), (8 : UInt8), (8 : UInt8), (8 : UInt8)]
                                        [(8 : UInt8), (8 : UInt8), (8 : UInt8), (8 : UInt8), (8 : UInt8), (8 : UInt8), (8 : UInt8), (8 : UInt8), (8 : UInt8), (8 : UInt8), (8 : UInt8), (8 : UInt8),
                                          (8 : UInt8), (8 : UInt8), (8 : UInt8), (8 : UInt8), (8 : UInt8), (8 : UInt8), (8 : UInt8), (8 : UInt8), (8 : UInt8), (8 : UInt8), (8 : UInt8), (8 : UInt8),
                                          (8 : UInt8), (8 : UInt8), (8 : UInt8), (8 : UInt8), (8 : UInt8), (8 : UInt8), (8 : UInt8), (8 : UInt8), (8 : UInt8), (8 : UInt8), (8 : UInt8), (8 : UInt8),
                                          (8 : UInt8), (8 : UInt8), (8 : UInt8), (8 : UInt8), (8 : UInt8), (8 : UInt8), (8 : UInt8), (8 : UInt8), (8 : UInt8), (8 : UInt8), (8 : UInt8), (8 : UInt8),
                                          (8 : UInt8), (8 : UInt8), (8 : UInt8), (8 : UInt8), (8 : UInt8), (8 : UInt8), (8 : UInt8), (8 : UInt8), (8 : UInt8), (8 : UInt8), (8 : UInt8), (8 : UInt8),
                                          (8 : UInt8), (8 : UInt8), (8 : UInt8), (8 : UInt8)])) :
                                ByteArray }.data.toList
                          (Int.toNat (Go.IntKind.wrap Go.IntKind.u8 v3.fst)) (0 : UInt8))) :
                    Int)))
        else Option.none
theorem H.f91eq : ∀ x, runFn H.C H.f91Γ H.f91sig H.f91ann Go.Proofs.Try.f91 x = H.f91F x := by
  intro x
  kernel_rfl
noncomputable def H.f91con : Con := ⟨91, H.f91sig, H.f91F⟩
theorem H.f91ok : Con.Ok Go.Proofs.Try.prog H.C H.f91con :=
  runFn_ok (Γ := H.f91Γ) (an := H.f91ann) ⟨H.Cok, (fun _ h => nomatch h), H.mixed⟩ Go.Proofs.Try.func91 rfl rfl (fun x y h => (H.f91eq x).trans h) (by decide)
def H.f73sig : Sig := ⟨⟨[.hole (.int .u64)], []⟩, ⟨[.hole (.int .i64)], []⟩⟩
noncomputable def H.f73Γ : List Con := [H.f90con, H.f91con]
def H.f73ann : Ann :=
  (.seq .leaf (.seq (.cond .leaf .leaf) (.seq .leaf .leaf)))
/- math/bits.Len -/
noncomputable def H.f73F : Int → Option (Int) :=
  fun (x : Int) => Option.bind (Go.Sx.H.f91F x) fun (v1 : Int) => Option.some v1
theorem H.f73eq : ∀ x, runFn H.C H.f73Γ H.f73sig H.f73ann Go.Proofs.Try.f73 x = H.f73F x := by
  intro x
  kernel_rfl
noncomputable def H.f73con : Con := ⟨73, H.f73sig, H.f73F⟩
theorem H.f73ok : Con.Ok Go.Proofs.Try.prog H.C H.f73con :=
  runFn_ok (Γ := H.f73Γ) (an := H.f73ann) ⟨H.Cok, (List.forall_mem_cons.2 ⟨H.f90ok, (List.forall_mem_cons.2 ⟨H.f91ok, (fun _ h => nomatch h)⟩)⟩), H.mixed⟩ Go.Proofs.Try.func73 rfl rfl (fun x y h => (H.f73eq x).trans h) (by decide)
def H.f106sig : Sig := ⟨⟨[.hole (.int .i64)], []⟩, ⟨[.hole .bool], []⟩⟩
noncomputable def H.f106Γ : List Con := []
def H.f106ann : Ann :=
  (.seq .leaf (.seq .leaf .leaf))
/- cmp.isNaN[int] -/
noncomputable def H.f106F : Int → Option (Bool) :=
  fun (x : Int) => Option.some (x != x)
theorem H.f106eq : ∀ x, runFn H.C H.f106Γ H.f106sig H.f106ann Go.Proofs.Try.f106 x = H.f106F x := by
  intro x
  kernel_rfl
noncomputable def H.f106con : Con := ⟨106, H.f106sig, H.f106F⟩
theorem H.f106ok : Con.Ok Go.Proofs.Try.prog H.C H.f106con :=
  runFn_ok (Γ := H.f106Γ) (an := H.f106ann) ⟨H.Cok, (fun _ h => nomatch h), H.mixed⟩ Go.Proofs.Try.func106 rfl rfl (fun x y h => (H.f106eq x).trans h) (by decide)
def H.f87sig : Sig := ⟨⟨[.hole (.int .i64), .hole (.int .i64)], []⟩, ⟨[.hole .bool], []⟩⟩
noncomputable def H.f87Γ : List Con := [H.f106con]
def H.f87ann : Ann :=
  (.seq .leaf (.seq .leaf .leaf))
/- cmp.Less[int] -/
noncomputable def H.f87F : Int × Int → Option (Bool) :=
  fun (x : Int × Int) =>
  Option.bind (Go.Sx.H.f106F x.1) fun (v1 : Bool) =>
    if v1 = Bool.true then Option.bind (Go.Sx.H.f106F x.2) fun (v2 : Bool) => if (!v2) = Bool.true then Option.some Bool.true else Option.some (Decidable.decide (x.fst < x.snd))
    else Option.some (Decidable.decide (x.fst < x.snd))
theorem H.f87eq : ∀ x, runFn H.C H.f87Γ H.f87sig H.f87ann Go.Proofs.Try.f87 x = H.f87F x := by
  intro x
  kernel_rfl
noncomputable def H.f87con : Con := ⟨87, H.f87sig, H.f87F⟩
theorem H.f87ok : Con.Ok Go.Proofs.Try.prog H.C H.f87con :=
  runFn_ok (Γ := H.f87Γ) (an := H.f87ann) ⟨H.Cok, (List.forall_mem_cons.2 ⟨H.f106ok, (fun _ h => nomatch h)⟩), H.mixed⟩ Go.Proofs.Try.func87 rfl rfl (fun x y h => (H.f87eq x).trans h) (by decide)
def H.f81sig : Sig := ⟨⟨[.own 0, .hole (.int .i64), .hole (.int .i64)], [.arr 3 (.int .i64)]⟩, ⟨[], [.arr 3 (.int .i64)]⟩⟩
noncomputable def H.f81Γ : List Con := [H.f87con]
def H.f81ann : Ann :=
  (.seq .leaf (.block (.loop ⟨.normal, [(6, .hole (.int .i64))], [.arr 3 (.int .i64)]⟩ [⟨(.exit 0), [], [.arr 3 (.int .i64)]⟩] (.seq (.seq .leaf (.cond .leaf .leaf)) (.seq (.block (.seq .leaf (.block (.loop ⟨.normal, [(7, .hole (.int .i64))], [.arr 3 (.int .i64)]⟩ [⟨(.exit 2), [], [.arr 3 (.int .i64)]⟩] (.seq (.seq (.join [⟨.normal, [(30, .hole .bool)], [.arr 3 (.int .i64)]⟩] .leaf) (.cond .leaf .leaf)) (.seq (.block (.eff 1 [] [0, 0, 0, 0, 8, 0, 0, 64, 224, 480, 0, 0, 3072, 7168, 16355, 32739, 65535, 131071])) .leaf)))))) .leaf)))))
/- slices.insertionSortOrdered[int] -/
noncomputable def H.f81F : Int × Int × List Int → Option (List Int) :=
  fun (x : Int × Int × List Int) =>
  Option.bind
    (Go.Sx.iter
      (fun (s1 : Int × List Int) =>
        if Decidable.decide (s1.fst < x.snd.fst) = Bool.true then
          Option.bind
            (Go.Sx.iter
              (fun (s2 : Int × List Int) =>
                Option.bind
                  (if Decidable.decide (s2.fst > x.fst) = Bool.true then
                    if (0 : Int) ≤ s2.fst ∧ s2.fst < (↑(List.length s2.snd) : Int) then
                      if (0 : Int) ≤ Go.IntKind.wrap Go.IntKind.i64 (s2.fst - (1 : Int)) ∧ Go.IntKind.wrap Go.IntKind.i64 (s2.fst - (1 : Int)) < (↑(List.length s2.snd) : Int) then
                        Option.bind (Go.Sx.H.f87F (List.getD s2.2 (Int.toNat s2.fst) (0 : Int), List.getD s2.2 (Int.toNat (Go.IntKind.wrap Go.IntKind.i64 (s2.fst - (1 : Int)))) (0 : Int)))
                          fun (v3 : Bool) => Option.some (v3, s2.2)
                      else Option.none
                    else Option.none
                  else Option.some (Bool.false, s2.2))
                  fun (v3 : Bool × List Int) =>
                  if v3.fst = Bool.true then
                    if (0 : Int) ≤ Go.IntKind.wrap Go.IntKind.i64 (s2.fst - (1 : Int)) ∧ Go.IntKind.wrap Go.IntKind.i64 (s2.fst - (1 : Int)) < (↑(List.length v3.snd) : Int) then
                      if (0 : Int) ≤ s2.fst ∧ s2.fst < (↑(List.length v3.snd) : Int) then
                        if (0 : Int) ≤ s2.fst ∧ s2.fst < (↑(List.length v3.snd) : Int) then
                          if
                              (0 : Int) ≤ Go.IntKind.wrap Go.IntKind.i64 (s2.fst - (1 : Int)) ∧
                                Go.IntKind.wrap Go.IntKind.i64 (s2.fst - (1 : Int)) <
                                  (↑(List.length (List.set v3.2 (Int.toNat s2.fst) (List.getD v3.2 (Int.toNat (Go.IntKind.wrap Go.IntKind.i64 (s2.fst - (1 : Int)))) (0 : Int)))) : Int) then
                            Option.some
                              (Sum.inl
                                (Go.IntKind.wrap Go.IntKind.i64 (s2.fst - (1 : Int)),
                                  List.set (List.set v3.2 (Int.toNat s2.fst) (List.getD v3.2 (Int.toNat (Go.IntKind.wrap Go.IntKind.i64 (s2.fst - (1 : Int)))) (0 : Int)))
                                    (Int.toNat (Go.IntKind.wrap Go.IntKind.i64 (s2.fst - (1 : Int)))) (List.getD v3.2 (Int.toNat s2.fst) (0 : Int))))
                          else Option.none
                        else Option.none
                      else Option.none
                    else Option.none
                  else Option.some (Sum.inr v3.2))
              (s1.1, s1.2))
            fun (v2 : List Int) => Option.some (Sum.inl (Go.IntKind.wrap Go.IntKind.i64 (s1.fst + (1 : Int)), v2))
        else Option.some (Sum.inr s1.2))
      (Go.IntKind.wrap Go.IntKind.i64 (x.fst + (1 : Int)), x.snd.2))
    fun (v1 : List Int) => Option.some v1
theorem H.f81eq : ∀ x, runFn H.C H.f81Γ H.f81sig H.f81ann Go.Proofs.Try.f81 x = H.f81F x := by
  intro x
  kernel_rfl
noncomputable def H.f81con : Con := ⟨81, H.f81sig, H.f81F⟩
theorem H.f81ok : Con.Ok Go.Proofs.Try.prog H.C H.f81con :=
  runFn_ok (Γ := H.f81Γ) (an := H.f81ann) ⟨H.Cok, (List.forall_mem_cons.2 ⟨H.f87ok, (fun _ h => nomatch h)⟩), H.mixed⟩ Go.Proofs.Try.func81 rfl rfl (fun x y h => (H.f81eq x).trans h) (by decide)
def H.f72sig : Sig := ⟨⟨[.own 0, .hole (.int .i64), .hole (.int .i64), .hole (.int .i64)], [.arr 3 (.int .i64)]⟩, ⟨[], [.arr 3 (.int .i64)]⟩⟩
noncomputable def H.f72Γ : List Con := [H.f81con, H.f87con]
def H.f72ann : Ann :=
  (.seq .leaf (.seq .leaf (.block (.loop ⟨.normal, [(3, .hole (.int .i64)), (1, .hole (.int .i64)), (9, .hole .bool), (8, .hole .bool), (2, .hole (.int .i64))], [.arr 3 (.int .i64)]⟩ [⟨.ret, [], [.arr 3 (.int .i64)]⟩] (.block (.seq .leaf (.seq (.seq .leaf (.cond (.seq .leaf .leaf) .leaf)) (.seq (.seq .leaf (.cond (.seq .leaf .leaf) .leaf)) (.seq (.seq .leaf (.cond (.seq .leaf .leaf) .leaf)) (.seq .leaf .leaf))))))))))
/- slices.pdqsortOrdered[int] -/
noncomputable def H.f72F : Int × Int × Int × List Int → Option (List Int) :=
  fun (x : Int × Int × Int × List Int) =>
  Option.bind
    (Go.Sx.iter
      (fun (s1 : Int × Int × Bool × Bool × Int × List Int) =>
        if Decidable.decide (Go.IntKind.wrap Go.IntKind.i64 (s1.snd.snd.snd.snd.fst - s1.snd.fst) ≤ (12 : Int)) = Bool.true then
          Option.bind (Go.Sx.H.f81F (s1.snd.1, s1.snd.snd.snd.snd.1, s1.snd.snd.snd.snd.2)) fun (v2 : List Int) => Option.some (Sum.inr v2)
        else if (s1.fst == (0 : Int)) = Bool.true then Option.none else if (!s1.snd.snd.snd.fst) = Bool.true then Option.none else Option.none)
      (x.snd.snd.1, x.1, Bool.true, Bool.true, x.snd.1, x.snd.snd.2))
    fun (v1 : List Int) => Option.some v1
theorem H.f72eq : ∀ x, runFn H.C H.f72Γ H.f72sig H.f72ann Go.Proofs.Try.f72 x = H.f72F x := by
  intro x
  kernel_rfl
noncomputable def H.f72con : Con := ⟨72, H.f72sig, H.f72F⟩
theorem H.f72ok : Con.Ok Go.Proofs.Try.prog H.C H.f72con :=
  runFn_ok (Γ := H.f72Γ) (an := H.f72ann) ⟨H.Cok, (List.forall_mem_cons.2 ⟨H.f81ok, (List.forall_mem_cons.2 ⟨H.f87ok, (fun _ h => nomatch h)⟩)⟩), H.mixed⟩ Go.Proofs.Try.func72 rfl rfl (fun x y h => (H.f72eq x).trans h) (by decide)
def H.f49sig : Sig := ⟨⟨[.own 0], [.arr 3 (.int .i64)]⟩, ⟨[], [.arr 3 (.int .i64)]⟩⟩
noncomputable def H.f49Γ : List Con := [H.f73con, H.f72con]
def H.f49ann : Ann :=
  (.seq .leaf .leaf)
/- slices.Sort[[]int,int] -/
noncomputable def H.f49F : List Int → Option (List Int) :=
  fun (x : List Int) =>
  Option.bind (Go.Sx.H.f73F (Go.IntKind.wrap Go.IntKind.u64 (↑(List.length x) : Int))) fun (v1 : Int) =>
    Option.bind (Go.Sx.H.f72F ((0 : Int), (↑(List.length x) : Int), v1, x)) fun (v2 : List Int) => Option.some v2
theorem H.f49eq : ∀ x, runFn H.C H.f49Γ H.f49sig H.f49ann Go.Proofs.Try.f49 x = H.f49F x := by
  intro x
  kernel_rfl
noncomputable def H.f49con : Con := ⟨49, H.f49sig, H.f49F⟩
theorem H.f49ok : Con.Ok Go.Proofs.Try.prog H.C H.f49con :=
  runFn_ok (Γ := H.f49Γ) (an := H.f49ann) ⟨H.Cok, (List.forall_mem_cons.2 ⟨H.f73ok, (List.forall_mem_cons.2 ⟨H.f72ok, (fun _ h => nomatch h)⟩)⟩), H.mixed⟩ Go.Proofs.Try.func49 rfl rfl (fun x y h => (H.f49eq x).trans h) (by decide)
def H.f29sig : Sig := ⟨⟨[.hole (.int .i64)], []⟩, ⟨[.hole (.sl (.int .i64))], []⟩⟩
noncomputable def H.f29Γ : List Con := [H.f22con, H.f46con, H.f49con]
def H.f29ann : Ann :=
  (.seq .leaf (.seq .leaf (.seq .leaf (.seq (.seq .leaf (.block (.loop ⟨.normal, [(4, .own 1), (14, .hole (.int .i64))], [.gone, .arr 3 (.int .i64)]⟩ [⟨(.exit 0), [(4, .own 1)], [.gone, .arr 3 (.int .i64)]⟩] (.seq .leaf (.seq (.cond .leaf .leaf) (.seq (.block (.seq .leaf (.seq .leaf (.seq (.join [⟨.normal, [(31, .hole .bool)], [.gone, .arr 3 (.int .i64), .gone]⟩] .leaf) (.cond .leaf .leaf))))) .leaf)))))) (.seq .leaf (.seq .leaf .leaf))))))
/- ductus/fold.Kin -/
noncomputable def H.f29F : Int → Option (List Int) :=
  fun (x : Int) =>
  Option.bind (Go.Sx.H.f22F x) fun (v1 : Int) =>
    Option.bind (Go.Sx.H.f46F ()) fun (v2 : List (Int × Int × Int)) =>
      Option.bind
        (Go.Sx.iter
          (fun (s3 : Int × List Int) =>
            if Decidable.decide (s3.fst < (↑(List.length v2) : Int)) = Bool.true then
              if (0 : Int) ≤ s3.fst ∧ s3.fst < (↑(List.length v2) : Int) then
                Option.bind
                  (if
                      Decidable.decide
                          (Go.IntKind.wrap Go.IntKind.i64 (v1 - (List.getD v2 (Int.toNat s3.fst) ((0 : Int), (0 : Int), (0 : Int))).snd.snd) ≥
                            (List.getD v2 (Int.toNat s3.fst) ((0 : Int), (0 : Int), (0 : Int))).fst) =
                        Bool.true then
                    Option.some
                      (Decidable.decide
                          (Go.IntKind.wrap Go.IntKind.i64 (v1 - (List.getD v2 (Int.toNat s3.fst) ((0 : Int), (0 : Int), (0 : Int))).snd.snd) ≤
                            (List.getD v2 (Int.toNat s3.fst) ((0 : Int), (0 : Int), (0 : Int))).snd.fst),
                        s3.2)
                  else Option.some (Bool.false, s3.2))
                  fun (v4 : Bool × List Int) =>
                  if v4.fst = Bool.true then
                    if
                        Go.Sx.roomOk (List.length v4.snd + List.length [Go.IntKind.wrap Go.IntKind.i64 (v1 - (List.getD v2 (Int.toNat s3.fst) ((0 : Int), (0 : Int), (0 : Int))).snd.snd)])
                          { kind := Go.Sx.TK.int Go.IntKind.i64, size := (1 : Nat), bytes := (8 : Nat), ty := Option.some (Go.Sx.Ty.int Go.IntKind.i64),
                              zero := [Go.Sx.SV.val (Go.Sx.Ty.int Go.IntKind.i64) (0 : Int)] : Go.Sx.TI }.bytes then
                      Option.some
                        (Sum.inl
                          (Go.IntKind.wrap Go.IntKind.i64 (s3.fst + (1 : Int)),
                            v4.2 ++ [Go.IntKind.wrap Go.IntKind.i64 (v1 - (List.getD v2 (Int.toNat s3.fst) ((0 : Int), (0 : Int), (0 : Int))).snd.snd)]))
                    else Option.none
                  else Option.some (Sum.inl (Go.IntKind.wrap Go.IntKind.i64 (s3.fst + (1 : Int)), v4.2))
              else Option.none
            else Option.some (Sum.inr s3.2))
          ((0 : Int), [v1]))
        fun (v3 : List Int) => Option.bind (Go.Sx.H.f49F v3) fun (v4 : List Int) => Option.some v4
theorem H.f29eq : ∀ x, runFn H.C H.f29Γ H.f29sig H.f29ann Go.Proofs.Try.f29 x = H.f29F x := by
  intro x
  kernel_rfl
noncomputable def H.f29con : Con := ⟨29, H.f29sig, H.f29F⟩
theorem H.f29ok : Con.Ok Go.Proofs.Try.prog H.C H.f29con :=
  runFn_ok (Γ := H.f29Γ) (an := H.f29ann) ⟨H.Cok, (List.forall_mem_cons.2 ⟨H.f22ok, (List.forall_mem_cons.2 ⟨H.f46ok, (List.forall_mem_cons.2 ⟨H.f49ok, (fun _ h => nomatch h)⟩)⟩)⟩), H.mixed⟩ Go.Proofs.Try.func29 rfl rfl (fun x y h => (H.f29eq x).trans h) (by decide)
def H.f24sig : Sig := ⟨⟨[.hole (.sl (.int .i64)), .hole (.sl (.int .i64))], []⟩, ⟨[.hole .bool], []⟩⟩
noncomputable def H.f24Γ : List Con := []
def H.f24ann : Ann :=
  (.seq .leaf (.seq (.seq .leaf (.cond (.seq .leaf .leaf) .leaf)) (.seq (.seq .leaf (.block (.loop ⟨.normal, [(5, .hole (.int .i64))], []⟩ [⟨(.exit 0), [], []⟩, ⟨.ret, [(4, .hole .bool)], []⟩] (.seq (.seq .leaf (.cond .leaf .leaf)) (.seq (.block (.seq .leaf (.cond (.seq .leaf .leaf) .leaf))) .leaf))))) (.seq .leaf .leaf))))
/- ductus/ductusref01.Ints -/
noncomputable def H.f24F : List Int × List Int → Option (Bool) :=
  fun (x : List Int × List Int) =>
  if ((↑(List.length x.fst) : Int) != (↑(List.length x.snd) : Int)) = Bool.true then Option.some Bool.false
  else
    Option.bind
      (Go.Sx.iter
        (fun (s1 : Int) =>
          if Decidable.decide (s1 < (↑(List.length x.fst) : Int)) = Bool.true then
            if (0 : Int) ≤ s1 ∧ s1 < (↑(List.length x.fst) : Int) then
              if (0 : Int) ≤ s1 ∧ s1 < (↑(List.length x.snd) : Int) then
                if (List.getD x.fst (Int.toNat s1) (0 : Int) != List.getD x.snd (Int.toNat s1) (0 : Int)) = Bool.true then Option.some (Sum.inr (Sum.inr Bool.false))
                else Option.some (Sum.inl (Go.IntKind.wrap Go.IntKind.i64 (s1 + (1 : Int))))
              else Option.none
            else Option.none
          else Option.some (Sum.inr (Sum.inl ())))
        (0 : Int))
      fun (v1 : PUnit ⊕ Bool) => Sum.elim (fun (p2 : PUnit) => Option.some Bool.true) (fun (q2 : Bool) => Option.some q2) v1
theorem H.f24eq : ∀ x, runFn H.C H.f24Γ H.f24sig H.f24ann Go.Proofs.Try.f24 x = H.f24F x := by
  intro x
  kernel_rfl
noncomputable def H.f24con : Con := ⟨24, H.f24sig, H.f24F⟩
theorem H.f24ok : Con.Ok Go.Proofs.Try.prog H.C H.f24con :=
  runFn_ok (Γ := H.f24Γ) (an := H.f24ann) ⟨H.Cok, (fun _ h => nomatch h), H.mixed⟩ Go.Proofs.Try.func24 rfl rfl (fun x y h => (H.f24eq x).trans h) (by decide)
def H.f25sig : Sig := ⟨⟨[.hole (.sl (.int .i64))], []⟩, ⟨[.hole (.sl (.int .i64))], []⟩⟩
noncomputable def H.f25Γ : List Con := [H.f22con]
def H.f25ann : Ann :=
  (.seq .leaf (.seq .leaf (.seq (.seq .leaf (.block (.loop ⟨.normal, [(3, .own 0), (8, .hole (.int .i64))], [.arr 3 (.int .i64)]⟩ [⟨(.exit 0), [(3, .own 0)], [.arr 3 (.int .i64)]⟩] (.seq .leaf (.seq (.cond .leaf .leaf) (.seq (.block (.seq .leaf .leaf)) .leaf)))))) (.seq .leaf .leaf))))
/- ductus/fold.All -/
noncomputable def H.f25F : List Int → Option (List Int) :=
  fun (x : List Int) =>
  Option.bind
    (Go.Sx.iter
      (fun (s1 : Int × List Int) =>
        if Decidable.decide (s1.fst < (↑(List.length x) : Int)) = Bool.true then
          if (0 : Int) ≤ s1.fst ∧ s1.fst < (↑(List.length x) : Int) then
            Option.bind (Go.Sx.H.f22F (List.getD x (Int.toNat s1.fst) (0 : Int))) fun (v2 : Int) =>
              if
                  Go.Sx.roomOk (List.length s1.snd + List.length [v2])
                    { kind := Go.Sx.TK.int Go.IntKind.i64, size := (1 : Nat), bytes := (8 : Nat), ty := Option.some (Go.Sx.Ty.int Go.IntKind.i64),
                        zero := [Go.Sx.SV.val (Go.Sx.Ty.int Go.IntKind.i64) (0 : Int)] : Go.Sx.TI }.bytes then
                Option.some (Sum.inl (Go.IntKind.wrap Go.IntKind.i64 (s1.fst + (1 : Int)), s1.2 ++ [v2]))
              else Option.none
          else Option.none
        else Option.some (Sum.inr s1.2))
      ((0 : Int), []))
    fun (v1 : List Int) => Option.some v1
theorem H.f25eq : ∀ x, runFn H.C H.f25Γ H.f25sig H.f25ann Go.Proofs.Try.f25 x = H.f25F x := by
  intro x
  kernel_rfl
noncomputable def H.f25con : Con := ⟨25, H.f25sig, H.f25F⟩
theorem H.f25ok : Con.Ok Go.Proofs.Try.prog H.C H.f25con :=
  runFn_ok (Γ := H.f25Γ) (an := H.f25ann) ⟨H.Cok, (List.forall_mem_cons.2 ⟨H.f22ok, (fun _ h => nomatch h)⟩), H.mixed⟩ Go.Proofs.Try.func25 rfl rfl (fun x y h => (H.f25eq x).trans h) (by decide)
def H.f48sig : Sig := ⟨⟨[.hole (.int .i64), .hole (.int .i64)], []⟩, ⟨[.hole .bool], []⟩⟩
noncomputable def H.f48Γ : List Con := [H.f22con]
def H.f48ann : Ann :=
  (.seq .leaf (.seq .leaf .leaf))
/- ductus/fold.Same$1 -/
noncomputable def H.f48F : Int × Int → Option (Bool) :=
  fun (x : Int × Int) => Option.bind (Go.Sx.H.f22F x.1) fun (v1 : Int) => Option.bind (Go.Sx.H.f22F x.2) fun (v2 : Int) => Option.some (v1 == v2)
theorem H.f48eq : ∀ x, runFn H.C H.f48Γ H.f48sig H.f48ann Go.Proofs.Try.f48 x = H.f48F x := by
  intro x
  kernel_rfl
noncomputable def H.f48con : Con := ⟨48, H.f48sig, H.f48F⟩
theorem H.f48ok : Con.Ok Go.Proofs.Try.prog H.C H.f48con :=
  runFn_ok (Γ := H.f48Γ) (an := H.f48ann) ⟨H.Cok, (List.forall_mem_cons.2 ⟨H.f22ok, (fun _ h => nomatch h)⟩), H.mixed⟩ Go.Proofs.Try.func48 rfl rfl (fun x y h => (H.f48eq x).trans h) (by decide)
def H.s0sig : Sig := ⟨⟨[.hole (.sl (.int .i64)), .hole (.sl (.int .i64)), .fnc 48 0], []⟩, ⟨[.hole .bool], []⟩⟩
noncomputable def H.s0Γ : List Con := [H.f48con]
def H.s0ann : Ann :=
  (.seq .leaf (.seq (.seq .leaf (.cond (.seq .leaf .leaf) .leaf)) (.seq (.seq .leaf (.block (.loop ⟨.normal, [(17, .hole (.int .i64))], []⟩ [⟨(.exit 0), [], []⟩, ⟨.ret, [(6, .hole .bool)], []⟩] (.seq .leaf (.seq (.cond .leaf .leaf) (.seq (.block (.seq .leaf (.seq .leaf (.seq .leaf (.cond (.seq .leaf .leaf) .leaf))))) .leaf)))))) (.seq .leaf .leaf))))
/- slices.EqualFunc[[]int,[]int,int,int] -/
noncomputable def H.s0F : List Int × List Int → Option (Bool) :=
  fun (x : List Int × List Int) =>
  if ((↑(List.length x.fst) : Int) != (↑(List.length x.snd) : Int)) = Bool.true then Option.some Bool.false
  else
    Option.bind
      (Go.Sx.iter
        (fun (s1 : Int) =>
          if Decidable.decide (s1 < (↑(List.length x.fst) : Int)) = Bool.true then
            if (0 : Int) ≤ s1 ∧ s1 < (↑(List.length x.fst) : Int) then
              if (0 : Int) ≤ s1 ∧ s1 < (↑(List.length x.snd) : Int) then
                Option.bind (Go.Sx.H.f48F (List.getD x.fst (Int.toNat s1) (0 : Int), List.getD x.snd (Int.toNat s1) (0 : Int))) fun (v2 : Bool) =>
                  if (!v2) = Bool.true then Option.some (Sum.inr (Sum.inr Bool.false)) else Option.some (Sum.inl (Go.IntKind.wrap Go.IntKind.i64 (s1 + (1 : Int))))
              else Option.none
            else Option.none
          else Option.some (Sum.inr (Sum.inl ())))
        (0 : Int))
      fun (v1 : PUnit ⊕ Bool) => Sum.elim (fun (p2 : PUnit) => Option.some Bool.true) (fun (q2 : Bool) => Option.some q2) v1
theorem H.s0eq : ∀ x, runFn H.C H.s0Γ H.s0sig H.s0ann Go.Proofs.Try.f47 x = H.s0F x := by
  intro x
  kernel_rfl
noncomputable def H.s0con : Con := ⟨47, H.s0sig, H.s0F⟩
theorem H.s0ok : Con.Ok Go.Proofs.Try.prog H.C H.s0con :=
  runFn_ok (Γ := H.s0Γ) (an := H.s0ann) ⟨H.Cok, (List.forall_mem_cons.2 ⟨H.f48ok, (fun _ h => nomatch h)⟩), H.mixed⟩ Go.Proofs.Try.func47 rfl rfl (fun x y h => (H.s0eq x).trans h) (by decide)
def H.f27sig : Sig := ⟨⟨[.hole (.sl (.int .i64)), .hole (.sl (.int .i64))], []⟩, ⟨[.hole .bool], []⟩⟩
noncomputable def H.f27Γ : List Con := [H.s0con, H.f48con]
def H.f27ann : Ann :=
  (.seq .leaf (.seq .leaf .leaf))
/- ductus/fold.Same -/
noncomputable def H.f27F : List Int × List Int → Option (Bool) :=
  fun (x : List Int × List Int) => Option.bind (Go.Sx.H.s0F (x.1, x.2)) fun (v1 : Bool) => Option.some v1
theorem H.f27eq : ∀ x, runFn H.C H.f27Γ H.f27sig H.f27ann Go.Proofs.Try.f27 x = H.f27F x := by
  intro x
  kernel_rfl
noncomputable def H.f27con : Con := ⟨27, H.f27sig, H.f27F⟩
theorem H.f27ok : Con.Ok Go.Proofs.Try.prog H.C H.f27con :=
  runFn_ok (Γ := H.f27Γ) (an := H.f27ann) ⟨H.Cok, (List.forall_mem_cons.2 ⟨H.s0ok, (List.forall_mem_cons.2 ⟨H.f48ok, (fun _ h => nomatch h)⟩)⟩), H.mixed⟩ Go.Proofs.Try.func27 rfl rfl (fun x y h => (H.f27eq x).trans h) (by decide)
def H.f21sig : Sig := ⟨⟨[], []⟩, ⟨[.hole .bool], []⟩⟩
noncomputable def H.f21Γ : List Con := [H.f22con, H.f29con, H.f24con, H.f25con, H.f27con]
def H.f21ann : Ann :=
  (.seq .leaf (.seq .leaf .leaf))
/- ductus/ductuslaw04.alive -/
noncomputable def H.f21F : PUnit → Option (Bool) :=
  fun (x : PUnit) =>
  Option.bind (Go.Sx.H.f22F (65 : Int)) fun (v1 : Int) =>
    if (v1 == (97 : Int)) = Bool.true then
      Option.bind (Go.Sx.H.f22F (962 : Int)) fun (v2 : Int) =>
        if (v2 == (963 : Int)) = Bool.true then
          Option.bind (Go.Sx.H.f29F (963 : Int)) fun (v3 : List Int) =>
            Option.bind (Go.Sx.H.f24F (v3, [(931 : Int), (962 : Int), (963 : Int)])) fun (v4 : Bool) =>
              if v4 = Bool.true then
                Option.bind (Go.Sx.H.f25F [(65 : Int), (49 : Int)]) fun (v5 : List Int) =>
                  Option.bind (Go.Sx.H.f24F (v5, [(97 : Int), (49 : Int)])) fun (v6 : Bool) =>
                    if v6 = Bool.true then
                      Option.bind (Go.Sx.H.f27F ([(65 : Int)], [(97 : Int)])) fun (v7 : Bool) =>
                        if v7 = Bool.true then Option.bind (Go.Sx.H.f27F ([(65 : Int)], [(98 : Int)])) fun (v8 : Bool) => Option.some !v8 else Option.some Bool.false
                    else Option.some Bool.false
              else Option.some Bool.false
        else Option.some Bool.false
    else Option.some Bool.false
theorem H.f21eq : ∀ x, runFn H.C H.f21Γ H.f21sig H.f21ann Go.Proofs.Try.f21 x = H.f21F x := by
  intro x
  kernel_rfl
noncomputable def H.f21con : Con := ⟨21, H.f21sig, H.f21F⟩
theorem H.f21ok : Con.Ok Go.Proofs.Try.prog H.C H.f21con :=
  runFn_ok (Γ := H.f21Γ) (an := H.f21ann) ⟨H.Cok, (List.forall_mem_cons.2 ⟨H.f22ok, (List.forall_mem_cons.2 ⟨H.f29ok, (List.forall_mem_cons.2 ⟨H.f24ok, (List.forall_mem_cons.2 ⟨H.f25ok, (List.forall_mem_cons.2 ⟨H.f27ok, (fun _ h => nomatch h)⟩)⟩)⟩)⟩)⟩), H.mixed⟩ Go.Proofs.Try.func21 rfl rfl (fun x y h => (H.f21eq x).trans h) (by decide)
def H.f23sig : Sig := ⟨⟨[.hole (.int .i64)], []⟩, ⟨[.hole (.int .i64)], []⟩⟩
noncomputable def H.f23Γ : List Con := []
def H.f23ann : Ann :=
  (.seq .leaf (.seq (.block (.seq (.join [⟨.normal, [(3, .hole .bool)], []⟩] (.seq (.join [⟨.normal, [(3, .hole .bool)], []⟩] .leaf) (.cond .leaf (.seq (.join [⟨.normal, [(3, .hole .bool)], []⟩] .leaf) (.cond .leaf (.seq (.join [⟨.normal, [(3, .hole .bool)], []⟩] .leaf) (.cond .leaf (.seq (.join [⟨.normal, [(3, .hole .bool)], []⟩] .leaf) (.cond .leaf (.seq (.join [⟨.normal, [(3, .hole .bool)], []⟩] .leaf) (.cond .leaf .leaf))))))))))) (.cond (.seq .leaf .leaf) (.seq (.join [⟨.normal, [(42, .hole .bool)], []⟩] .leaf) (.cond (.seq .leaf .leaf) (.seq .leaf (.cond (.seq .leaf .leaf) (.seq .leaf (.cond (.seq .leaf .leaf) (.seq .leaf (.cond (.seq .leaf .leaf) .leaf))))))))))) (.seq .leaf .leaf)))
/- ductus/ductusref04.Of -/
noncomputable def H.f23F : Int → Option (Int) :=
  fun (x : Int) =>
  Option.bind
    (Option.bind (if Decidable.decide (x ≥ (65 : Int)) = Bool.true then Option.some (Decidable.decide (x ≤ (90 : Int))) else Option.some Bool.false) fun (v1 : Bool) =>
      if v1 = Bool.true then Option.some Bool.true
      else
        Option.bind (if Decidable.decide (x ≥ (192 : Int)) = Bool.true then Option.some (Decidable.decide (x ≤ (214 : Int))) else Option.some Bool.false) fun (v2 : Bool) =>
          if v2 = Bool.true then Option.some Bool.true
          else
            Option.bind (if Decidable.decide (x ≥ (216 : Int)) = Bool.true then Option.some (Decidable.decide (x ≤ (222 : Int))) else Option.some Bool.false) fun (v3 : Bool) =>
              if v3 = Bool.true then Option.some Bool.true
              else
                Option.bind (if Decidable.decide (x ≥ (913 : Int)) = Bool.true then Option.some (Decidable.decide (x ≤ (929 : Int))) else Option.some Bool.false) fun (v4 : Bool) =>
                  if v4 = Bool.true then Option.some Bool.true
                  else
                    Option.bind (if Decidable.decide (x ≥ (931 : Int)) = Bool.true then Option.some (Decidable.decide (x ≤ (937 : Int))) else Option.some Bool.false) fun (v5 : Bool) =>
                      if v5 = Bool.true then Option.some Bool.true
                      else if Decidable.decide (x ≥ (1040 : Int)) = Bool.true then Option.some (Decidable.decide (x ≤ (1071 : Int))) else Option.some Bool.false)
    fun (v1 : Bool) =>
    if v1 = Bool.true then Option.some (Go.IntKind.wrap Go.IntKind.i64 (x + (32 : Int)))
    else
      Option.bind (if Decidable.decide (x ≥ (1024 : Int)) = Bool.true then Option.some (Decidable.decide (x ≤ (1039 : Int))) else Option.some Bool.false) fun (v2 : Bool) =>
        if v2 = Bool.true then Option.some (Go.IntKind.wrap Go.IntKind.i64 (x + (80 : Int)))
        else
          if (x == (181 : Int)) = Bool.true then Option.some (956 : Int)
          else if (x == (962 : Int)) = Bool.true then Option.some (963 : Int) else if (x == (7838 : Int)) = Bool.true then Option.some (223 : Int) else Option.some x
theorem H.f23eq : ∀ x, runFn H.C H.f23Γ H.f23sig H.f23ann Go.Proofs.Try.f23 x = H.f23F x := by
  intro x
  kernel_rfl
noncomputable def H.f23con : Con := ⟨23, H.f23sig, H.f23F⟩
theorem H.f23ok : Con.Ok Go.Proofs.Try.prog H.C H.f23con :=
  runFn_ok (Γ := H.f23Γ) (an := H.f23ann) ⟨H.Cok, (fun _ h => nomatch h), H.mixed⟩ Go.Proofs.Try.func23 rfl rfl (fun x y h => (H.f23eq x).trans h) (by decide)
def H.f26sig : Sig := ⟨⟨[.hole (.sl (.int .i64))], []⟩, ⟨[.hole (.sl (.int .i64))], []⟩⟩
noncomputable def H.f26Γ : List Con := [H.f23con]
def H.f26ann : Ann :=
  (.seq .leaf (.seq .leaf (.seq (.seq .leaf (.block (.loop ⟨.normal, [(3, .own 0), (4, .hole (.int .i64))], [.arr 3 (.int .i64)]⟩ [⟨(.exit 0), [(3, .own 0)], [.arr 3 (.int .i64)]⟩] (.seq (.seq .leaf (.cond .leaf .leaf)) (.seq (.block .leaf) .leaf))))) (.seq .leaf .leaf))))
/- ductus/ductusref04.All -/
noncomputable def H.f26F : List Int → Option (List Int) :=
  fun (x : List Int) =>
  Option.bind
    (Go.Sx.iter
      (fun (s1 : Int × List Int) =>
        if Decidable.decide (s1.fst < (↑(List.length x) : Int)) = Bool.true then
          if (0 : Int) ≤ s1.fst ∧ s1.fst < (↑(List.length x) : Int) then
            Option.bind (Go.Sx.H.f23F (List.getD x (Int.toNat s1.fst) (0 : Int))) fun (v2 : Int) =>
              if
                  Go.Sx.roomOk (List.length s1.snd + List.length [v2])
                    { kind := Go.Sx.TK.int Go.IntKind.i64, size := (1 : Nat), bytes := (8 : Nat), ty := Option.some (Go.Sx.Ty.int Go.IntKind.i64),
                        zero := [Go.Sx.SV.val (Go.Sx.Ty.int Go.IntKind.i64) (0 : Int)] : Go.Sx.TI }.bytes then
                Option.some (Sum.inl (Go.IntKind.wrap Go.IntKind.i64 (s1.fst + (1 : Int)), s1.2 ++ [v2]))
              else Option.none
          else Option.none
        else Option.some (Sum.inr s1.2))
      ((0 : Int), []))
    fun (v1 : List Int) => Option.some v1
theorem H.f26eq : ∀ x, runFn H.C H.f26Γ H.f26sig H.f26ann Go.Proofs.Try.f26 x = H.f26F x := by
  intro x
  kernel_rfl
noncomputable def H.f26con : Con := ⟨26, H.f26sig, H.f26F⟩
theorem H.f26ok : Con.Ok Go.Proofs.Try.prog H.C H.f26con :=
  runFn_ok (Γ := H.f26Γ) (an := H.f26ann) ⟨H.Cok, (List.forall_mem_cons.2 ⟨H.f23ok, (fun _ h => nomatch h)⟩), H.mixed⟩ Go.Proofs.Try.func26 rfl rfl (fun x y h => (H.f26eq x).trans h) (by decide)
def H.f28sig : Sig := ⟨⟨[.hole (.sl (.int .i64)), .hole (.sl (.int .i64))], []⟩, ⟨[.hole .bool], []⟩⟩
noncomputable def H.f28Γ : List Con := [H.f26con, H.f24con]
def H.f28ann : Ann :=
  (.seq .leaf (.seq .leaf .leaf))
/- ductus/ductusref04.Same -/
noncomputable def H.f28F : List Int × List Int → Option (Bool) :=
  fun (x : List Int × List Int) =>
  Option.bind (Go.Sx.H.f26F x.1) fun (v1 : List Int) => Option.bind (Go.Sx.H.f26F x.2) fun (v2 : List Int) => Option.bind (Go.Sx.H.f24F (v1, v2)) fun (v3 : Bool) => Option.some v3
theorem H.f28eq : ∀ x, runFn H.C H.f28Γ H.f28sig H.f28ann Go.Proofs.Try.f28 x = H.f28F x := by
  intro x
  kernel_rfl
noncomputable def H.f28con : Con := ⟨28, H.f28sig, H.f28F⟩
theorem H.f28ok : Con.Ok Go.Proofs.Try.prog H.C H.f28con :=
  runFn_ok (Γ := H.f28Γ) (an := H.f28ann) ⟨H.Cok, (List.forall_mem_cons.2 ⟨H.f26ok, (List.forall_mem_cons.2 ⟨H.f24ok, (fun _ h => nomatch h)⟩)⟩), H.mixed⟩ Go.Proofs.Try.func28 rfl rfl (fun x y h => (H.f28eq x).trans h) (by decide)
def H.f50sig : Sig := ⟨⟨[.hole (.sl (.int .i64)), .hole (.int .i64)], []⟩, ⟨[.hole (.sl (.int .i64))], []⟩⟩
noncomputable def H.f50Γ : List Con := []
def H.f50ann : Ann :=
  (.seq .leaf (.seq .leaf (.seq (.block (.loop ⟨.normal, [(5, .hole (.int .i64))], []⟩ [⟨(.exit 0), [(5, .hole (.int .i64))], []⟩] (.seq (.seq (.join [⟨.normal, [(17, .hole .bool)], []⟩] .leaf) (.cond .leaf .leaf)) (.block .leaf)))) (.seq (.seq (.join [⟨.normal, [(31, .hole .bool)], []⟩] .leaf) (.cond (.seq .leaf .leaf) .leaf)) (.seq (.eff 4 [6] [0, 0, 0, 6, 15, 0, 32, 127, 0, 0, 768, 2047, 4095]) .leaf)))))
/- ductus/ductusref04.put -/
noncomputable def H.f50F : List Int × Int → Option (List Int) :=
  fun (x : List Int × Int) =>
  Option.bind
    (Go.Sx.iter
      (fun (s1 : Int) =>
        Option.bind
          (if Decidable.decide (s1 < (↑(List.length x.fst) : Int)) = Bool.true then
            if (0 : Int) ≤ s1 ∧ s1 < (↑(List.length x.fst) : Int) then Option.some (Decidable.decide (List.getD x.fst (Int.toNat s1) (0 : Int) < x.snd)) else Option.none
          else Option.some Bool.false)
          fun (v2 : Bool) => if v2 = Bool.true then Option.some (Sum.inl (Go.IntKind.wrap Go.IntKind.i64 (s1 + (1 : Int)))) else Option.some (Sum.inr s1))
      (0 : Int))
    fun (v1 : Int) =>
    Option.bind
      (if Decidable.decide (v1 < (↑(List.length x.fst) : Int)) = Bool.true then
        if (0 : Int) ≤ v1 ∧ v1 < (↑(List.length x.fst) : Int) then Option.some (List.getD x.fst (Int.toNat v1) (0 : Int) == x.snd) else Option.none
      else Option.some Bool.false)
      fun (v2 : Bool) =>
      if v2 = Bool.true then Option.some x.1
      else
        if (0 : Int) ≤ v1 ∧ v1 ≤ (↑(List.length x.fst) : Int) then
          if
              Go.Sx.roomOk ((0 : Nat) + List.length (List.take (Int.toNat v1) x.fst))
                { kind := Go.Sx.TK.int Go.IntKind.i64, size := (1 : Nat), bytes := (8 : Nat), ty := Option.some (Go.Sx.Ty.int Go.IntKind.i64),
                    zero := [Go.Sx.SV.val (Go.Sx.Ty.int Go.IntKind.i64) (0 : Int)] : Go.Sx.TI }.bytes then
            if
                Go.Sx.roomOk (List.length ([] ++ List.take (Int.toNat v1) x.fst) + List.length [x.2])
                  { kind := Go.Sx.TK.int Go.IntKind.i64, size := (1 : Nat), bytes := (8 : Nat), ty := Option.some (Go.Sx.Ty.int Go.IntKind.i64),
                      zero := [Go.Sx.SV.val (Go.Sx.Ty.int Go.IntKind.i64) (0 : Int)] : Go.Sx.TI }.bytes then
              if (0 : Int) ≤ v1 ∧ v1 ≤ (↑(List.length x.fst) : Int) then
                if
                    Go.Sx.roomOk (List.length ([] ++ List.take (Int.toNat v1) x.fst ++ [x.2]) + List.length (List.drop (Int.toNat v1) x.fst))
                      { kind := Go.Sx.TK.int Go.IntKind.i64, size := (1 : Nat), bytes := (8 : Nat), ty := Option.some (Go.Sx.Ty.int Go.IntKind.i64),
                          zero := [Go.Sx.SV.val (Go.Sx.Ty.int Go.IntKind.i64) (0 : Int)] : Go.Sx.TI }.bytes then
                  Option.some ([] ++ List.take (Int.toNat v1) x.fst ++ [x.2] ++ List.drop (Int.toNat v1) x.fst)
                else Option.none
              else Option.none
            else Option.none
          else Option.none
        else Option.none
theorem H.f50eq : ∀ x, runFn H.C H.f50Γ H.f50sig H.f50ann Go.Proofs.Try.f50 x = H.f50F x := by
  intro x
  kernel_rfl
noncomputable def H.f50con : Con := ⟨50, H.f50sig, H.f50F⟩
theorem H.f50ok : Con.Ok Go.Proofs.Try.prog H.C H.f50con :=
  runFn_ok (Γ := H.f50Γ) (an := H.f50ann) ⟨H.Cok, (fun _ h => nomatch h), H.mixed⟩ Go.Proofs.Try.func50 rfl rfl (fun x y h => (H.f50eq x).trans h) (by decide)
def H.f30sig : Sig := ⟨⟨[.hole (.int .i64)], []⟩, ⟨[.hole (.sl (.int .i64))], []⟩⟩
noncomputable def H.f30Γ : List Con := [H.f23con, H.f50con]
def H.f30ann : Ann :=
  (.seq .leaf (.seq .leaf (.seq .leaf (.seq (.seq .leaf (.block (.loop ⟨.normal, [(4, .hole (.sl (.int .i64))), (5, .hole (.int .i64))], []⟩ [⟨(.exit 0), [(4, .hole (.sl (.int .i64)))], []⟩] (.seq (.seq .leaf (.cond .leaf .leaf)) (.seq (.block (.seq (.join [⟨.normal, [(31, .hole .bool)], []⟩] .leaf) (.cond .leaf .leaf))) .leaf))))) (.seq .leaf .leaf)))))
/- ductus/ductusref04.Kin -/
noncomputable def H.f30F : Int → Option (List Int) :=
  fun (x : Int) =>
  Option.bind (Go.Sx.H.f23F x) fun (v1 : Int) =>
    Option.bind
      (Go.Sx.iter
        (fun (s2 : List Int × Int) =>
          if Decidable.decide (s2.snd < (7936 : Int)) = Bool.true then
            Option.bind
              (if (s2.snd != x) = Bool.true then
                if (s2.snd != v1) = Bool.true then
                  Option.bind (Go.Sx.H.f23F s2.2) fun (v3 : Int) =>
                    if (v3 != s2.snd) = Bool.true then Option.bind (Go.Sx.H.f23F s2.2) fun (v4 : Int) => Option.some (v4 == v1) else Option.some Bool.false
                else Option.some Bool.false
              else Option.some Bool.false)
              fun (v3 : Bool) =>
              if v3 = Bool.true then Option.bind (Go.Sx.H.f50F (s2.1, s2.2)) fun (v4 : List Int) => Option.some (Sum.inl (v4, Go.IntKind.wrap Go.IntKind.i64 (s2.snd + (1 : Int))))
              else Option.some (Sum.inl (s2.1, Go.IntKind.wrap Go.IntKind.i64 (s2.snd + (1 : Int))))
          else Option.some (Sum.inr s2.1))
        ([], (0 : Int)))
      fun (v2 : List Int) => Option.bind (Go.Sx.H.f50F (v2, x)) fun (v3 : List Int) => Option.bind (Go.Sx.H.f50F (v3, v1)) fun (v4 : List Int) => Option.some v4
theorem H.f30eq : ∀ x, runFn H.C H.f30Γ H.f30sig H.f30ann Go.Proofs.Try.f30 x = H.f30F x := by
  intro x
  kernel_rfl
noncomputable def H.f30con : Con := ⟨30, H.f30sig, H.f30F⟩
theorem H.f30ok : Con.Ok Go.Proofs.Try.prog H.C H.f30con :=
  runFn_ok (Γ := H.f30Γ) (an := H.f30ann) ⟨H.Cok, (List.forall_mem_cons.2 ⟨H.f23ok, (List.forall_mem_cons.2 ⟨H.f50ok, (fun _ h => nomatch h)⟩)⟩), H.mixed⟩ Go.Proofs.Try.func30 rfl rfl (fun x y h => (H.f30eq x).trans h) (by decide)
def H.f7sig : Sig := ⟨⟨[.hole (.int .i64), .hole (.sl (.int .i64)), .hole (.sl (.int .i64))], []⟩, ⟨[.hole .bool], []⟩⟩
noncomputable def H.f7Γ : List Con := [H.f21con, H.f22con, H.f23con, H.f25con, H.f26con, H.f24con, H.f27con, H.f28con, H.f29con, H.f30con]
def H.f7ann : Ann :=
  (.seq .leaf (.seq (.seq .leaf (.cond (.seq .leaf .leaf) .leaf)) (.seq (.seq (.join [⟨.normal, [(16, .hole .bool)], []⟩] .leaf) (.cond (.seq .leaf .leaf) .leaf)) (.seq .leaf .leaf))))
/- ductus/ductuslaw04.FoldAnswers -/
noncomputable def H.f7F : Int × List Int × List Int → Option (Bool) :=
  fun (x : Int × List Int × List Int) =>
  Option.bind (Go.Sx.H.f21F ()) fun (v1 : Bool) =>
    if (!v1) = Bool.true then Option.some Bool.false
    else
      Option.bind
        (if Decidable.decide ((↑(List.length x.snd.fst) : Int) > (5000 : Int)) = Bool.true then Option.some Bool.true
        else Option.some (Decidable.decide ((↑(List.length x.snd.snd) : Int) > (5000 : Int))))
        fun (v2 : Bool) =>
        if v2 = Bool.true then Option.some Bool.true
        else
          Option.bind (Go.Sx.H.f22F x.1) fun (v3 : Int) =>
            Option.bind (Go.Sx.H.f23F x.1) fun (v4 : Int) =>
              if (v3 == v4) = Bool.true then
                Option.bind (Go.Sx.H.f25F x.snd.1) fun (v5 : List Int) =>
                  Option.bind (Go.Sx.H.f26F x.snd.1) fun (v6 : List Int) =>
                    Option.bind (Go.Sx.H.f24F (v5, v6)) fun (v7 : Bool) =>
                      if v7 = Bool.true then
                        Option.bind (Go.Sx.H.f27F (x.snd.1, x.snd.2)) fun (v8 : Bool) =>
                          Option.bind (Go.Sx.H.f28F (x.snd.1, x.snd.2)) fun (v9 : Bool) =>
                            if (v8 == v9) = Bool.true then
                              Option.bind (Go.Sx.H.f29F x.1) fun (v10 : List Int) =>
                                Option.bind (Go.Sx.H.f30F x.1) fun (v11 : List Int) => Option.bind (Go.Sx.H.f24F (v10, v11)) fun (v12 : Bool) => Option.some v12
                            else Option.some Bool.false
                      else Option.some Bool.false
              else Option.some Bool.false
theorem H.f7eq : ∀ x, runFn H.C H.f7Γ H.f7sig H.f7ann Go.Proofs.Try.f7 x = H.f7F x := by
  intro x
  kernel_rfl
noncomputable def H.f7con : Con := ⟨7, H.f7sig, H.f7F⟩
theorem H.f7ok : Con.Ok Go.Proofs.Try.prog H.C H.f7con :=
  runFn_ok (Γ := H.f7Γ) (an := H.f7ann) ⟨H.Cok, (List.forall_mem_cons.2 ⟨H.f21ok, (List.forall_mem_cons.2 ⟨H.f22ok, (List.forall_mem_cons.2 ⟨H.f23ok, (List.forall_mem_cons.2 ⟨H.f25ok, (List.forall_mem_cons.2 ⟨H.f26ok, (List.forall_mem_cons.2 ⟨H.f24ok, (List.forall_mem_cons.2 ⟨H.f27ok, (List.forall_mem_cons.2 ⟨H.f28ok, (List.forall_mem_cons.2 ⟨H.f29ok, (List.forall_mem_cons.2 ⟨H.f30ok, (fun _ h => nomatch h)⟩)⟩)⟩)⟩)⟩)⟩)⟩)⟩)⟩)⟩), H.mixed⟩ Go.Proofs.Try.func7 rfl rfl (fun x y h => (H.f7eq x).trans h) (by decide)
def H.f8sig : Sig := ⟨⟨[.hole (.int .i64), .hole (.int .i64)], []⟩, ⟨[.hole .bool], []⟩⟩
noncomputable def H.f8Γ : List Con := [H.f21con, H.f29con, H.f22con]
def H.f8ann : Ann :=
  (.seq .leaf (.seq (.seq .leaf (.cond (.seq .leaf .leaf) .leaf)) (.seq .leaf (.seq .leaf (.seq (.seq .leaf (.block (.loop ⟨.normal, [(6, .hole .bool), (7, .hole (.int .i64))], []⟩ [⟨(.exit 0), [(6, .hole .bool)], []⟩, ⟨.ret, [(4, .hole .bool)], []⟩] (.seq (.seq .leaf (.cond .leaf .leaf)) (.seq (.block (.seq (.seq (.join [⟨.normal, [(41, .hole .bool)], []⟩] .leaf) (.cond (.seq .leaf .leaf) .leaf)) .leaf)) .leaf))))) (.seq .leaf .leaf))))))
/- ductus/ductuslaw04.FoldKin -/
noncomputable def H.f8F : Int × Int → Option (Bool) :=
  fun (x : Int × Int) =>
  Option.bind (Go.Sx.H.f21F ()) fun (v1 : Bool) =>
    if (!v1) = Bool.true then Option.some Bool.false
    else
      Option.bind (Go.Sx.H.f29F x.1) fun (v2 : List Int) =>
        Option.bind
          (Go.Sx.iter
            (fun (s3 : Bool × Int) =>
              if Decidable.decide (s3.snd < (↑(List.length v2) : Int)) = Bool.true then
                Option.bind
                  (if (0 : Int) ≤ s3.snd ∧ s3.snd < (↑(List.length v2) : Int) then
                    Option.bind (Go.Sx.H.f22F (List.getD v2 (Int.toNat s3.snd) (0 : Int))) fun (v4 : Int) =>
                      Option.bind (Go.Sx.H.f22F x.1) fun (v5 : Int) =>
                        if (v4 != v5) = Bool.true then Option.some Bool.true
                        else
                          if Decidable.decide (s3.snd > (0 : Int)) = Bool.true then
                            if (0 : Int) ≤ Go.IntKind.wrap Go.IntKind.i64 (s3.snd - (1 : Int)) ∧ Go.IntKind.wrap Go.IntKind.i64 (s3.snd - (1 : Int)) < (↑(List.length v2) : Int) then
                              if (0 : Int) ≤ s3.snd ∧ s3.snd < (↑(List.length v2) : Int) then
                                Option.some (Decidable.decide (List.getD v2 (Int.toNat (Go.IntKind.wrap Go.IntKind.i64 (s3.snd - (1 : Int)))) (0 : Int) ≥ List.getD v2 (Int.toNat s3.snd) (0 : Int)))
                              else Option.none
                            else Option.none
                          else Option.some Bool.false
                  else Option.none)
                  fun (v4 : Bool) =>
                  if v4 = Bool.true then Option.some (Sum.inr (Sum.inr Bool.false))
                  else
                    if s3.fst = Bool.true then Option.some (Sum.inl (Bool.true, Go.IntKind.wrap Go.IntKind.i64 (s3.snd + (1 : Int))))
                    else
                      if (0 : Int) ≤ s3.snd ∧ s3.snd < (↑(List.length v2) : Int) then
                        Option.some (Sum.inl (List.getD v2 (Int.toNat s3.snd) (0 : Int) == x.snd, Go.IntKind.wrap Go.IntKind.i64 (s3.snd + (1 : Int))))
                      else Option.none
              else Option.some (Sum.inr (Sum.inl s3.1)))
            (Bool.false, (0 : Int)))
          fun (v3 : Bool ⊕ Bool) =>
          Sum.elim
            (fun (p4 : Bool) =>
              Option.bind (Go.Sx.H.f22F x.1) fun (v5 : Int) =>
                Option.bind (Go.Sx.H.f22F v5) fun (v6 : Int) =>
                  Option.bind (Go.Sx.H.f22F x.1) fun (v7 : Int) =>
                    if (v6 == v7) = Bool.true then
                      Option.bind (Go.Sx.H.f22F x.1) fun (v8 : Int) =>
                        Option.bind (Go.Sx.H.f22F x.2) fun (v9 : Int) =>
                          if (p4 == (v8 == v9)) = Bool.true then Option.some (Decidable.decide ((↑(List.length v2) : Int) ≤ (4 : Int))) else Option.some Bool.false
                    else Option.some Bool.false)
            (fun (q4 : Bool) => Option.some q4) v3
theorem H.f8eq : ∀ x, runFn H.C H.f8Γ H.f8sig H.f8ann Go.Proofs.Try.f8 x = H.f8F x := by
  intro x
  kernel_rfl
noncomputable def H.f8con : Con := ⟨8, H.f8sig, H.f8F⟩
theorem H.f8ok : Con.Ok Go.Proofs.Try.prog H.C H.f8con :=
  runFn_ok (Γ := H.f8Γ) (an := H.f8ann) ⟨H.Cok, (List.forall_mem_cons.2 ⟨H.f21ok, (List.forall_mem_cons.2 ⟨H.f29ok, (List.forall_mem_cons.2 ⟨H.f22ok, (fun _ h => nomatch h)⟩)⟩)⟩), H.mixed⟩ Go.Proofs.Try.func8 rfl rfl (fun x y h => (H.f8eq x).trans h) (by decide)
def H.f9sig : Sig := ⟨⟨[.hole (.sl (.int .i64)), .hole (.sl (.int .i64))], []⟩, ⟨[.hole .bool], []⟩⟩
noncomputable def H.f9Γ : List Con := [H.f21con, H.f25con, H.f27con, H.f24con]
def H.f9ann : Ann :=
  (.seq .leaf (.seq (.seq .leaf (.cond (.seq .leaf .leaf) .leaf)) (.seq (.seq (.join [⟨.normal, [(16, .hole .bool)], []⟩] .leaf) (.cond (.seq .leaf .leaf) .leaf)) (.seq .leaf (.seq .leaf .leaf)))))
/- ductus/ductuslaw04.FoldSames -/
noncomputable def H.f9F : List Int × List Int → Option (Bool) :=
  fun (x : List Int × List Int) =>
  Option.bind (Go.Sx.H.f21F ()) fun (v1 : Bool) =>
    if (!v1) = Bool.true then Option.some Bool.false
    else
      Option.bind
        (if Decidable.decide ((↑(List.length x.fst) : Int) > (1000 : Int)) = Bool.true then Option.some Bool.true else Option.some (Decidable.decide ((↑(List.length x.snd) : Int) > (1000 : Int))))
        fun (v2 : Bool) =>
        if v2 = Bool.true then Option.some Bool.true
        else
          Option.bind (Go.Sx.H.f25F x.1) fun (v3 : List Int) =>
            Option.bind (Go.Sx.H.f25F x.2) fun (v4 : List Int) =>
              if ((↑(List.length v3) : Int) == (↑(List.length x.fst) : Int)) = Bool.true then
                Option.bind (Go.Sx.H.f27F (x.1, x.2)) fun (v5 : Bool) =>
                  Option.bind (Go.Sx.H.f27F (x.2, x.1)) fun (v6 : Bool) =>
                    if (v5 == v6) = Bool.true then
                      Option.bind (Go.Sx.H.f27F (x.1, v3)) fun (v7 : Bool) =>
                        if v7 = Bool.true then
                          Option.bind (Go.Sx.H.f27F (x.1, x.2)) fun (v8 : Bool) =>
                            Option.bind (Go.Sx.H.f24F (v3, v4)) fun (v9 : Bool) =>
                              if (v8 == v9) = Bool.true then Option.bind (Go.Sx.H.f25F v3) fun (v10 : List Int) => Option.bind (Go.Sx.H.f24F (v10, v3)) fun (v11 : Bool) => Option.some v11
                              else Option.some Bool.false
                        else Option.some Bool.false
                    else Option.some Bool.false
              else Option.some Bool.false
theorem H.f9eq : ∀ x, runFn H.C H.f9Γ H.f9sig H.f9ann Go.Proofs.Try.f9 x = H.f9F x := by
  intro x
  kernel_rfl
noncomputable def H.f9con : Con := ⟨9, H.f9sig, H.f9F⟩
theorem H.f9ok : Con.Ok Go.Proofs.Try.prog H.C H.f9con :=
  runFn_ok (Γ := H.f9Γ) (an := H.f9ann) ⟨H.Cok, (List.forall_mem_cons.2 ⟨H.f21ok, (List.forall_mem_cons.2 ⟨H.f25ok, (List.forall_mem_cons.2 ⟨H.f27ok, (List.forall_mem_cons.2 ⟨H.f24ok, (fun _ h => nomatch h)⟩)⟩)⟩)⟩), H.mixed⟩ Go.Proofs.Try.func9 rfl rfl (fun x y h => (H.f9eq x).trans h) (by decide)
end Go.Sx
