import Derived.Test.YtjmdfkcgglidaaaDoorSxP
import Derived.Test.YtjmdfkcgglidaaaDoorProg
import Derived.KernelRfl
set_option linter.unusedVariables false
set_option linter.unusedSimpArgs false
namespace Go.Sx
open Go.Proofs

def G.words : List ByteArray := [⟨#[76]⟩, ⟨#[82]⟩, ⟨#[65, 76]⟩, ⟨#[69, 78]⟩, ⟨#[69, 83]⟩, ⟨#[69, 84]⟩, ⟨#[65, 78]⟩, ⟨#[67, 83]⟩, ⟨#[78, 83, 77]⟩, ⟨#[66, 78]⟩, ⟨#[66]⟩, ⟨#[83]⟩, ⟨#[87, 83]⟩, ⟨#[79, 78]⟩, ⟨#[76, 82, 69]⟩, ⟨#[76, 82, 79]⟩, ⟨#[82, 76, 69]⟩, ⟨#[82, 76, 79]⟩, ⟨#[80, 68, 70]⟩, ⟨#[76, 82, 73]⟩, ⟨#[82, 76, 73]⟩, ⟨#[70, 83, 73]⟩, ⟨#[80, 68, 73]⟩]
def G.TT : List (TypeId × TI) := [
  (3, ⟨(.int .i64), 1, 8, some (.int .i64), [.val (.int .i64) (0 : Int)]⟩),
  (4, ⟨.bool, 1, 1, some .bool, [.bit false]⟩),
  (5, ⟨(.int .u8), 1, 1, some (.int .u8), [.val (.int .u8) (0 : Int)]⟩),
  (9, ⟨.str, 1, 16, some .str, [.val .str ByteArray.empty]⟩),
  (22, ⟨(.slice 3), 1, 24, some (.sl (.int .i64)), [.nils]⟩),
  (23, ⟨(.array 3 3), 3, 24, some (.arr 3 (.int .i64)), [.val (.int .i64) (0 : Int), .val (.int .i64) (0 : Int), .val (.int .i64) (0 : Int)]⟩),
  (33, ⟨(.int .u16), 1, 2, some (.int .u16), [.val (.int .u16) (0 : Int)]⟩),
  (34, ⟨(.array 3 33), 3, 6, some (.arr 3 (.int .u16)), [.val (.int .u16) (0 : Int), .val (.int .u16) (0 : Int), .val (.int .u16) (0 : Int)]⟩),
  (36, ⟨(.array 2 3), 2, 16, some (.arr 2 (.int .i64)), [.val (.int .i64) (0 : Int), .val (.int .i64) (0 : Int)]⟩),
  (37, ⟨.other, 1, 0, none, [.und]⟩),
  (47, ⟨(.ptr 51), 1, 8, none, [.nilp]⟩),
  (49, ⟨(.slice 69), 1, 24, some (.sl (.st (.pair (.int .i64) (.pair (.int .i64) .bool)))), [.nils]⟩),
  (51, ⟨(.struct [(3, 0, 1, false), (49, 1, 1, false), (3, 2, 1, false), (3, 3, 1, false), (3, 4, 1, false), (3, 5, 1, false), (22, 6, 1, false), (22, 7, 1, false)]), 8, 112, some (.st (.pair (.int .i64) (.pair (.sl (.st (.pair (.int .i64) (.pair (.int .i64) .bool)))) (.pair (.int .i64) (.pair (.int .i64) (.pair (.int .i64) (.pair (.int .i64) (.pair (.sl (.int .i64)) (.sl (.int .i64)))))))))), [.val (.int .i64) (0 : Int), .nils, .val (.int .i64) (0 : Int), .val (.int .i64) (0 : Int), .val (.int .i64) (0 : Int), .val (.int .i64) (0 : Int), .nils, .nils]⟩),
  (52, ⟨(.ptr 56), 1, 8, none, [.nilp]⟩),
  (54, ⟨(.slice 66), 1, 24, some (.sl (.st (.pair (.int .i64) (.pair (.int .i64) .bool)))), [.nils]⟩),
  (56, ⟨(.struct [(3, 0, 1, false), (54, 1, 1, false), (3, 2, 1, false), (3, 3, 1, false), (3, 4, 1, false), (3, 5, 1, false), (22, 6, 1, false), (22, 7, 1, false), (22, 8, 1, false)]), 9, 136, some (.st (.pair (.int .i64) (.pair (.sl (.st (.pair (.int .i64) (.pair (.int .i64) .bool)))) (.pair (.int .i64) (.pair (.int .i64) (.pair (.int .i64) (.pair (.int .i64) (.pair (.sl (.int .i64)) (.pair (.sl (.int .i64)) (.sl (.int .i64))))))))))), [.val (.int .i64) (0 : Int), .nils, .val (.int .i64) (0 : Int), .val (.int .i64) (0 : Int), .val (.int .i64) (0 : Int), .val (.int .i64) (0 : Int), .nils, .nils, .nils]⟩),
  (57, ⟨(.slice 9), 1, 24, some (.sl .str), [.nils]⟩),
  (59, ⟨(.int .u64), 1, 8, some (.int .u64), [.val (.int .u64) (0 : Int)]⟩),
  (66, ⟨(.struct [(3, 0, 1, false), (3, 1, 1, false), (4, 2, 1, false)]), 3, 24, some (.st (.pair (.int .i64) (.pair (.int .i64) .bool))), [.val (.int .i64) (0 : Int), .val (.int .i64) (0 : Int), .bit false]⟩),
  (69, ⟨(.struct [(3, 0, 1, false), (3, 1, 1, false), (4, 2, 1, false)]), 3, 24, some (.st (.pair (.int .i64) (.pair (.int .i64) .bool))), [.val (.int .i64) (0 : Int), .val (.int .i64) (0 : Int), .bit false]⟩),
  (72, ⟨(.array 23 9), 23, 368, some (.arr 23 .str), [.val .str ByteArray.empty, .val .str ByteArray.empty, .val .str ByteArray.empty, .val .str ByteArray.empty, .val .str ByteArray.empty, .val .str ByteArray.empty, .val .str ByteArray.empty, .val .str ByteArray.empty, .val .str ByteArray.empty, .val .str ByteArray.empty, .val .str ByteArray.empty, .val .str ByteArray.empty, .val .str ByteArray.empty, .val .str ByteArray.empty, .val .str ByteArray.empty, .val .str ByteArray.empty, .val .str ByteArray.empty, .val .str ByteArray.empty, .val .str ByteArray.empty, .val .str ByteArray.empty, .val .str ByteArray.empty, .val .str ByteArray.empty, .val .str ByteArray.empty]⟩)]
noncomputable def G.C : Ctx := ⟨G.TT, [(0, ⟨.arr 23 .str, G.words⟩)]⟩
theorem G.Cok : G.C.ok Go.Proofs.Tryd.prog := checkTT_ok (by kernel_rfl)
theorem G.mixed : Go.Proofs.Tryd.prog.follows .mixedOrders = true := by kernel_rfl
def G.f38sig : Sig := ⟨⟨[.hole (.sl (.int .i64))], []⟩, ⟨[.hole (.int .u64)], []⟩⟩
noncomputable def G.f38Γ : List Con := []
def G.f38ann : Ann :=
  (.seq .leaf (.seq (.seq .leaf (.block (.loop ⟨.normal, [(2, .hole (.int .u64)), (7, .hole (.int .i64))], []⟩ [⟨(.exit 0), [(2, .hole (.int .u64))], []⟩] (.seq .leaf (.seq (.cond .leaf .leaf) (.seq (.block (.seq .leaf .leaf)) .leaf)))))) (.seq .leaf .leaf)))
/- ductus/class.set -/
noncomputable def G.f38F : List Int → Option (Int) :=
  fun (x : List Int) =>
  Option.bind
    (Go.Sx.iter
      (fun (s1 : Int × Int) =>
        if Decidable.decide (s1.snd < (↑(List.length x) : Int)) = Bool.true then
          if (0 : Int) ≤ s1.snd ∧ s1.snd < (↑(List.length x) : Int) then
            if List.getD x (Int.toNat s1.snd) (0 : Int) < (0 : Int) then Option.none
            else
              Option.some
                (Sum.inl
                  (Go.IntKind.wrap Go.IntKind.u64
                      (↑(BitVec.toNat
                            (BitVec.ofInt (Go.IntKind.bits Go.IntKind.u64) s1.fst |||
                              BitVec.ofInt (Go.IntKind.bits Go.IntKind.u64)
                                (Go.IntKind.wrap Go.IntKind.u64 ((1 : Int) * (2 : Int) ^ Min.min (Int.toNat (List.getD x (Int.toNat s1.snd) (0 : Int))) (Go.IntKind.bits Go.IntKind.u64))))) :
                        Int),
                    Go.IntKind.wrap Go.IntKind.i64 (s1.snd + (1 : Int))))
          else Option.none
        else Option.some (Sum.inr s1.1))
      ((0 : Int), (0 : Int)))
    fun (v1 : Int) => Option.some v1
theorem G.f38eq : ∀ x, runFn G.C G.f38Γ G.f38sig G.f38ann Go.Proofs.Tryd.f38 x = G.f38F x := by
  intro x
  kernel_rfl
noncomputable def G.f38con : Con := ⟨38, G.f38sig, G.f38F⟩
theorem G.f38ok : Con.Ok Go.Proofs.Tryd.prog G.C G.f38con :=
  runFn_ok (Γ := G.f38Γ) (an := G.f38ann) ⟨G.Cok, (fun _ h => nomatch h), G.mixed⟩ Go.Proofs.Tryd.func38 rfl rfl (fun x y h => (G.f38eq x).trans h) (by decide)
def G.f37sig : Sig := ⟨⟨[.hole (.int .i64), .hole (.int .u64)], []⟩, ⟨[.hole .bool], []⟩⟩
noncomputable def G.f37Γ : List Con := []
def G.f37ann : Ann :=
  (.seq .leaf (.seq .leaf .leaf))
/- ductus/class.in -/
noncomputable def G.f37F : Int × Int → Option (Bool) :=
  fun (x : Int × Int) =>
  if Decidable.decide (x.fst ≥ (0 : Int)) = Bool.true then
    if Decidable.decide (x.fst ≤ (22 : Int)) = Bool.true then
      if x.fst < (0 : Int) then Option.none
      else
        Option.some
          (Go.IntKind.wrap Go.IntKind.u64
              (↑(BitVec.toNat
                    (BitVec.ofInt (Go.IntKind.bits Go.IntKind.u64) (Int.fdiv x.snd ((2 : Int) ^ Min.min (Int.toNat x.fst) (Go.IntKind.bits Go.IntKind.u64))) &&&
                      BitVec.ofInt (Go.IntKind.bits Go.IntKind.u64) (1 : Int))) :
                Int) ==
            (1 : Int))
    else Option.some Bool.false
  else Option.some Bool.false
theorem G.f37eq : ∀ x, runFn G.C G.f37Γ G.f37sig G.f37ann Go.Proofs.Tryd.f37 x = G.f37F x := by
  intro x
  kernel_rfl
noncomputable def G.f37con : Con := ⟨37, G.f37sig, G.f37F⟩
theorem G.f37ok : Con.Ok Go.Proofs.Tryd.prog G.C G.f37con :=
  runFn_ok (Γ := G.f37Γ) (an := G.f37ann) ⟨G.Cok, (fun _ h => nomatch h), G.mixed⟩ Go.Proofs.Tryd.func37 rfl rfl (fun x y h => (G.f37eq x).trans h) (by decide)
def G.f32sig : Sig := ⟨⟨[.hole (.int .i64)], []⟩, ⟨[.hole .bool], []⟩⟩
noncomputable def G.f32Γ : List Con := [G.f38con, G.f37con]
def G.f32ann : Ann :=
  (.seq .leaf (.seq .leaf .leaf))
/- ductus/class.Opens -/
noncomputable def G.f32F : Int → Option (Bool) :=
  fun (x : Int) => Option.bind (Go.Sx.G.f38F [(19 : Int), (20 : Int), (21 : Int)]) fun (v1 : Int) => Option.bind (Go.Sx.G.f37F (x, v1)) fun (v2 : Bool) => Option.some v2
theorem G.f32eq : ∀ x, runFn G.C G.f32Γ G.f32sig G.f32ann Go.Proofs.Tryd.f32 x = G.f32F x := by
  intro x
  kernel_rfl
noncomputable def G.f32con : Con := ⟨32, G.f32sig, G.f32F⟩
theorem G.f32ok : Con.Ok Go.Proofs.Tryd.prog G.C G.f32con :=
  runFn_ok (Γ := G.f32Γ) (an := G.f32ann) ⟨G.Cok, (List.forall_mem_cons.2 ⟨G.f38ok, (List.forall_mem_cons.2 ⟨G.f37ok, (fun _ h => nomatch h)⟩)⟩), G.mixed⟩ Go.Proofs.Tryd.func32 rfl rfl (fun x y h => (G.f32eq x).trans h) (by decide)
def G.f14sig : Sig := ⟨⟨[.hole (.sl (.int .i64))], []⟩, ⟨[.hole (.sl (.int .i64))], []⟩⟩
noncomputable def G.f14Γ : List Con := [G.f32con]
def G.f14ann : Ann :=
  (.seq .leaf (.seq .leaf (.seq .leaf (.seq (.seq .leaf (.block (.loop ⟨.normal, [(4, .own 1), (13, .hole (.int .i64))], [.arr 3 (.int .i64), .arr 3 (.int .i64)]⟩ [⟨(.exit 0), [], [.arr 3 (.int .i64)]⟩] (.seq .leaf (.seq (.cond .leaf .leaf) (.seq (.block (.seq .leaf (.seq .leaf (.block (.seq .leaf (.cond .leaf (.seq .leaf (.cond .leaf (.seq (.join [⟨.normal, [(31, .hole .bool)], [.arr 3 (.int .i64), .arr 3 (.int .i64)]⟩] .leaf) (.cond (.seq .leaf (.seq .leaf .leaf)) .leaf)))))))))) .leaf)))))) (.seq .leaf .leaf)))))
/- ductus/base.Match -/
noncomputable def G.f14F : List Int → Option (List Int) :=
  fun (x : List Int) =>
  if
      (0 : Int) ≤ (↑(List.length x) : Int) ∧
        (↑(List.length x) : Int) ≤ (↑(List.length x) : Int) ∧
          Go.Sx.roomOk (Int.toNat (↑(List.length x) : Int))
            { kind := Go.Sx.TK.int Go.IntKind.i64, size := (1 : Nat), bytes := (8 : Nat), ty := Option.some (Go.Sx.Ty.int Go.IntKind.i64),
                zero := [Go.Sx.SV.val (Go.Sx.Ty.int Go.IntKind.i64) (0 : Int)] : Go.Sx.TI }.bytes then
    Option.bind
      (Go.Sx.iter
        (fun (s1 : Int × List Int × List Int) =>
          if Decidable.decide (s1.fst < (↑(List.length x) : Int)) = Bool.true then
            if (0 : Int) ≤ s1.fst ∧ s1.fst < (↑(List.length x) : Int) then
              if (0 : Int) ≤ s1.fst ∧ s1.fst < (↑(List.length s1.snd.fst) : Int) then
                if (List.getD x (Int.toNat s1.fst) (0 : Int) == (10 : Int)) = Bool.true then
                  Option.some (Sum.inl (Go.IntKind.wrap Go.IntKind.i64 (s1.fst + (1 : Int)), List.set s1.snd.1 (Int.toNat s1.fst) (-1 : Int), []))
                else
                  Option.bind (Go.Sx.G.f32F (List.getD x (Int.toNat s1.fst) (0 : Int))) fun (v2 : Bool) =>
                    if v2 = Bool.true then
                      if
                          Go.Sx.roomOk (List.length s1.snd.snd + List.length [s1.1])
                            { kind := Go.Sx.TK.int Go.IntKind.i64, size := (1 : Nat), bytes := (8 : Nat), ty := Option.some (Go.Sx.Ty.int Go.IntKind.i64),
                                zero := [Go.Sx.SV.val (Go.Sx.Ty.int Go.IntKind.i64) (0 : Int)] : Go.Sx.TI }.bytes then
                        Option.some (Sum.inl (Go.IntKind.wrap Go.IntKind.i64 (s1.fst + (1 : Int)), List.set s1.snd.1 (Int.toNat s1.fst) (-1 : Int), s1.snd.2 ++ [s1.1]))
                      else Option.none
                    else
                      Option.bind
                        (if (List.getD x (Int.toNat s1.fst) (0 : Int) == (22 : Int)) = Bool.true then
                          Option.some (Decidable.decide ((↑(List.length s1.snd.snd) : Int) > (0 : Int)), List.set s1.snd.1 (Int.toNat s1.fst) (-1 : Int), s1.snd.2)
                        else Option.some (Bool.false, List.set s1.snd.1 (Int.toNat s1.fst) (-1 : Int), s1.snd.2))
                        fun (v3 : Bool × List Int × List Int) =>
                        if v3.fst = Bool.true then
                          if
                              (0 : Int) ≤ Go.IntKind.wrap Go.IntKind.i64 ((↑(List.length v3.snd.snd) : Int) - (1 : Int)) ∧
                                Go.IntKind.wrap Go.IntKind.i64 ((↑(List.length v3.snd.snd) : Int) - (1 : Int)) < (↑(List.length v3.snd.snd) : Int) then
                            if
                                (0 : Int) ≤ Go.IntKind.wrap Go.IntKind.i64 ((↑(List.length v3.snd.snd) : Int) - (1 : Int)) ∧
                                  Go.IntKind.wrap Go.IntKind.i64 ((↑(List.length v3.snd.snd) : Int) - (1 : Int)) ≤ (↑(List.length v3.snd.snd) : Int) then
                              if (0 : Int) ≤ s1.fst ∧ s1.fst < (↑(List.length v3.snd.fst) : Int) then
                                if
                                    (0 : Int) ≤ List.getD v3.snd.2 (Int.toNat (Go.IntKind.wrap Go.IntKind.i64 ((↑(List.length v3.snd.snd) : Int) - (1 : Int)))) (0 : Int) ∧
                                      List.getD v3.snd.2 (Int.toNat (Go.IntKind.wrap Go.IntKind.i64 ((↑(List.length v3.snd.snd) : Int) - (1 : Int)))) (0 : Int) <
                                        (↑(List.length
                                              (List.set v3.snd.1 (Int.toNat s1.fst)
                                                (List.getD v3.snd.2 (Int.toNat (Go.IntKind.wrap Go.IntKind.i64 ((↑(List.length v3.snd.snd) : Int) - (1 : Int)))) (0 : Int)))) :
                                          Int) then
                                  Option.some
                                    (Sum.inl
                                      (Go.IntKind.wrap Go.IntKind.i64 (s1.fst + (1 : Int)),
                                        List.set
                                          (List.set v3.snd.1 (Int.toNat s1.fst)
                                            (List.getD v3.snd.2 (Int.toNat (Go.IntKind.wrap Go.IntKind.i64 ((↑(List.length v3.snd.snd) : Int) - (1 : Int)))) (0 : Int)))
                                          (Int.toNat (List.getD v3.snd.2 (Int.toNat (Go.IntKind.wrap Go.IntKind.i64 ((↑(List.length v3.snd.snd) : Int) - (1 : Int)))) (0 : Int))) s1.1,
                                        List.take (Int.toNat (Go.IntKind.wrap Go.IntKind.i64 ((↑(List.length v3.snd.snd) : Int) - (1 : Int)))) v3.snd.2))
                                else Option.none
                              else Option.none
                            else Option.none
                          else Option.none
                        else Option.some (Sum.inl (Go.IntKind.wrap Go.IntKind.i64 (s1.fst + (1 : Int)), v3.snd.1, v3.snd.2))
              else Option.none
            else Option.none
          else Option.some (Sum.inr s1.snd.1))
        ((0 : Int), List.replicate (Int.toNat (↑(List.length x) : Int)) (0 : Int), []))
      fun (v1 : List Int) => Option.some v1
  else Option.none
theorem G.f14eq : ∀ x, runFn G.C G.f14Γ G.f14sig G.f14ann Go.Proofs.Tryd.f14 x = G.f14F x := by
  intro x
  kernel_rfl
noncomputable def G.f14con : Con := ⟨14, G.f14sig, G.f14F⟩
theorem G.f14ok : Con.Ok Go.Proofs.Tryd.prog G.C G.f14con :=
  runFn_ok (Γ := G.f14Γ) (an := G.f14ann) ⟨G.Cok, (List.forall_mem_cons.2 ⟨G.f32ok, (fun _ h => nomatch h)⟩), G.mixed⟩ Go.Proofs.Tryd.func14 rfl rfl (fun x y h => (G.f14eq x).trans h) (by decide)
def G.f13sig : Sig := ⟨⟨[.hole (.sl (.int .i64)), .hole (.sl (.int .i64))], []⟩, ⟨[.hole .bool], []⟩⟩
noncomputable def G.f13Γ : List Con := []
def G.f13ann : Ann :=
  (.seq .leaf (.seq (.seq .leaf (.cond (.seq .leaf .leaf) .leaf)) (.seq (.seq .leaf (.block (.loop ⟨.normal, [(5, .hole (.int .i64))], []⟩ [⟨(.exit 0), [], []⟩, ⟨.ret, [(4, .hole .bool)], []⟩] (.seq (.seq .leaf (.cond .leaf .leaf)) (.seq (.block (.seq .leaf (.cond (.seq .leaf .leaf) .leaf))) .leaf))))) (.seq .leaf .leaf))))
/- ductus/ductusref01.Ints -/
noncomputable def G.f13F : List Int × List Int → Option (Bool) :=
  fun (x : List Int × List Int) =>
  if ((↑(List.length x.fst) : Int) != (↑(List.length x.snd) : Int)) = Bool.true then Option.some Bool.false
  else
    Option.bind
      (Go.Sx.iter
        (fun (s1 : Int) =>
          if Decidable.decide (s1 < (↑(List.length x.fst) : Int)) = Bool.true then
            if (0 : Int) ≤ s1 ∧ s1 < (↑(List.length x.fst) : Int) then
              if (0 : Int) ≤ s1 ∧ s1 < (↑(List.length x.snd) : Int) then
                if (List.getD x.fst (Int.toNat s1) (0 : Int) != List.getD x.snd (Int.toNat s1) (0 : Int)) = Bool.true then Option.some (Sum.inr (Sum.inr Bool.false))
                else Option.some (Sum.inl (Go.IntKind.wrap Go.IntKind.i64 (s1 + (1 : Int))))
              else Option.none
            else Option.none
          else Option.some (Sum.inr (Sum.inl ())))
        (0 : Int))
      fun (v1 : PUnit ⊕ Bool) => Sum.elim (fun (p2 : PUnit) => Option.some Bool.true) (fun (q2 : Bool) => Option.some q2) v1
theorem G.f13eq : ∀ x, runFn G.C G.f13Γ G.f13sig G.f13ann Go.Proofs.Tryd.f13 x = G.f13F x := by
  intro x
  kernel_rfl
noncomputable def G.f13con : Con := ⟨13, G.f13sig, G.f13F⟩
theorem G.f13ok : Con.Ok Go.Proofs.Tryd.prog G.C G.f13con :=
  runFn_ok (Γ := G.f13Γ) (an := G.f13ann) ⟨G.Cok, (fun _ h => nomatch h), G.mixed⟩ Go.Proofs.Tryd.func13 rfl rfl (fun x y h => (G.f13eq x).trans h) (by decide)
def G.f49sig : Sig := ⟨⟨[.hole (.int .i64)], []⟩, ⟨[.hole .str], []⟩⟩
noncomputable def G.f49Γ : List Con := []
def G.f49ann : Ann :=
  (.seq .leaf (.seq (.seq (.join [⟨.normal, [(8, .hole .bool)], []⟩] .leaf) (.cond (.seq .leaf .leaf) .leaf)) (.seq .leaf .leaf)))
/- ductus/class.Word -/
noncomputable def G.f49F : Int → Option (ByteArray) :=
  fun (x : Int) =>
  Option.bind (if Decidable.decide (x < (0 : Int)) = Bool.true then Option.some Bool.true else Option.some (Decidable.decide (x ≥ (23 : Int)))) fun (v1 : Bool) =>
    if v1 = Bool.true then Option.some { data := #[] : ByteArray }
    else if (0 : Int) ≤ x ∧ x < (↑(23 : Nat) : Int) then Option.some (List.getD Go.Sx.G.words (Int.toNat x) ByteArray.empty) else Option.none
theorem G.f49eq : ∀ x, runFn G.C G.f49Γ G.f49sig G.f49ann Go.Proofs.Tryd.f49 x = G.f49F x := by
  intro x
  kernel_rfl
noncomputable def G.f49con : Con := ⟨49, G.f49sig, G.f49F⟩
theorem G.f49ok : Con.Ok Go.Proofs.Tryd.prog G.C G.f49con :=
  runFn_ok (Γ := G.f49Γ) (an := G.f49ann) ⟨G.Cok, (fun _ h => nomatch h), G.mixed⟩ Go.Proofs.Tryd.func49 rfl rfl (fun x y h => (G.f49eq x).trans h) (by decide)
def G.f39sig : Sig := ⟨⟨[.hole (.int .i64)], []⟩, ⟨[.hole (.int .i64)], []⟩⟩
noncomputable def G.f39Γ : List Con := [G.f49con]
def G.f39ann : Ann :=
  (.seq .leaf (.seq (.block (.seq (.join [⟨.normal, [(3, .hole .bool)], []⟩] .leaf) (.cond (.seq .leaf .leaf) (.seq (.join [⟨.normal, [(10, .hole .bool)], []⟩] .leaf) (.cond (.seq .leaf .leaf) .leaf))))) (.seq .leaf .leaf)))
/- ductus/base.strong -/
noncomputable def G.f39F : Int → Option (Int) :=
  fun (x : Int) =>
  Option.bind (if (x == (1 : Int)) = Bool.true then Option.some Bool.true else Option.some (x == (2 : Int))) fun (v1 : Bool) =>
    if v1 = Bool.true then Option.some (1 : Int)
    else
      Option.bind
        (if (x == (0 : Int)) = Bool.true then Option.some Bool.true
        else Option.bind (Go.Sx.G.f49F x) fun (v2 : ByteArray) => Option.some (ByteArray.toList v2 == ByteArray.toList { data := #[] : ByteArray }))
        fun (v2 : Bool) => if v2 = Bool.true then Option.some (0 : Int) else Option.some (-1 : Int)
theorem G.f39eq : ∀ x, runFn G.C G.f39Γ G.f39sig G.f39ann Go.Proofs.Tryd.f39 x = G.f39F x := by
  intro x
  kernel_rfl
noncomputable def G.f39con : Con := ⟨39, G.f39sig, G.f39F⟩
theorem G.f39ok : Con.Ok Go.Proofs.Tryd.prog G.C G.f39con :=
  runFn_ok (Γ := G.f39Γ) (an := G.f39ann) ⟨G.Cok, (List.forall_mem_cons.2 ⟨G.f49ok, (fun _ h => nomatch h)⟩), G.mixed⟩ Go.Proofs.Tryd.func39 rfl rfl (fun x y h => (G.f39eq x).trans h) (by decide)
def G.f34sig : Sig := ⟨⟨[.hole (.sl (.int .i64)), .hole (.sl (.int .i64)), .hole (.int .i64), .hole (.int .i64)], []⟩, ⟨[.hole (.int .i64)], []⟩⟩
noncomputable def G.f34Γ : List Con := [G.f32con, G.f39con]
def G.f34ann : Ann :=
  (.seq .leaf (.seq .leaf (.seq (.seq .leaf (.block (.loop ⟨.normal, [(9, .hole (.int .i64))], []⟩ [⟨(.exit 0), [], []⟩, ⟨.ret, [(8, .hole (.int .i64))], []⟩] (.seq (.seq (.join [⟨.normal, [(26, .hole .bool)], []⟩] .leaf) (.cond .leaf .leaf)) (.seq (.block (.seq (.seq .leaf (.cond (.seq (.seq .leaf (.seq .leaf (.cond (.seq .leaf .leaf) .leaf))) .leaf) .leaf)) (.seq .leaf (.seq .leaf (.cond (.seq .leaf .leaf) .leaf))))) .leaf))))) (.seq .leaf .leaf))))
/- ductus/base.first -/
noncomputable def G.f34F : List Int × List Int × Int × Int → Option (Int) :=
  fun (x : List Int × List Int × Int × Int) =>
  Option.bind
    (Go.Sx.iter
      (fun (s1 : Int) =>
        Option.bind
          (if Decidable.decide (s1 < Go.Sx.minI x.snd.snd.snd (↑(List.length x.fst) : Int)) = Bool.true then
            if (0 : Int) ≤ s1 ∧ s1 < (↑(List.length x.fst) : Int) then Option.some (List.getD x.fst (Int.toNat s1) (0 : Int) != (10 : Int)) else Option.none
          else Option.some Bool.false)
          fun (v2 : Bool) =>
          if v2 = Bool.true then
            if (0 : Int) ≤ s1 ∧ s1 < (↑(List.length x.fst) : Int) then
              Option.bind (Go.Sx.G.f32F (List.getD x.fst (Int.toNat s1) (0 : Int))) fun (v3 : Bool) =>
                if v3 = Bool.true then
                  if (0 : Int) ≤ s1 ∧ s1 < (↑(List.length x.snd.fst) : Int) then
                    if (List.getD x.snd.fst (Int.toNat s1) (0 : Int) == (-1 : Int)) = Bool.true then Option.some (Sum.inr (Sum.inr (-1 : Int)))
                    else Option.some (Sum.inl (Go.IntKind.wrap Go.IntKind.i64 (List.getD x.snd.fst (Int.toNat s1) (0 : Int) + (1 : Int))))
                  else Option.none
                else
                  if (0 : Int) ≤ s1 ∧ s1 < (↑(List.length x.fst) : Int) then
                    Option.bind (Go.Sx.G.f39F (List.getD x.fst (Int.toNat s1) (0 : Int))) fun (v4 : Int) =>
                      if (v4 != (-1 : Int)) = Bool.true then Option.some (Sum.inr (Sum.inr v4)) else Option.some (Sum.inl (Go.IntKind.wrap Go.IntKind.i64 (s1 + (1 : Int))))
                  else Option.none
            else Option.none
          else Option.some (Sum.inr (Sum.inl ())))
      (if x.snd.snd.fst > (0 : Int) then x.snd.snd.fst else (0 : Int)))
    fun (v1 : PUnit ⊕ Int) => Sum.elim (fun (p2 : PUnit) => Option.some (-1 : Int)) (fun (q2 : Int) => Option.some q2) v1
theorem G.f34eq : ∀ x, runFn G.C G.f34Γ G.f34sig G.f34ann Go.Proofs.Tryd.f34 x = G.f34F x := by
  intro x
  kernel_rfl
noncomputable def G.f34con : Con := ⟨34, G.f34sig, G.f34F⟩
theorem G.f34ok : Con.Ok Go.Proofs.Tryd.prog G.C G.f34con :=
  runFn_ok (Γ := G.f34Γ) (an := G.f34ann) ⟨G.Cok, (List.forall_mem_cons.2 ⟨G.f32ok, (List.forall_mem_cons.2 ⟨G.f39ok, (fun _ h => nomatch h)⟩)⟩), G.mixed⟩ Go.Proofs.Tryd.func34 rfl rfl (fun x y h => (G.f34eq x).trans h) (by decide)
def G.f16sig : Sig := ⟨⟨[.hole (.sl (.int .i64)), .hole (.int .i64), .hole (.int .i64)], []⟩, ⟨[.hole (.int .i64)], []⟩⟩
noncomputable def G.f16Γ : List Con := [G.f14con, G.f34con]
def G.f16ann : Ann :=
  (.seq .leaf (.seq .leaf .leaf))
/- ductus/base.First -/
noncomputable def G.f16F : List Int × Int × Int → Option (Int) :=
  fun (x : List Int × Int × Int) => Option.bind (Go.Sx.G.f14F x.1) fun (v1 : List Int) => Option.bind (Go.Sx.G.f34F (x.1, v1, x.snd.1, x.snd.2)) fun (v2 : Int) => Option.some v2
theorem G.f16eq : ∀ x, runFn G.C G.f16Γ G.f16sig G.f16ann Go.Proofs.Tryd.f16 x = G.f16F x := by
  intro x
  kernel_rfl
noncomputable def G.f16con : Con := ⟨16, G.f16sig, G.f16F⟩
theorem G.f16ok : Con.Ok Go.Proofs.Tryd.prog G.C G.f16con :=
  runFn_ok (Γ := G.f16Γ) (an := G.f16ann) ⟨G.Cok, (List.forall_mem_cons.2 ⟨G.f14ok, (List.forall_mem_cons.2 ⟨G.f34ok, (fun _ h => nomatch h)⟩)⟩), G.mixed⟩ Go.Proofs.Tryd.func16 rfl rfl (fun x y h => (G.f16eq x).trans h) (by decide)
def G.f18sig : Sig := ⟨⟨[.hole (.sl (.int .i64)), .hole (.int .i64)], []⟩, ⟨[.hole (.int .i64)], []⟩⟩
noncomputable def G.f18Γ : List Con := [G.f16con]
def G.f18ann : Ann :=
  (.seq .leaf (.seq (.seq (.join [⟨.normal, [(10, .hole .bool)], []⟩] .leaf) (.cond (.seq .leaf .leaf) .leaf)) (.seq .leaf .leaf)))
/- ductus/base.Level -/
noncomputable def G.f18F : List Int × Int → Option (Int) :=
  fun (x : List Int × Int) =>
  Option.bind (if (x.snd == (1 : Int)) = Bool.true then Option.some Bool.true else Option.some (x.snd == (2 : Int))) fun (v1 : Bool) =>
    if v1 = Bool.true then Option.some (Go.IntKind.wrap Go.IntKind.i64 (x.snd - (1 : Int)))
    else Option.bind (Go.Sx.G.f16F (x.1, (0 : Int), (↑(List.length x.fst) : Int))) fun (v2 : Int) => Option.some (if v2 > (0 : Int) then v2 else (0 : Int))
theorem G.f18eq : ∀ x, runFn G.C G.f18Γ G.f18sig G.f18ann Go.Proofs.Tryd.f18 x = G.f18F x := by
  intro x
  kernel_rfl
noncomputable def G.f18con : Con := ⟨18, G.f18sig, G.f18F⟩
theorem G.f18ok : Con.Ok Go.Proofs.Tryd.prog G.C G.f18con :=
  runFn_ok (Γ := G.f18Γ) (an := G.f18ann) ⟨G.Cok, (List.forall_mem_cons.2 ⟨G.f16ok, (fun _ h => nomatch h)⟩), G.mixed⟩ Go.Proofs.Tryd.func18 rfl rfl (fun x y h => (G.f18eq x).trans h) (by decide)
def G.f20sig : Sig := ⟨⟨[.hole (.sl (.int .i64)), .hole (.int .i64)], []⟩, ⟨[.hole (.int .i64)], []⟩⟩
noncomputable def G.f20Γ : List Con := [G.f32con, G.f14con, G.f34con]
def G.f20ann : Ann :=
  (.seq .leaf (.seq (.seq (.join [⟨.normal, [(22, .hole .bool)], []⟩] .leaf) (.cond (.seq .leaf .leaf) .leaf)) (.seq (.seq .leaf (.cond (.seq .leaf .leaf) .leaf)) (.seq .leaf (.seq .leaf (.seq (.join [⟨.normal, [(6, .hole (.int .i64))], []⟩] (.seq .leaf (.cond .leaf .leaf))) (.seq .leaf .leaf)))))))
/- ductus/base.Isolate -/
noncomputable def G.f20F : List Int × Int → Option (Int) :=
  fun (x : List Int × Int) =>
  Option.bind
    (if Decidable.decide (x.snd < (0 : Int)) = Bool.true then Option.some Bool.true
    else
      if Decidable.decide (x.snd ≥ (↑(List.length x.fst) : Int)) = Bool.true then Option.some Bool.true
      else
        if (0 : Int) ≤ x.snd ∧ x.snd < (↑(List.length x.fst) : Int) then Option.bind (Go.Sx.G.f32F (List.getD x.fst (Int.toNat x.snd) (0 : Int))) fun (v1 : Bool) => Option.some !v1 else Option.none)
    fun (v1 : Bool) =>
    if v1 = Bool.true then Option.some (-1 : Int)
    else
      if (0 : Int) ≤ x.snd ∧ x.snd < (↑(List.length x.fst) : Int) then
        if (List.getD x.fst (Int.toNat x.snd) (0 : Int) != (21 : Int)) = Bool.true then
          if (0 : Int) ≤ x.snd ∧ x.snd < (↑(List.length x.fst) : Int) then Option.some (Go.IntKind.wrap Go.IntKind.i64 (List.getD x.fst (Int.toNat x.snd) (0 : Int) - (19 : Int))) else Option.none
        else
          Option.bind (Go.Sx.G.f14F x.1) fun (v2 : List Int) =>
            if (0 : Int) ≤ x.snd ∧ x.snd < (↑(List.length v2) : Int) then
              Option.bind
                (if (List.getD v2 (Int.toNat x.snd) (0 : Int) == (-1 : Int)) = Bool.true then Option.some (↑(List.length x.fst) : Int) else Option.some (List.getD v2 (Int.toNat x.snd) (0 : Int)))
                fun (v3 : Int) => Option.bind (Go.Sx.G.f34F (x.1, v2, Go.IntKind.wrap Go.IntKind.i64 (x.snd + (1 : Int)), v3)) fun (v4 : Int) => Option.some (if v4 > (0 : Int) then v4 else (0 : Int))
            else Option.none
      else Option.none
theorem G.f20eq : ∀ x, runFn G.C G.f20Γ G.f20sig G.f20ann Go.Proofs.Tryd.f20 x = G.f20F x := by
  intro x
  kernel_rfl
noncomputable def G.f20con : Con := ⟨20, G.f20sig, G.f20F⟩
theorem G.f20ok : Con.Ok Go.Proofs.Tryd.prog G.C G.f20con :=
  runFn_ok (Γ := G.f20Γ) (an := G.f20ann) ⟨G.Cok, (List.forall_mem_cons.2 ⟨G.f32ok, (List.forall_mem_cons.2 ⟨G.f14ok, (List.forall_mem_cons.2 ⟨G.f34ok, (fun _ h => nomatch h)⟩)⟩)⟩), G.mixed⟩ Go.Proofs.Tryd.func20 rfl rfl (fun x y h => (G.f20eq x).trans h) (by decide)
def G.f12sig : Sig := ⟨⟨[], []⟩, ⟨[.hole .bool], []⟩⟩
noncomputable def G.f12Γ : List Con := [G.f14con, G.f13con, G.f18con, G.f16con, G.f20con]
def G.f12ann : Ann :=
  (.seq .leaf (.seq .leaf (.seq .leaf .leaf)))
/- ductus/ductuslaw05.alive -/
noncomputable def G.f12F : PUnit → Option (Bool) :=
  fun (x : PUnit) =>
  Option.bind (Go.Sx.G.f14F [(20 : Int), (1 : Int), (21 : Int), (2 : Int), (22 : Int), (22 : Int), (0 : Int)]) fun (v1 : List Int) =>
    Option.bind (Go.Sx.G.f13F (v1, [(5 : Int), (-1 : Int), (4 : Int), (-1 : Int), (2 : Int), (0 : Int), (-1 : Int)])) fun (v2 : Bool) =>
      if v2 = Bool.true then
        Option.bind (Go.Sx.G.f18F ([(20 : Int), (1 : Int), (21 : Int), (2 : Int), (22 : Int), (22 : Int), (0 : Int)], (0 : Int))) fun (v3 : Int) =>
          if (v3 == (0 : Int)) = Bool.true then
            Option.bind (Go.Sx.G.f16F ([(20 : Int), (1 : Int), (21 : Int), (2 : Int), (22 : Int), (22 : Int), (0 : Int)], (1 : Int), (7 : Int))) fun (v4 : Int) =>
              if (v4 == (1 : Int)) = Bool.true then
                Option.bind (Go.Sx.G.f20F ([(20 : Int), (1 : Int), (21 : Int), (2 : Int), (22 : Int), (22 : Int), (0 : Int)], (2 : Int))) fun (v5 : Int) =>
                  if (v5 == (1 : Int)) = Bool.true then
                    Option.bind (Go.Sx.G.f20F ([(20 : Int), (1 : Int), (21 : Int), (2 : Int), (22 : Int), (22 : Int), (0 : Int)], (1 : Int))) fun (v6 : Int) =>
                      if (v6 == (-1 : Int)) = Bool.true then
                        Option.bind (Go.Sx.G.f18F ([(20 : Int), (1 : Int), (21 : Int), (2 : Int), (22 : Int), (22 : Int), (0 : Int)], (2 : Int))) fun (v7 : Int) =>
                          if (v7 == (1 : Int)) = Bool.true then Option.bind (Go.Sx.G.f16F ([(10 : Int), (1 : Int)], (0 : Int), (2 : Int))) fun (v8 : Int) => Option.some (v8 == (-1 : Int))
                          else Option.some Bool.false
                      else Option.some Bool.false
                  else Option.some Bool.false
              else Option.some Bool.false
          else Option.some Bool.false
      else Option.some Bool.false
theorem G.f12eq : ∀ x, runFn G.C G.f12Γ G.f12sig G.f12ann Go.Proofs.Tryd.f12 x = G.f12F x := by
  intro x
  kernel_rfl
noncomputable def G.f12con : Con := ⟨12, G.f12sig, G.f12F⟩
theorem G.f12ok : Con.Ok Go.Proofs.Tryd.prog G.C G.f12con :=
  runFn_ok (Γ := G.f12Γ) (an := G.f12ann) ⟨G.Cok, (List.forall_mem_cons.2 ⟨G.f14ok, (List.forall_mem_cons.2 ⟨G.f13ok, (List.forall_mem_cons.2 ⟨G.f18ok, (List.forall_mem_cons.2 ⟨G.f16ok, (List.forall_mem_cons.2 ⟨G.f20ok, (fun _ h => nomatch h)⟩)⟩)⟩)⟩)⟩), G.mixed⟩ Go.Proofs.Tryd.func12 rfl rfl (fun x y h => (G.f12eq x).trans h) (by decide)
def G.f22sig : Sig := ⟨⟨[.hole (.int .i64)], []⟩, ⟨[.hole .bool], []⟩⟩
noncomputable def G.f22Γ : List Con := []
def G.f22ann : Ann :=
  (.seq .leaf (.seq .leaf .leaf))
/- ductus/ductusref02.Opens -/
noncomputable def G.f22F : Int → Option (Bool) :=
  fun (x : Int) => if (x == (19 : Int)) = Bool.true then Option.some Bool.true else if (x == (20 : Int)) = Bool.true then Option.some Bool.true else Option.some (x == (21 : Int))
theorem G.f22eq : ∀ x, runFn G.C G.f22Γ G.f22sig G.f22ann Go.Proofs.Tryd.f22 x = G.f22F x := by
  intro x
  kernel_rfl
noncomputable def G.f22con : Con := ⟨22, G.f22sig, G.f22F⟩
theorem G.f22ok : Con.Ok Go.Proofs.Tryd.prog G.C G.f22con :=
  runFn_ok (Γ := G.f22Γ) (an := G.f22ann) ⟨G.Cok, (fun _ h => nomatch h), G.mixed⟩ Go.Proofs.Tryd.func22 rfl rfl (fun x y h => (G.f22eq x).trans h) (by decide)
def G.f33sig : Sig := ⟨⟨[.hole (.sl (.int .i64)), .hole (.int .i64)], []⟩, ⟨[.hole (.int .i64)], []⟩⟩
noncomputable def G.f33Γ : List Con := [G.f22con]
def G.f33ann : Ann :=
  (.seq .leaf (.seq .leaf (.seq (.seq .leaf (.block (.loop ⟨.normal, [(5, .hole (.int .i64)), (6, .hole (.int .i64))], []⟩ [⟨(.exit 0), [], []⟩, ⟨.ret, [(4, .hole (.int .i64))], []⟩] (.seq (.seq (.join [⟨.normal, [(19, .hole .bool)], []⟩] .leaf) (.cond .leaf .leaf)) (.seq (.block (.seq (.join [⟨.normal, [(5, .hole (.int .i64))], []⟩] (.seq .leaf (.cond .leaf .leaf))) (.seq .leaf (.cond (.seq .leaf (.seq .leaf (.cond (.seq .leaf .leaf) .leaf))) .leaf)))) .leaf))))) (.seq .leaf .leaf))))
/- ductus/ductusref05.End -/
noncomputable def G.f33F : List Int × Int → Option (Int) :=
  fun (x : List Int × Int) =>
  Option.bind
    (Go.Sx.iter
      (fun (s1 : Int × Int) =>
        Option.bind
          (if Decidable.decide (s1.snd < (↑(List.length x.fst) : Int)) = Bool.true then
            if (0 : Int) ≤ s1.snd ∧ s1.snd < (↑(List.length x.fst) : Int) then Option.some (List.getD x.fst (Int.toNat s1.snd) (0 : Int) != (10 : Int)) else Option.none
          else Option.some Bool.false)
          fun (v2 : Bool) =>
          if v2 = Bool.true then
            Option.bind
              (if (0 : Int) ≤ s1.snd ∧ s1.snd < (↑(List.length x.fst) : Int) then
                Option.bind (Go.Sx.G.f22F (List.getD x.fst (Int.toNat s1.snd) (0 : Int))) fun (v3 : Bool) =>
                  if v3 = Bool.true then Option.some (Go.IntKind.wrap Go.IntKind.i64 (s1.fst + (1 : Int))) else Option.some s1.1
              else Option.none)
              fun (v3 : Int) =>
              if (0 : Int) ≤ s1.snd ∧ s1.snd < (↑(List.length x.fst) : Int) then
                if (List.getD x.fst (Int.toNat s1.snd) (0 : Int) == (22 : Int)) = Bool.true then
                  if (Go.IntKind.wrap Go.IntKind.i64 (v3 - (1 : Int)) == (0 : Int)) = Bool.true then Option.some (Sum.inr (Sum.inr s1.2))
                  else Option.some (Sum.inl (Go.IntKind.wrap Go.IntKind.i64 (v3 - (1 : Int)), Go.IntKind.wrap Go.IntKind.i64 (s1.snd + (1 : Int))))
                else Option.some (Sum.inl (v3, Go.IntKind.wrap Go.IntKind.i64 (s1.snd + (1 : Int))))
              else Option.none
          else Option.some (Sum.inr (Sum.inl ())))
      ((1 : Int), Go.IntKind.wrap Go.IntKind.i64 (x.snd + (1 : Int))))
    fun (v1 : PUnit ⊕ Int) => Sum.elim (fun (p2 : PUnit) => Option.some (-1 : Int)) (fun (q2 : Int) => Option.some q2) v1
theorem G.f33eq : ∀ x, runFn G.C G.f33Γ G.f33sig G.f33ann Go.Proofs.Tryd.f33 x = G.f33F x := by
  intro x
  kernel_rfl
noncomputable def G.f33con : Con := ⟨33, G.f33sig, G.f33F⟩
theorem G.f33ok : Con.Ok Go.Proofs.Tryd.prog G.C G.f33con :=
  runFn_ok (Γ := G.f33Γ) (an := G.f33ann) ⟨G.Cok, (List.forall_mem_cons.2 ⟨G.f22ok, (fun _ h => nomatch h)⟩), G.mixed⟩ Go.Proofs.Tryd.func33 rfl rfl (fun x y h => (G.f33eq x).trans h) (by decide)
def G.f15sig : Sig := ⟨⟨[.hole (.sl (.int .i64))], []⟩, ⟨[.hole (.sl (.int .i64))], []⟩⟩
noncomputable def G.f15Γ : List Con := [G.f22con, G.f33con]
def G.f15ann : Ann :=
  (.seq .leaf (.seq .leaf (.seq (.seq .leaf (.block (.loop ⟨.normal, [(4, .hole (.int .i64))], [.arr 3 (.int .i64)]⟩ [⟨(.exit 0), [], [.arr 3 (.int .i64)]⟩] (.seq (.seq .leaf (.cond .leaf .leaf)) (.seq (.block .leaf) .leaf))))) (.seq (.seq .leaf (.block (.loop ⟨.normal, [(5, .hole (.int .i64))], [.arr 3 (.int .i64)]⟩ [⟨(.exit 2), [], [.arr 3 (.int .i64)]⟩] (.seq (.seq .leaf (.cond .leaf .leaf)) (.seq (.block (.seq .leaf (.cond (.seq .leaf (.seq .leaf (.seq .leaf (.cond .leaf .leaf)))) .leaf))) .leaf))))) (.seq .leaf .leaf)))))
/- ductus/ductusref05.Match -/
noncomputable def G.f15F : List Int → Option (List Int) :=
  fun (x : List Int) =>
  if
      (0 : Int) ≤ (↑(List.length x) : Int) ∧
        (↑(List.length x) : Int) ≤ (↑(List.length x) : Int) ∧
          Go.Sx.roomOk (Int.toNat (↑(List.length x) : Int))
            { kind := Go.Sx.TK.int Go.IntKind.i64, size := (1 : Nat), bytes := (8 : Nat), ty := Option.some (Go.Sx.Ty.int Go.IntKind.i64),
                zero := [Go.Sx.SV.val (Go.Sx.Ty.int Go.IntKind.i64) (0 : Int)] : Go.Sx.TI }.bytes then
    Option.bind
      (Go.Sx.iter
        (fun (s1 : Int × List Int) =>
          if Decidable.decide (s1.fst < (↑(List.length x) : Int)) = Bool.true then
            if (0 : Int) ≤ s1.fst ∧ s1.fst < (↑(List.length s1.snd) : Int) then Option.some (Sum.inl (Go.IntKind.wrap Go.IntKind.i64 (s1.fst + (1 : Int)), List.set s1.2 (Int.toNat s1.fst) (-1 : Int)))
            else Option.none
          else Option.some (Sum.inr s1.2))
        ((0 : Int), List.replicate (Int.toNat (↑(List.length x) : Int)) (0 : Int)))
      fun (v1 : List Int) =>
      Option.bind
        (Go.Sx.iter
          (fun (s2 : Int × List Int) =>
            if Decidable.decide (s2.fst < (↑(List.length x) : Int)) = Bool.true then
              if (0 : Int) ≤ s2.fst ∧ s2.fst < (↑(List.length x) : Int) then
                Option.bind (Go.Sx.G.f22F (List.getD x (Int.toNat s2.fst) (0 : Int))) fun (v3 : Bool) =>
                  if v3 = Bool.true then
                    Option.bind (Go.Sx.G.f33F (x, s2.1)) fun (v4 : Int) =>
                      if (0 : Int) ≤ s2.fst ∧ s2.fst < (↑(List.length s2.snd) : Int) then
                        if Decidable.decide (v4 ≥ (0 : Int)) = Bool.true then
                          if (0 : Int) ≤ v4 ∧ v4 < (↑(List.length (List.set s2.2 (Int.toNat s2.fst) v4)) : Int) then
                            Option.some (Sum.inl (Go.IntKind.wrap Go.IntKind.i64 (s2.fst + (1 : Int)), List.set (List.set s2.2 (Int.toNat s2.fst) v4) (Int.toNat v4) s2.1))
                          else Option.none
                        else Option.some (Sum.inl (Go.IntKind.wrap Go.IntKind.i64 (s2.fst + (1 : Int)), List.set s2.2 (Int.toNat s2.fst) v4))
                      else Option.none
                  else Option.some (Sum.inl (Go.IntKind.wrap Go.IntKind.i64 (s2.fst + (1 : Int)), s2.2))
              else Option.none
            else Option.some (Sum.inr s2.2))
          ((0 : Int), v1))
        fun (v2 : List Int) => Option.some v2
  else Option.none
theorem G.f15eq : ∀ x, runFn G.C G.f15Γ G.f15sig G.f15ann Go.Proofs.Tryd.f15 x = G.f15F x := by
  intro x
  kernel_rfl
noncomputable def G.f15con : Con := ⟨15, G.f15sig, G.f15F⟩
theorem G.f15ok : Con.Ok Go.Proofs.Tryd.prog G.C G.f15con :=
  runFn_ok (Γ := G.f15Γ) (an := G.f15ann) ⟨G.Cok, (List.forall_mem_cons.2 ⟨G.f22ok, (List.forall_mem_cons.2 ⟨G.f33ok, (fun _ h => nomatch h)⟩)⟩), G.mixed⟩ Go.Proofs.Tryd.func15 rfl rfl (fun x y h => (G.f15eq x).trans h) (by decide)
def G.f31sig : Sig := ⟨⟨[.hole (.int .i64)], []⟩, ⟨[.hole .str], []⟩⟩
noncomputable def G.f31Γ : List Con := []
def G.f31ann : Ann :=
  (.seq .leaf (.seq .leaf (.seq (.seq (.join [⟨.normal, [(12, .hole .bool)], [.arr 9 .str]⟩] .leaf) (.cond (.seq .leaf .leaf) .leaf)) (.seq .leaf .leaf))))
/- ductus/ductusref02.Word -/
noncomputable def G.f31F : Int → Option (ByteArray) :=
  fun (x : Int) =>
  Option.bind
    (if Decidable.decide (x < (0 : Int)) = Bool.true then
      Option.some
        (Bool.true,
          [{ data := #[(76 : UInt8)] : ByteArray }, { data := #[(82 : UInt8)] : ByteArray }, { data := #[(65 : UInt8), (76 : UInt8)] : ByteArray },
            { data := #[(69 : UInt8), (78 : UInt8)] : ByteArray }, { data := #[(69 : UInt8), (83 : UInt8)] : ByteArray }, { data := #[(69 : UInt8), (84 : UInt8)] : ByteArray },
            { data := #[(65 : UInt8), (78 : UInt8)] : ByteArray }, { data := #[(67 : UInt8), (83 : UInt8)] : ByteArray }, { data := #[(78 : UInt8), (83 : UInt8), (77 : UInt8)] : ByteArray },
            { data := #[(66 : UInt8), (78 : UInt8)] : ByteArray }, { data := #[(66 : UInt8)] : ByteArray }, { data := #[(83 : UInt8)] : ByteArray },
            { data := #[(87 : UInt8), (83 : UInt8)] : ByteArray }, { data := #[(79 : UInt8), (78 : UInt8)] : ByteArray }, { data := #[(76 : UInt8), (82 : UInt8), (69 : UInt8)] : ByteArray },
            { data := #[(76 : UInt8), (82 : UInt8), (79 : UInt8)] : ByteArray }, { data := #[(82 : UInt8), (76 : UInt8), (69 : UInt8)] : ByteArray },
            { data := #[(82 : UInt8), (76 : UInt8), (79 : UInt8)] : ByteArray }, { data := #[(80 : UInt8), (68 : UInt8), (70 : UInt8)] : ByteArray },
            { data := #[(76 : UInt8), (82 : UInt8), (73 : UInt8)] : ByteArray }, { data := #[(82 : UInt8), (76 : UInt8), (73 : UInt8)] : ByteArray },
            { data := #[(70 : UInt8), (83 : UInt8), (73 : UInt8)] : ByteArray }, { data := #[(80 : UInt8), (68 : UInt8), (73 : UInt8)] : ByteArray }])
    else
      Option.some
        (Decidable.decide (x ≥ (↑((22 : Nat) + (1 : Nat)) : Int)),
          [{ data := #[(76 : UInt8)] : ByteArray }, { data := #[(82 : UInt8)] : ByteArray }, { data := #[(65 : UInt8), (76 : UInt8)] : ByteArray },
            { data := #[(69 : UInt8), (78 : UInt8)] : ByteArray }, { data := #[(69 : UInt8), (83 : UInt8)] : ByteArray }, { data := #[(69 : UInt8), (84 : UInt8)] : ByteArray },
            { data := #[(65 : UInt8), (78 : UInt8)] : ByteArray }, { data := #[(67 : UInt8), (83 : UInt8)] : ByteArray }, { data := #[(78 : UInt8), (83 : UInt8), (77 : UInt8)] : ByteArray },
            { data := #[(66 : UInt8), (78 : UInt8)] : ByteArray }, { data := #[(66 : UInt8)] : ByteArray }, { data := #[(83 : UInt8)] : ByteArray },
            { data := #[(87 : UInt8), (83 : UInt8)] : ByteArray }, { data := #[(79 : UInt8), (78 : UInt8)] : ByteArray }, { data := #[(76 : UInt8), (82 : UInt8), (69 : UInt8)] : ByteArray },
            { data := #[(76 : UInt8), (82 : UInt8), (79 : UInt8)] : ByteArray }, { data := #[(82 : UInt8), (76 : UInt8), (69 : UInt8)] : ByteArray },
            { data := #[(82 : UInt8), (76 : UInt8), (79 : UInt8)] : ByteArray }, { data := #[(80 : UInt8), (68 : UInt8), (70 : UInt8)] : ByteArray },
            { data := #[(76 : UInt8), (82 : UInt8), (73 : UInt8)] : ByteArray }, { data := #[(82 : UInt8), (76 : UInt8), (73 : UInt8)] : ByteArray },
            { data := #[(70 : UInt8), (83 : UInt8), (73 : UInt8)] : ByteArray }, { data := #[(80 : UInt8), (68 : UInt8), (73 : UInt8)] : ByteArray }]))
    fun (v1 : Bool × List ByteArray) =>
    if v1.fst = Bool.true then Option.some { data := #[] : ByteArray }
    else if (0 : Int) ≤ x ∧ x < (↑(List.length v1.snd) : Int) then Option.some (List.getD v1.2 (Int.toNat x) ByteArray.empty) else Option.none
theorem G.f31eq : ∀ x, runFn G.C G.f31Γ G.f31sig G.f31ann Go.Proofs.Tryd.f31 x = G.f31F x := by
  intro x
  kernel_rfl
noncomputable def G.f31con : Con := ⟨31, G.f31sig, G.f31F⟩
theorem G.f31ok : Con.Ok Go.Proofs.Tryd.prog G.C G.f31con :=
  runFn_ok (Γ := G.f31Γ) (an := G.f31ann) ⟨G.Cok, (fun _ h => nomatch h), G.mixed⟩ Go.Proofs.Tryd.func31 rfl rfl (fun x y h => (G.f31eq x).trans h) (by decide)
def G.f17sig : Sig := ⟨⟨[.hole (.sl (.int .i64)), .hole (.int .i64), .hole (.int .i64)], []⟩, ⟨[.hole (.int .i64)], []⟩⟩
noncomputable def G.f17Γ : List Con := [G.f22con, G.f33con, G.f31con]
def G.f17ann : Ann :=
  (.seq .leaf (.seq (.seq .leaf (.block (.loop ⟨.normal, [(7, .hole (.int .i64))], []⟩ [⟨(.exit 0), [], []⟩, ⟨.ret, [(6, .hole (.int .i64))], []⟩] (.seq (.seq .leaf (.cond .leaf .leaf)) (.seq (.block (.block (.seq .leaf (.cond (.seq .leaf .leaf) (.seq .leaf (.cond (.seq .leaf (.seq (.seq (.join [⟨.normal, [(40, .hole .bool)], []⟩] .leaf) (.cond (.seq .leaf .leaf) .leaf)) .leaf)) (.seq (.join [⟨.normal, [(42, .hole .bool)], []⟩] .leaf) (.cond (.seq .leaf .leaf) (.seq (.join [⟨.normal, [(55, .hole .bool)], []⟩] .leaf) (.cond (.seq .leaf .leaf) .leaf)))))))))) .leaf))))) (.seq .leaf .leaf)))
/- ductus/ductusref05.First -/
noncomputable def G.f17F : List Int × Int × Int → Option (Int) :=
  fun (x : List Int × Int × Int) =>
  Option.bind
    (Go.Sx.iter
      (fun (s1 : Int) =>
        if Decidable.decide (s1 < Go.Sx.minI x.snd.snd (↑(List.length x.fst) : Int)) = Bool.true then
          if (0 : Int) ≤ s1 ∧ s1 < (↑(List.length x.fst) : Int) then
            if (List.getD x.fst (Int.toNat s1) (0 : Int) == (10 : Int)) = Bool.true then Option.some (Sum.inr (Sum.inr (-1 : Int)))
            else
              if (0 : Int) ≤ s1 ∧ s1 < (↑(List.length x.fst) : Int) then
                Option.bind (Go.Sx.G.f22F (List.getD x.fst (Int.toNat s1) (0 : Int))) fun (v2 : Bool) =>
                  if v2 = Bool.true then
                    Option.bind (Go.Sx.G.f33F (x.1, s1)) fun (v3 : Int) =>
                      Option.bind (if Decidable.decide (v3 < (0 : Int)) = Bool.true then Option.some Bool.true else Option.some (Decidable.decide (v3 ≥ x.snd.snd))) fun (v4 : Bool) =>
                        if v4 = Bool.true then Option.some (Sum.inr (Sum.inr (-1 : Int))) else Option.some (Sum.inl (Go.IntKind.wrap Go.IntKind.i64 (v3 + (1 : Int))))
                  else
                    Option.bind
                      (if (0 : Int) ≤ s1 ∧ s1 < (↑(List.length x.fst) : Int) then
                        if (List.getD x.fst (Int.toNat s1) (0 : Int) == (1 : Int)) = Bool.true then Option.some Bool.true
                        else if (0 : Int) ≤ s1 ∧ s1 < (↑(List.length x.fst) : Int) then Option.some (List.getD x.fst (Int.toNat s1) (0 : Int) == (2 : Int)) else Option.none
                      else Option.none)
                      fun (v3 : Bool) =>
                      if v3 = Bool.true then Option.some (Sum.inr (Sum.inr (1 : Int)))
                      else
                        Option.bind
                          (if (0 : Int) ≤ s1 ∧ s1 < (↑(List.length x.fst) : Int) then
                            if (List.getD x.fst (Int.toNat s1) (0 : Int) == (0 : Int)) = Bool.true then Option.some Bool.true
                            else
                              if (0 : Int) ≤ s1 ∧ s1 < (↑(List.length x.fst) : Int) then
                                Option.bind (Go.Sx.G.f31F (List.getD x.fst (Int.toNat s1) (0 : Int))) fun (v4 : ByteArray) =>
                                  Option.some (ByteArray.toList v4 == ByteArray.toList { data := #[] : ByteArray })
                              else Option.none
                          else Option.none)
                          fun (v4 : Bool) => if v4 = Bool.true then Option.some (Sum.inr (Sum.inr (0 : Int))) else Option.some (Sum.inl (Go.IntKind.wrap Go.IntKind.i64 (s1 + (1 : Int))))
              else Option.none
          else Option.none
        else Option.some (Sum.inr (Sum.inl ())))
      (if x.snd.fst > (0 : Int) then x.snd.fst else (0 : Int)))
    fun (v1 : PUnit ⊕ Int) => Sum.elim (fun (p2 : PUnit) => Option.some (-1 : Int)) (fun (q2 : Int) => Option.some q2) v1
theorem G.f17eq : ∀ x, runFn G.C G.f17Γ G.f17sig G.f17ann Go.Proofs.Tryd.f17 x = G.f17F x := by
  intro x
  kernel_rfl
noncomputable def G.f17con : Con := ⟨17, G.f17sig, G.f17F⟩
theorem G.f17ok : Con.Ok Go.Proofs.Tryd.prog G.C G.f17con :=
  runFn_ok (Γ := G.f17Γ) (an := G.f17ann) ⟨G.Cok, (List.forall_mem_cons.2 ⟨G.f22ok, (List.forall_mem_cons.2 ⟨G.f33ok, (List.forall_mem_cons.2 ⟨G.f31ok, (fun _ h => nomatch h)⟩)⟩)⟩), G.mixed⟩ Go.Proofs.Tryd.func17 rfl rfl (fun x y h => (G.f17eq x).trans h) (by decide)
def G.f19sig : Sig := ⟨⟨[.hole (.sl (.int .i64)), .hole (.int .i64)], []⟩, ⟨[.hole (.int .i64)], []⟩⟩
noncomputable def G.f19Γ : List Con := [G.f17con]
def G.f19ann : Ann :=
  (.seq .leaf (.seq (.seq .leaf (.block (.seq .leaf (.cond (.seq .leaf .leaf) (.seq .leaf (.cond (.seq .leaf .leaf) .leaf)))))) (.seq .leaf .leaf)))
/- ductus/ductusref05.Level -/
noncomputable def G.f19F : List Int × Int → Option (Int) :=
  fun (x : List Int × Int) =>
  if (x.snd == (1 : Int)) = Bool.true then Option.some (0 : Int)
  else
    if (x.snd == (2 : Int)) = Bool.true then Option.some (1 : Int)
    else Option.bind (Go.Sx.G.f17F (x.1, (0 : Int), (↑(List.length x.fst) : Int))) fun (v1 : Int) => Option.some (if v1 > (0 : Int) then v1 else (0 : Int))
theorem G.f19eq : ∀ x, runFn G.C G.f19Γ G.f19sig G.f19ann Go.Proofs.Tryd.f19 x = G.f19F x := by
  intro x
  kernel_rfl
noncomputable def G.f19con : Con := ⟨19, G.f19sig, G.f19F⟩
theorem G.f19ok : Con.Ok Go.Proofs.Tryd.prog G.C G.f19con :=
  runFn_ok (Γ := G.f19Γ) (an := G.f19ann) ⟨G.Cok, (List.forall_mem_cons.2 ⟨G.f17ok, (fun _ h => nomatch h)⟩), G.mixed⟩ Go.Proofs.Tryd.func19 rfl rfl (fun x y h => (G.f19eq x).trans h) (by decide)
def G.f21sig : Sig := ⟨⟨[.hole (.sl (.int .i64)), .hole (.int .i64)], []⟩, ⟨[.hole (.int .i64)], []⟩⟩
noncomputable def G.f21Γ : List Con := [G.f33con, G.f17con]
def G.f21ann : Ann :=
  (.seq .leaf (.seq (.seq (.join [⟨.normal, [(13, .hole .bool)], []⟩] .leaf) (.cond (.seq .leaf .leaf) .leaf)) (.seq (.seq .leaf (.block (.seq .leaf (.cond (.seq .leaf .leaf) (.seq .leaf (.cond (.seq .leaf .leaf) (.seq .leaf (.cond (.seq .leaf (.seq (.join [⟨.normal, [(5, .hole (.int .i64))], []⟩] (.seq .leaf (.cond .leaf .leaf))) (.seq .leaf .leaf))) .leaf)))))))) (.seq .leaf .leaf))))
/- ductus/ductusref05.Isolate -/
noncomputable def G.f21F : List Int × Int → Option (Int) :=
  fun (x : List Int × Int) =>
  Option.bind (if Decidable.decide (x.snd < (0 : Int)) = Bool.true then Option.some Bool.true else Option.some (Decidable.decide (x.snd ≥ (↑(List.length x.fst) : Int)))) fun (v1 : Bool) =>
    if v1 = Bool.true then Option.some (-1 : Int)
    else
      if (0 : Int) ≤ x.snd ∧ x.snd < (↑(List.length x.fst) : Int) then
        if (List.getD x.fst (Int.toNat x.snd) (0 : Int) == (19 : Int)) = Bool.true then Option.some (0 : Int)
        else
          if (List.getD x.fst (Int.toNat x.snd) (0 : Int) == (20 : Int)) = Bool.true then Option.some (1 : Int)
          else
            if (List.getD x.fst (Int.toNat x.snd) (0 : Int) == (21 : Int)) = Bool.true then
              Option.bind (Go.Sx.G.f33F (x.1, x.2)) fun (v2 : Int) =>
                Option.bind (if Decidable.decide (v2 < (0 : Int)) = Bool.true then Option.some (↑(List.length x.fst) : Int) else Option.some v2) fun (v3 : Int) =>
                  Option.bind (Go.Sx.G.f17F (x.1, Go.IntKind.wrap Go.IntKind.i64 (x.snd + (1 : Int)), v3)) fun (v4 : Int) => Option.some (if v4 > (0 : Int) then v4 else (0 : Int))
            else Option.some (-1 : Int)
      else Option.none
theorem G.f21eq : ∀ x, runFn G.C G.f21Γ G.f21sig G.f21ann Go.Proofs.Tryd.f21 x = G.f21F x := by
  intro x
  kernel_rfl
noncomputable def G.f21con : Con := ⟨21, G.f21sig, G.f21F⟩
theorem G.f21ok : Con.Ok Go.Proofs.Tryd.prog G.C G.f21con :=
  runFn_ok (Γ := G.f21Γ) (an := G.f21ann) ⟨G.Cok, (List.forall_mem_cons.2 ⟨G.f33ok, (List.forall_mem_cons.2 ⟨G.f17ok, (fun _ h => nomatch h)⟩)⟩), G.mixed⟩ Go.Proofs.Tryd.func21 rfl rfl (fun x y h => (G.f21eq x).trans h) (by decide)
def G.f3sig : Sig := ⟨⟨[.hole (.sl (.int .i64)), .hole (.arr 3 (.int .i64))], []⟩, ⟨[.hole .bool], []⟩⟩
noncomputable def G.f3Γ : List Con := [G.f12con, G.f14con, G.f15con, G.f13con, G.f16con, G.f17con, G.f18con, G.f19con, G.f20con, G.f21con]
def G.f3ann : Ann :=
  (.seq .leaf (.seq (.seq .leaf (.cond (.seq .leaf .leaf) .leaf)) (.seq (.seq .leaf (.cond (.seq .leaf .leaf) .leaf)) (.seq .draw .leaf))))
/- ductus/ductuslaw05.BaseAnswers -/
noncomputable def G.f3F : List Int × List Int → Option (Bool) :=
  fun (x : List Int × List Int) =>
  Option.bind (Go.Sx.G.f12F ()) fun (v1 : Bool) =>
    if (!v1) = Bool.true then Option.some Bool.false
    else
      if Decidable.decide ((↑(List.length x.fst) : Int) > (500 : Int)) = Bool.true then Option.some Bool.true
      else
        Option.bind (Go.Sx.G.f14F x.1) fun (v2 : List Int) =>
          Option.bind (Go.Sx.G.f15F x.1) fun (v3 : List Int) =>
            Option.bind (Go.Sx.G.f13F (v2, v3)) fun (v4 : Bool) =>
              if v4 = Bool.true then
                if (0 : Int) ≤ (0 : Int) ∧ (0 : Int) < (↑(3 : Nat) : Int) then
                  if (0 : Int) ≤ (1 : Int) ∧ (1 : Int) < (↑(3 : Nat) : Int) then
                    Option.bind (Go.Sx.G.f16F (x.1, List.getD x.snd (nat_lit 0) (0 : Int), List.getD x.snd (nat_lit 1) (0 : Int))) fun (v5 : Int) =>
                      if (0 : Int) ≤ (0 : Int) ∧ (0 : Int) < (↑(3 : Nat) : Int) then
                        if (0 : Int) ≤ (1 : Int) ∧ (1 : Int) < (↑(3 : Nat) : Int) then
                          Option.bind (Go.Sx.G.f17F (x.1, List.getD x.snd (nat_lit 0) (0 : Int), List.getD x.snd (nat_lit 1) (0 : Int))) fun (v6 : Int) =>
                            if (v5 == v6) = Bool.true then
                              if (0 : Int) ≤ (2 : Int) ∧ (2 : Int) < (↑(3 : Nat) : Int) then
                                Option.bind (Go.Sx.G.f18F (x.1, List.getD x.snd (nat_lit 2) (0 : Int))) fun (v7 : Int) =>
                                  if (0 : Int) ≤ (2 : Int) ∧ (2 : Int) < (↑(3 : Nat) : Int) then
                                    Option.bind (Go.Sx.G.f19F (x.1, List.getD x.snd (nat_lit 2) (0 : Int))) fun (v8 : Int) =>
                                      if (v7 == v8) = Bool.true then
                                        if (0 : Int) ≤ (0 : Int) ∧ (0 : Int) < (↑(3 : Nat) : Int) then
                                          Option.bind (Go.Sx.G.f20F (x.1, List.getD x.snd (nat_lit 0) (0 : Int))) fun (v9 : Int) =>
                                            if (0 : Int) ≤ (0 : Int) ∧ (0 : Int) < (↑(3 : Nat) : Int) then
                                              Option.bind (Go.Sx.G.f21F (x.1, List.getD x.snd (nat_lit 0) (0 : Int))) fun (v10 : Int) => Option.some (v9 == v10)
                                            else Option.none
                                        else Option.none
                                      else Option.some Bool.false
                                  else Option.none
                              else Option.none
                            else Option.some Bool.false
                        else Option.none
                      else Option.none
                  else Option.none
                else Option.none
              else Option.some Bool.false
theorem G.f3eq : ∀ x, runFn G.C G.f3Γ G.f3sig G.f3ann Go.Proofs.Tryd.f3 x = G.f3F x := by
  intro x
  kernel_rfl
noncomputable def G.f3con : Con := ⟨3, G.f3sig, G.f3F⟩
theorem G.f3ok : Con.Ok Go.Proofs.Tryd.prog G.C G.f3con :=
  runFn_ok (Γ := G.f3Γ) (an := G.f3ann) ⟨G.Cok, (List.forall_mem_cons.2 ⟨G.f12ok, (List.forall_mem_cons.2 ⟨G.f14ok, (List.forall_mem_cons.2 ⟨G.f15ok, (List.forall_mem_cons.2 ⟨G.f13ok, (List.forall_mem_cons.2 ⟨G.f16ok, (List.forall_mem_cons.2 ⟨G.f17ok, (List.forall_mem_cons.2 ⟨G.f18ok, (List.forall_mem_cons.2 ⟨G.f19ok, (List.forall_mem_cons.2 ⟨G.f20ok, (List.forall_mem_cons.2 ⟨G.f21ok, (fun _ h => nomatch h)⟩)⟩)⟩)⟩)⟩)⟩)⟩)⟩)⟩)⟩), G.mixed⟩ Go.Proofs.Tryd.func3 rfl rfl (fun x y h => (G.f3eq x).trans h) (by decide)
def G.f4sig : Sig := ⟨⟨[.hole (.sl (.int .i64))], []⟩, ⟨[.hole .bool], []⟩⟩
noncomputable def G.f4Γ : List Con := [G.f12con, G.f14con, G.f22con]
def G.f4ann : Ann :=
  (.seq .leaf (.seq (.seq .leaf (.cond (.seq .leaf .leaf) .leaf)) (.seq (.seq .leaf (.cond (.seq .leaf .leaf) .leaf)) (.seq .leaf (.seq (.seq .leaf (.cond (.seq .leaf .leaf) .leaf)) (.seq (.seq .leaf (.block (.loop ⟨.normal, [(4, .hole (.int .i64))], []⟩ [⟨(.exit 0), [], []⟩, ⟨.ret, [(2, .hole .bool)], []⟩] (.seq (.seq .leaf (.cond .leaf .leaf)) (.seq (.block (.seq .leaf (.seq (.seq .leaf (.cond .leaf .leaf)) (.seq (.seq (.join [⟨.normal, [(72, .hole .bool)], []⟩] .leaf) (.cond (.seq .leaf .leaf) .leaf)) (.seq .leaf (.block (.loop ⟨.normal, [(6, .hole (.int .i64))], []⟩ [⟨(.exit 2), [], []⟩, ⟨.ret, [(2, .hole .bool)], []⟩] (.seq (.seq .leaf (.cond .leaf .leaf)) (.seq (.block (.seq (.join [⟨.normal, [(115, .hole .bool)], []⟩] .leaf) (.cond (.seq .leaf .leaf) .leaf))) .leaf))))))))) .leaf))))) (.seq .leaf .leaf)))))))
/- ductus/ductuslaw05.BasePairs -/
noncomputable def G.f4F : List Int → Option (Bool) :=
  fun (x : List Int) =>
  Option.bind (Go.Sx.G.f12F ()) fun (v1 : Bool) =>
    if (!v1) = Bool.true then Option.some Bool.false
    else
      if Decidable.decide ((↑(List.length x) : Int) > (500 : Int)) = Bool.true then Option.some Bool.true
      else
        Option.bind (Go.Sx.G.f14F x) fun (v2 : List Int) =>
          if ((↑(List.length v2) : Int) != (↑(List.length x) : Int)) = Bool.true then Option.some Bool.false
          else
            Option.bind
              (Go.Sx.iter
                (fun (s3 : Int) =>
                  if Decidable.decide (s3 < (↑(List.length x) : Int)) = Bool.true then
                    if (0 : Int) ≤ s3 ∧ s3 < (↑(List.length v2) : Int) then
                      if Decidable.decide (List.getD v2 (Int.toNat s3) (0 : Int) < (0 : Int)) = Bool.true then Option.some (Sum.inl (Go.IntKind.wrap Go.IntKind.i64 (s3 + (1 : Int))))
                      else
                        Option.bind
                          (if Decidable.decide (List.getD v2 (Int.toNat s3) (0 : Int) ≥ (↑(List.length x) : Int)) = Bool.true then Option.some Bool.true
                          else
                            if (0 : Int) ≤ List.getD v2 (Int.toNat s3) (0 : Int) ∧ List.getD v2 (Int.toNat s3) (0 : Int) < (↑(List.length v2) : Int) then
                              if (List.getD v2 (Int.toNat (List.getD v2 (Int.toNat s3) (0 : Int))) (0 : Int) != s3) = Bool.true then Option.some Bool.true
                              else
                                if (0 : Int) ≤ s3 ∧ s3 < (↑(List.length x) : Int) then
                                  Option.bind (Go.Sx.G.f22F (List.getD x (Int.toNat s3) (0 : Int))) fun (v4 : Bool) =>
                                    if (!v4 == Decidable.decide (List.getD v2 (Int.toNat s3) (0 : Int) > s3)) = Bool.true then Option.some Bool.true
                                    else
                                      if (0 : Int) ≤ Go.Sx.maxI s3 (List.getD v2 (Int.toNat s3) (0 : Int)) ∧ Go.Sx.maxI s3 (List.getD v2 (Int.toNat s3) (0 : Int)) < (↑(List.length x) : Int) then
                                        if (List.getD x (Int.toNat (Go.Sx.maxI s3 (List.getD v2 (Int.toNat s3) (0 : Int)))) (0 : Int) != (22 : Int)) = Bool.true then Option.some Bool.true
                                        else
                                          if (0 : Int) ≤ Go.Sx.minI s3 (List.getD v2 (Int.toNat s3) (0 : Int)) ∧ Go.Sx.minI s3 (List.getD v2 (Int.toNat s3) (0 : Int)) < (↑(List.length x) : Int) then
                                            Option.bind (Go.Sx.G.f22F (List.getD x (Int.toNat (Go.Sx.minI s3 (List.getD v2 (Int.toNat s3) (0 : Int)))) (0 : Int))) fun (v5 : Bool) => Option.some !v5
                                          else Option.none
                                      else Option.none
                                else Option.none
                            else Option.none)
                          fun (v4 : Bool) =>
                          if v4 = Bool.true then Option.some (Sum.inr (Sum.inr Bool.false))
                          else
                            Option.bind
                              (Go.Sx.iter
                                (fun (s5 : Int) =>
                                  if Decidable.decide (s5 < Go.Sx.maxI s3 (List.getD v2 (Int.toNat s3) (0 : Int))) = Bool.true then
                                    Option.bind
                                      (if (0 : Int) ≤ s5 ∧ s5 < (↑(List.length x) : Int) then
                                        if (List.getD x (Int.toNat s5) (0 : Int) == (10 : Int)) = Bool.true then Option.some Bool.true
                                        else
                                          if (0 : Int) ≤ s5 ∧ s5 < (↑(List.length v2) : Int) then
                                            if Decidable.decide (List.getD v2 (Int.toNat s5) (0 : Int) ≥ (0 : Int)) = Bool.true then
                                              if (0 : Int) ≤ s5 ∧ s5 < (↑(List.length v2) : Int) then
                                                if Decidable.decide (List.getD v2 (Int.toNat s5) (0 : Int) < Go.Sx.minI s3 (List.getD v2 (Int.toNat s3) (0 : Int))) = Bool.true then
                                                  Option.some Bool.true
                                                else
                                                  if (0 : Int) ≤ s5 ∧ s5 < (↑(List.length v2) : Int) then
                                                    Option.some (Decidable.decide (List.getD v2 (Int.toNat s5) (0 : Int) > Go.Sx.maxI s3 (List.getD v2 (Int.toNat s3) (0 : Int))))
                                                  else Option.none
                                              else Option.none
                                            else Option.some Bool.false
                                          else Option.none
                                      else Option.none)
                                      fun (v6 : Bool) => if v6 = Bool.true then Option.some (Sum.inr (Sum.inr Bool.false)) else Option.some (Sum.inl (Go.IntKind.wrap Go.IntKind.i64 (s5 + (1 : Int))))
                                  else Option.some (Sum.inr (Sum.inl ())))
                                (Go.IntKind.wrap Go.IntKind.i64 (Go.Sx.minI s3 (List.getD v2 (Int.toNat s3) (0 : Int)) + (1 : Int))))
                              fun (v5 : PUnit ⊕ Bool) =>
                              Sum.elim (fun (p6 : PUnit) => Option.some (Sum.inl (Go.IntKind.wrap Go.IntKind.i64 (s3 + (1 : Int))))) (fun (q6 : Bool) => Option.some (Sum.inr (Sum.inr q6))) v5
                    else Option.none
                  else Option.some (Sum.inr (Sum.inl ())))
                (0 : Int))
              fun (v3 : PUnit ⊕ Bool) => Sum.elim (fun (p4 : PUnit) => Option.some Bool.true) (fun (q4 : Bool) => Option.some q4) v3
theorem G.f4eq : ∀ x, runFn G.C G.f4Γ G.f4sig G.f4ann Go.Proofs.Tryd.f4 x = G.f4F x := by
  intro x
  kernel_rfl
noncomputable def G.f4con : Con := ⟨4, G.f4sig, G.f4F⟩
theorem G.f4ok : Con.Ok Go.Proofs.Tryd.prog G.C G.f4con :=
  runFn_ok (Γ := G.f4Γ) (an := G.f4ann) ⟨G.Cok, (List.forall_mem_cons.2 ⟨G.f12ok, (List.forall_mem_cons.2 ⟨G.f14ok, (List.forall_mem_cons.2 ⟨G.f22ok, (fun _ h => nomatch h)⟩)⟩)⟩), G.mixed⟩ Go.Proofs.Tryd.func4 rfl rfl (fun x y h => (G.f4eq x).trans h) (by decide)
def G.f6sig : Sig := ⟨⟨[.hole (.sl (.int .i64)), .hole (.arr 3 (.int .u16))], []⟩, ⟨[.hole .bool], []⟩⟩
noncomputable def G.f6Γ : List Con := [G.f12con, G.f16con]
def G.f6ann : Ann :=
  (.seq .leaf (.seq (.seq .leaf (.cond (.seq .leaf .leaf) .leaf)) (.seq (.seq .leaf (.cond (.seq .leaf .leaf) .leaf)) (.seq .leaf (.seq .leaf (.seq .leaf (.seq .leaf (.seq (.seq (.join [⟨.normal, [(66, .hole .bool)], [.gone]⟩] .leaf) (.cond (.seq .leaf .leaf) .leaf)) (.seq .leaf .leaf)))))))))
/- ductus/ductuslaw05.BaseFirsts -/
noncomputable def G.f6F : List Int × List Int → Option (Bool) :=
  fun (x : List Int × List Int) =>
  Option.bind (Go.Sx.G.f12F ()) fun (v1 : Bool) =>
    if (!v1) = Bool.true then Option.some Bool.false
    else
      if Decidable.decide ((↑(List.length x.fst) : Int) > (300 : Int)) = Bool.true then Option.some Bool.true
      else
        if (0 : Int) ≤ (0 : Int) ∧ (0 : Int) < (↑(3 : Nat) : Int) then
          if Go.IntKind.wrap Go.IntKind.i64 ((↑(List.length x.fst) : Int) + (1 : Int)) = (0 : Int) then Option.none
          else
            if (0 : Int) ≤ (1 : Int) ∧ (1 : Int) < (↑(3 : Nat) : Int) then
              if Go.IntKind.wrap Go.IntKind.i64 ((↑(List.length x.fst) : Int) + (1 : Int)) = (0 : Int) then Option.none
              else
                if (0 : Int) ≤ (2 : Int) ∧ (2 : Int) < (↑(3 : Nat) : Int) then
                  if Go.IntKind.wrap Go.IntKind.i64 ((↑(List.length x.fst) : Int) + (1 : Int)) = (0 : Int) then Option.none
                  else
                    Option.bind
                      (Go.Sx.G.f16F
                        (x.1, Int.tmod (Go.IntKind.wrap Go.IntKind.i64 (List.getD x.snd (nat_lit 0) (0 : Int))) (Go.IntKind.wrap Go.IntKind.i64 ((↑(List.length x.fst) : Int) + (1 : Int))),
                          if
                              Int.tmod (Go.IntKind.wrap Go.IntKind.i64 (List.getD x.snd (nat_lit 2) (0 : Int))) (Go.IntKind.wrap Go.IntKind.i64 ((↑(List.length x.fst) : Int) + (1 : Int))) <
                                Int.tmod (Go.IntKind.wrap Go.IntKind.i64 (List.getD x.snd (nat_lit 1) (0 : Int))) (Go.IntKind.wrap Go.IntKind.i64 ((↑(List.length x.fst) : Int) + (1 : Int))) then
                            Int.tmod (Go.IntKind.wrap Go.IntKind.i64 (List.getD x.snd (nat_lit 2) (0 : Int))) (Go.IntKind.wrap Go.IntKind.i64 ((↑(List.length x.fst) : Int) + (1 : Int)))
                          else Int.tmod (Go.IntKind.wrap Go.IntKind.i64 (List.getD x.snd (nat_lit 1) (0 : Int))) (Go.IntKind.wrap Go.IntKind.i64 ((↑(List.length x.fst) : Int) + (1 : Int)))))
                      fun (v2 : Int) =>
                      Option.bind
                        (Go.Sx.G.f16F
                          (x.1, Int.tmod (Go.IntKind.wrap Go.IntKind.i64 (List.getD x.snd (nat_lit 0) (0 : Int))) (Go.IntKind.wrap Go.IntKind.i64 ((↑(List.length x.fst) : Int) + (1 : Int))),
                            if
                                Int.tmod (Go.IntKind.wrap Go.IntKind.i64 (List.getD x.snd (nat_lit 2) (0 : Int))) (Go.IntKind.wrap Go.IntKind.i64 ((↑(List.length x.fst) : Int) + (1 : Int))) >
                                  Int.tmod (Go.IntKind.wrap Go.IntKind.i64 (List.getD x.snd (nat_lit 1) (0 : Int))) (Go.IntKind.wrap Go.IntKind.i64 ((↑(List.length x.fst) : Int) + (1 : Int))) then
                              Int.tmod (Go.IntKind.wrap Go.IntKind.i64 (List.getD x.snd (nat_lit 2) (0 : Int))) (Go.IntKind.wrap Go.IntKind.i64 ((↑(List.length x.fst) : Int) + (1 : Int)))
                            else Int.tmod (Go.IntKind.wrap Go.IntKind.i64 (List.getD x.snd (nat_lit 1) (0 : Int))) (Go.IntKind.wrap Go.IntKind.i64 ((↑(List.length x.fst) : Int) + (1 : Int)))))
                        fun (v3 : Int) =>
                        Option.bind
                          (if Decidable.decide (v2 < (-1 : Int)) = Bool.true then Option.some Bool.true
                          else
                            if Decidable.decide (v2 > (1 : Int)) = Bool.true then Option.some Bool.true
                            else
                              if Decidable.decide (v3 < (-1 : Int)) = Bool.true then Option.some Bool.true
                              else
                                if Decidable.decide (v3 > (1 : Int)) = Bool.true then Option.some Bool.true
                                else
                                  Option.bind
                                    (Go.Sx.G.f16F
                                      (x.1,
                                        Int.tmod (Go.IntKind.wrap Go.IntKind.i64 (List.getD x.snd (nat_lit 0) (0 : Int))) (Go.IntKind.wrap Go.IntKind.i64 ((↑(List.length x.fst) : Int) + (1 : Int))),
                                        Int.tmod (Go.IntKind.wrap Go.IntKind.i64 (List.getD x.snd (nat_lit 0) (0 : Int))) (Go.IntKind.wrap Go.IntKind.i64 ((↑(List.length x.fst) : Int) + (1 : Int)))))
                                    fun (v4 : Int) => Option.some (v4 != (-1 : Int)))
                          fun (v4 : Bool) => if v4 = Bool.true then Option.some Bool.false else if (v2 == (-1 : Int)) = Bool.true then Option.some Bool.true else Option.some (v2 == v3)
                else Option.none
            else Option.none
        else Option.none
theorem G.f6eq : ∀ x, runFn G.C G.f6Γ G.f6sig G.f6ann Go.Proofs.Tryd.f6 x = G.f6F x := by
  intro x
  kernel_rfl
noncomputable def G.f6con : Con := ⟨6, G.f6sig, G.f6F⟩
theorem G.f6ok : Con.Ok Go.Proofs.Tryd.prog G.C G.f6con :=
  runFn_ok (Γ := G.f6Γ) (an := G.f6ann) ⟨G.Cok, (List.forall_mem_cons.2 ⟨G.f12ok, (List.forall_mem_cons.2 ⟨G.f16ok, (fun _ h => nomatch h)⟩)⟩), G.mixed⟩ Go.Proofs.Tryd.func6 rfl rfl (fun x y h => (G.f6eq x).trans h) (by decide)
def G.f40sig : Sig := ⟨⟨[.ptr 0 0], [.cells [.hole (.int .i64), .own 1, .hole (.int .i64), .hole (.int .i64), .hole (.int .i64), .hole (.int .i64), .own 2, .own 3], .arr 69 (.st (.pair (.int .i64) (.pair (.int .i64) .bool))), .arr 3 (.int .i64), .arr 3 (.int .i64)]⟩, ⟨[], [.cells [.hole (.int .i64), .own 4, .hole (.int .i64), .hole (.int .i64), .hole (.int .i64), .hole (.int .i64), .own 5, .own 6], .gone, .gone, .gone, .arr 69 (.st (.pair (.int .i64) (.pair (.int .i64) .bool))), .arr 3 (.int .i64), .arr 3 (.int .i64)]⟩⟩
noncomputable def G.f40Γ : List Con := []
def G.f40ann : Ann :=
  (.seq (.eff 6 [] [0, 0, 2, 6, 14, 30, 0, 64, 192, 448, 960, 1984, 4094, 8191, 16383, 32767]) (.seq .leaf .leaf))
/- (*ductus/explicit.status).reset -/
noncomputable def G.f40F : Int × Int × Int × Int × Int × List (Int × Int × Bool) × List Int × List Int → Option (Int × Int × Int × Int × Int × List (Int × Int × Bool) × List Int × List Int) :=
  fun (x : Int × Int × Int × Int × Int × List (Int × Int × Bool) × List Int × List Int) =>
  if (0 : Int) ≤ (0 : Int) ∧ (0 : Int) ≤ (↑(List.length x.snd.snd.snd.snd.snd.fst) : Int) then
    if
        Go.Sx.roomOk (Int.toNat (0 : Int) + List.length [(x.1, (-1 : Int), Bool.false)])
          { kind := Go.Sx.TK.struct [((3 : Go.TypeId), (0 : Nat), (1 : Nat), Bool.false), ((3 : Go.TypeId), (1 : Nat), (1 : Nat), Bool.false), ((4 : Go.TypeId), (2 : Nat), (1 : Nat), Bool.false)],
              size := (3 : Nat), bytes := (24 : Nat), ty := Option.some (Go.Sx.Ty.st (Go.Sx.Ty.pair (Go.Sx.Ty.int Go.IntKind.i64) (Go.Sx.Ty.pair (Go.Sx.Ty.int Go.IntKind.i64) Go.Sx.Ty.bool))),
              zero := [Go.Sx.SV.val (Go.Sx.Ty.int Go.IntKind.i64) (0 : Int), Go.Sx.SV.val (Go.Sx.Ty.int Go.IntKind.i64) (0 : Int), Go.Sx.SV.bit Bool.false] : Go.Sx.TI }.bytes then
      Option.some
        (x.1, (0 : Int), (0 : Int), (0 : Int), if (1 : Int) > x.snd.snd.snd.snd.fst then (1 : Int) else x.snd.snd.snd.snd.fst,
          List.take (Int.toNat (0 : Int)) x.snd.snd.snd.snd.snd.fst ++ [(x.1, (-1 : Int), Bool.false)], x.snd.snd.snd.snd.snd.snd.1, x.snd.snd.snd.snd.snd.snd.2)
    else Option.none
  else Option.none
theorem G.f40eq : ∀ x, runFn G.C G.f40Γ G.f40sig G.f40ann Go.Proofs.Tryd.f40 x = G.f40F x := by
  intro x
  kernel_rfl
noncomputable def G.f40con : Con := ⟨40, G.f40sig, G.f40F⟩
theorem G.f40ok : Con.Ok Go.Proofs.Tryd.prog G.C G.f40con :=
  runFn_ok (Γ := G.f40Γ) (an := G.f40ann) ⟨G.Cok, (fun _ h => nomatch h), G.mixed⟩ Go.Proofs.Tryd.func40 rfl rfl (fun x y h => (G.f40eq x).trans h) (by decide)
def G.f51sig : Sig := ⟨⟨[.ro (.st (.pair (.int .i64) (.pair (.sl (.st (.pair (.int .i64) (.pair (.int .i64) .bool)))) (.pair (.int .i64) (.pair (.int .i64) (.pair (.int .i64) (.pair (.int .i64) (.pair (.sl (.int .i64)) (.sl (.int .i64))))))))))], []⟩, ⟨[.hole (.st (.pair (.int .i64) (.pair (.int .i64) .bool)))], []⟩⟩
noncomputable def G.f51Γ : List Con := []
def G.f51ann : Ann :=
  (.seq .leaf (.seq (.tail 12) .leaf))
/- (*ductus/explicit.status).last -/
noncomputable def G.f51F : Int × List (Int × Int × Bool) × Int × Int × Int × Int × List Int × List Int → Option (Int × Int × Bool) :=
  fun (x : Int × List (Int × Int × Bool) × Int × Int × Int × Int × List Int × List Int) =>
  if
      (0 : Int) ≤ Go.IntKind.wrap Go.IntKind.i64 ((↑(List.length x.snd.fst) : Int) - (1 : Int)) ∧
        Go.IntKind.wrap Go.IntKind.i64 ((↑(List.length x.snd.fst) : Int) - (1 : Int)) < (↑(List.length x.snd.fst) : Int) then
    Option.some
      ((List.getD x.snd.fst (Int.toNat (Go.IntKind.wrap Go.IntKind.i64 ((↑(List.length x.snd.fst) : Int) - (1 : Int)))) ((0 : Int), (0 : Int), Bool.false)).1,
        (List.getD x.snd.fst (Int.toNat (Go.IntKind.wrap Go.IntKind.i64 ((↑(List.length x.snd.fst) : Int) - (1 : Int)))) ((0 : Int), (0 : Int), Bool.false)).snd.1,
        (List.getD x.snd.fst (Int.toNat (Go.IntKind.wrap Go.IntKind.i64 ((↑(List.length x.snd.fst) : Int) - (1 : Int)))) ((0 : Int), (0 : Int), Bool.false)).snd.2)
  else Option.none
theorem G.f51eq : ∀ x, runFn G.C G.f51Γ G.f51sig G.f51ann Go.Proofs.Tryd.f51 x = G.f51F x := by
  intro x
  kernel_rfl
noncomputable def G.f51con : Con := ⟨51, G.f51sig, G.f51F⟩
theorem G.f51ok : Con.Ok Go.Proofs.Tryd.prog G.C G.f51con :=
  runFn_ok (Γ := G.f51Γ) (an := G.f51ann) ⟨G.Cok, (fun _ h => nomatch h), G.mixed⟩ Go.Proofs.Tryd.func51 rfl rfl (fun x y h => (G.f51eq x).trans h) (by decide)
def G.f50sig : Sig := ⟨⟨[.ptr 0 0, .hole (.int .i64), .hole (.int .i64)], [.cells [.hole (.int .i64), .own 1, .hole (.int .i64), .hole (.int .i64), .hole (.int .i64), .hole (.int .i64), .own 2, .own 3], .arr 69 (.st (.pair (.int .i64) (.pair (.int .i64) .bool))), .arr 3 (.int .i64), .arr 3 (.int .i64)]⟩, ⟨[], [.cells [.hole (.int .i64), .own 4, .hole (.int .i64), .hole (.int .i64), .hole (.int .i64), .hole (.int .i64), .own 5, .own 6], .gone, .gone, .gone, .arr 69 (.st (.pair (.int .i64) (.pair (.int .i64) .bool))), .arr 3 (.int .i64), .arr 3 (.int .i64)]⟩⟩
noncomputable def G.f50Γ : List Con := []
def G.f50ann : Ann :=
  (.eff 7 [14] [0, 0, 0, 4, 12, 28, 0, 64, 252, 0, 512, 1536, 3584, 0, 8192, 32764, 65533, 131069, 262141, 524287, 1048575, 2097151])
/- (*ductus/explicit.status).tell -/
noncomputable def G.f50F : Int × Int × Int × Int × Int × Int × Int × List (Int × Int × Bool) × List Int × List Int → Option (Int × Int × Int × Int × Int × List (Int × Int × Bool) × List Int × List Int) :=
  fun (x : Int × Int × Int × Int × Int × Int × Int × List (Int × Int × Bool) × List Int × List Int) =>
  if
      Go.Sx.roomOk (List.length x.snd.snd.snd.snd.snd.snd.snd.snd.fst + List.length [x.1])
        { kind := Go.Sx.TK.int Go.IntKind.i64, size := (1 : Nat), bytes := (8 : Nat), ty := Option.some (Go.Sx.Ty.int Go.IntKind.i64), zero := [Go.Sx.SV.val (Go.Sx.Ty.int Go.IntKind.i64) (0 : Int)] :
            Go.Sx.TI }.bytes then
    if
        Go.Sx.roomOk (List.length x.snd.snd.snd.snd.snd.snd.snd.snd.snd + List.length [x.snd.1])
          { kind := Go.Sx.TK.int Go.IntKind.i64, size := (1 : Nat), bytes := (8 : Nat), ty := Option.some (Go.Sx.Ty.int Go.IntKind.i64),
              zero := [Go.Sx.SV.val (Go.Sx.Ty.int Go.IntKind.i64) (0 : Int)] : Go.Sx.TI }.bytes then
      Option.some
        (x.snd.snd.1, x.snd.snd.snd.1, x.snd.snd.snd.snd.1, x.snd.snd.snd.snd.snd.1, x.snd.snd.snd.snd.snd.snd.1, x.snd.snd.snd.snd.snd.snd.snd.1, x.snd.snd.snd.snd.snd.snd.snd.snd.1 ++ [x.1],
          x.snd.snd.snd.snd.snd.snd.snd.snd.2 ++ [x.snd.1])
    else Option.none
  else Option.none
theorem G.f50eq : ∀ x, runFn G.C G.f50Γ G.f50sig G.f50ann Go.Proofs.Tryd.f50 x = G.f50F x := by
  intro x
  kernel_rfl
noncomputable def G.f50con : Con := ⟨50, G.f50sig, G.f50F⟩
theorem G.f50ok : Con.Ok Go.Proofs.Tryd.prog G.C G.f50con :=
  runFn_ok (Γ := G.f50Γ) (an := G.f50ann) ⟨G.Cok, (fun _ h => nomatch h), G.mixed⟩ Go.Proofs.Tryd.func50 rfl rfl (fun x y h => (G.f50eq x).trans h) (by decide)
def G.f28sig : Sig := ⟨⟨[.hole (.int .i64), .hole (.int .i64)], []⟩, ⟨[.hole (.int .i64)], []⟩⟩
noncomputable def G.f28Γ : List Con := []
def G.f28ann : Ann :=
  (.seq .leaf (.seq (.seq (.join [⟨.normal, [(10, .hole .bool)], []⟩] .leaf) (.cond (.seq .leaf .leaf) .leaf)) (.seq (.seq .leaf (.cond (.seq .leaf .leaf) .leaf)) (.seq .leaf .leaf))))
/- ductus/explicit.Next -/
noncomputable def G.f28F : Int × Int → Option (Int) :=
  fun (x : Int × Int) =>
  Option.bind (if Decidable.decide (x.fst < (0 : Int)) = Bool.true then Option.some Bool.true else Option.some (Decidable.decide (x.fst > (125 : Int)))) fun (v1 : Bool) =>
    if v1 = Bool.true then Option.some (-1 : Int)
    else
      if (x.snd == (1 : Int)) = Bool.true then
        Option.some
          (Go.IntKind.wrap Go.IntKind.i64
            (↑(BitVec.toNat (BitVec.ofInt (Go.IntKind.bits Go.IntKind.i64) (Go.IntKind.wrap Go.IntKind.i64 (x.fst + (1 : Int))) ||| BitVec.ofInt (Go.IntKind.bits Go.IntKind.i64) (1 : Int))) : Int))
      else
        Option.some
          (Go.IntKind.wrap Go.IntKind.i64
            (↑(BitVec.toNat (BitVec.ofInt (Go.IntKind.bits Go.IntKind.i64) (Go.IntKind.wrap Go.IntKind.i64 (x.fst + (2 : Int))) &&& ~~~BitVec.ofInt (Go.IntKind.bits Go.IntKind.i64) (1 : Int))) : Int))
theorem G.f28eq : ∀ x, runFn G.C G.f28Γ G.f28sig G.f28ann Go.Proofs.Tryd.f28 x = G.f28F x := by
  intro x
  kernel_rfl
noncomputable def G.f28con : Con := ⟨28, G.f28sig, G.f28F⟩
theorem G.f28ok : Con.Ok Go.Proofs.Tryd.prog G.C G.f28con :=
  runFn_ok (Γ := G.f28Γ) (an := G.f28ann) ⟨G.Cok, (fun _ h => nomatch h), G.mixed⟩ Go.Proofs.Tryd.func28 rfl rfl (fun x y h => (G.f28eq x).trans h) (by decide)
def G.f60sig : Sig := ⟨⟨[.ptr 0 0, .hole (.st (.pair (.int .i64) (.pair (.int .i64) .bool)))], [.cells [.hole (.int .i64), .own 1, .hole (.int .i64), .hole (.int .i64), .hole (.int .i64), .hole (.int .i64), .own 2, .own 3], .arr 69 (.st (.pair (.int .i64) (.pair (.int .i64) .bool))), .arr 3 (.int .i64), .arr 3 (.int .i64)]⟩, ⟨[.hole .bool], [.cells [.hole (.int .i64), .own 4, .hole (.int .i64), .hole (.int .i64), .hole (.int .i64), .hole (.int .i64), .own 5, .own 6], .gone, .gone, .gone, .arr 69 (.st (.pair (.int .i64) (.pair (.int .i64) .bool))), .arr 3 (.int .i64), .arr 3 (.int .i64)]⟩⟩
noncomputable def G.f60Γ : List Con := []
def G.f60ann : Ann :=
  (.seq .leaf (.seq (.seq (.join [⟨.normal, [(21, .hole .bool)], [.cells [.hole (.int .i64), .own 1, .hole (.int .i64), .hole (.int .i64), .hole (.int .i64), .hole (.int .i64), .own 2, .own 3], .arr 69 (.st (.pair (.int .i64) (.pair (.int .i64) .bool))), .arr 3 (.int .i64), .arr 3 (.int .i64), .cells [.hole (.int .i64), .hole (.int .i64), .hole .bool]]⟩] .leaf) (.cond (.seq .leaf .leaf) .leaf)) (.seq (.eff 7 [] [0, 0, 2, 6, 14, 0, 32, 126, 255, 511, 1023]) (.seq (.tail 13) (.seq .leaf .leaf)))))
/- (*ductus/explicit.status).push -/
noncomputable def G.f60F : (Int × Int × Bool) × Int × Int × Int × Int × Int × List (Int × Int × Bool) × List Int × List Int → Option (Bool × Int × Int × Int × Int × Int × List (Int × Int × Bool) × List Int × List Int) :=
  fun (x : (Int × Int × Bool) × Int × Int × Int × Int × Int × List (Int × Int × Bool) × List Int × List Int) =>
  Option.bind
    (if Decidable.decide (x.fst.fst > (125 : Int)) = Bool.true then
      Option.some
        (Bool.true, x.snd.1, x.snd.snd.1, x.snd.snd.snd.1, x.snd.snd.snd.snd.1, x.snd.snd.snd.snd.snd.1, x.snd.snd.snd.snd.snd.snd.1, x.snd.snd.snd.snd.snd.snd.snd.1, x.snd.snd.snd.snd.snd.snd.snd.2,
          x.fst.1, x.fst.snd.1, x.fst.snd.2)
    else
      if Decidable.decide (x.snd.snd.fst > (0 : Int)) = Bool.true then
        Option.some
          (Bool.true, x.snd.1, x.snd.snd.1, x.snd.snd.snd.1, x.snd.snd.snd.snd.1, x.snd.snd.snd.snd.snd.1, x.snd.snd.snd.snd.snd.snd.1, x.snd.snd.snd.snd.snd.snd.snd.1,
            x.snd.snd.snd.snd.snd.snd.snd.2, x.fst.1, x.fst.snd.1, x.fst.snd.2)
      else
        Option.some
          (Decidable.decide (x.snd.snd.snd.fst > (0 : Int)), x.snd.1, x.snd.snd.1, x.snd.snd.snd.1, x.snd.snd.snd.snd.1, x.snd.snd.snd.snd.snd.1, x.snd.snd.snd.snd.snd.snd.1,
            x.snd.snd.snd.snd.snd.snd.snd.1, x.snd.snd.snd.snd.snd.snd.snd.2, x.fst.1, x.fst.snd.1, x.fst.snd.2))
    fun (v1 : Bool × Int × Int × Int × Int × Int × List (Int × Int × Bool) × List Int × List Int × Int × Int × Bool) =>
    if v1.fst = Bool.true then
      Option.some
        (Bool.false, v1.snd.1, v1.snd.snd.1, v1.snd.snd.snd.1, v1.snd.snd.snd.snd.1, v1.snd.snd.snd.snd.snd.1, v1.snd.snd.snd.snd.snd.snd.1, v1.snd.snd.snd.snd.snd.snd.snd.1,
          v1.snd.snd.snd.snd.snd.snd.snd.snd.1)
    else
      if
          Go.Sx.roomOk
            (List.length v1.snd.snd.snd.snd.snd.snd.fst +
              List.length [(v1.snd.snd.snd.snd.snd.snd.snd.snd.snd.1, v1.snd.snd.snd.snd.snd.snd.snd.snd.snd.snd.1, v1.snd.snd.snd.snd.snd.snd.snd.snd.snd.snd.2)])
            { kind := Go.Sx.TK.struct [((3 : Go.TypeId), (0 : Nat), (1 : Nat), Bool.false), ((3 : Go.TypeId), (1 : Nat), (1 : Nat), Bool.false), ((4 : Go.TypeId), (2 : Nat), (1 : Nat), Bool.false)],
                size := (3 : Nat), bytes := (24 : Nat), ty := Option.some (Go.Sx.Ty.st (Go.Sx.Ty.pair (Go.Sx.Ty.int Go.IntKind.i64) (Go.Sx.Ty.pair (Go.Sx.Ty.int Go.IntKind.i64) Go.Sx.Ty.bool))),
                zero := [Go.Sx.SV.val (Go.Sx.Ty.int Go.IntKind.i64) (0 : Int), Go.Sx.SV.val (Go.Sx.Ty.int Go.IntKind.i64) (0 : Int), Go.Sx.SV.bit Bool.false] : Go.Sx.TI }.bytes then
        Option.some
          (Bool.true, v1.snd.1, v1.snd.snd.1, v1.snd.snd.snd.1, v1.snd.snd.snd.snd.1,
            if
                (↑(List.length
                        (v1.snd.snd.snd.snd.snd.snd.1 ++ [(v1.snd.snd.snd.snd.snd.snd.snd.snd.snd.1, v1.snd.snd.snd.snd.snd.snd.snd.snd.snd.snd.1, v1.snd.snd.snd.snd.snd.snd.snd.snd.snd.snd.2)])) :
                    Int) >
                  v1.snd.snd.snd.snd.snd.fst then
              (↑(List.length
                    (v1.snd.snd.snd.snd.snd.snd.1 ++ [(v1.snd.snd.snd.snd.snd.snd.snd.snd.snd.1, v1.snd.snd.snd.snd.snd.snd.snd.snd.snd.snd.1, v1.snd.snd.snd.snd.snd.snd.snd.snd.snd.snd.2)])) :
                Int)
            else v1.snd.snd.snd.snd.snd.fst,
            v1.snd.snd.snd.snd.snd.snd.1 ++ [(v1.snd.snd.snd.snd.snd.snd.snd.snd.snd.1, v1.snd.snd.snd.snd.snd.snd.snd.snd.snd.snd.1, v1.snd.snd.snd.snd.snd.snd.snd.snd.snd.snd.2)],
            v1.snd.snd.snd.snd.snd.snd.snd.1, v1.snd.snd.snd.snd.snd.snd.snd.snd.1)
      else Option.none
theorem G.f60eq : ∀ x, runFn G.C G.f60Γ G.f60sig G.f60ann Go.Proofs.Tryd.f60 x = G.f60F x := by
  intro x
  kernel_rfl
noncomputable def G.f60con : Con := ⟨60, G.f60sig, G.f60F⟩
theorem G.f60ok : Con.Ok Go.Proofs.Tryd.prog G.C G.f60con :=
  runFn_ok (Γ := G.f60Γ) (an := G.f60ann) ⟨G.Cok, (fun _ h => nomatch h), G.mixed⟩ Go.Proofs.Tryd.func60 rfl rfl (fun x y h => (G.f60eq x).trans h) (by decide)
def G.f52sig : Sig := ⟨⟨[.ptr 0 0, .hole (.int .i64), .hole (.int .i64)], [.cells [.hole (.int .i64), .own 1, .hole (.int .i64), .hole (.int .i64), .hole (.int .i64), .hole (.int .i64), .own 2, .own 3], .arr 69 (.st (.pair (.int .i64) (.pair (.int .i64) .bool))), .arr 3 (.int .i64), .arr 3 (.int .i64)]⟩, ⟨[], [.cells [.hole (.int .i64), .own 4, .hole (.int .i64), .hole (.int .i64), .hole (.int .i64), .hole (.int .i64), .own 5, .own 6], .gone, .gone, .gone, .arr 69 (.st (.pair (.int .i64) (.pair (.int .i64) .bool))), .arr 3 (.int .i64), .arr 3 (.int .i64)]⟩⟩
noncomputable def G.f52Γ : List Con := [G.f51con, G.f28con, G.f60con]
def G.f52ann : Ann :=
  (.seq (.join [⟨.normal, [(22, .hole .bool)], [.cells [.hole (.int .i64), .own 4, .hole (.int .i64), .hole (.int .i64), .hole (.int .i64), .hole (.int .i64), .own 5, .own 6], .gone, .gone, .gone, .arr 69 (.st (.pair (.int .i64) (.pair (.int .i64) .bool))), .arr 3 (.int .i64), .arr 3 (.int .i64)]⟩] .leaf) (.cond .leaf .leaf))
/- (*ductus/explicit.status).embed -/
noncomputable def G.f52F : Int × Int × Int × Int × Int × Int × Int × List (Int × Int × Bool) × List Int × List Int → Option (Int × Int × Int × Int × Int × List (Int × Int × Bool) × List Int × List Int) :=
  fun (x : Int × Int × Int × Int × Int × Int × Int × List (Int × Int × Bool) × List Int × List Int) =>
  Option.bind
    (Option.bind
      (Go.Sx.G.f51F
        (x.snd.snd.1, x.snd.snd.snd.snd.snd.snd.snd.1, x.snd.snd.snd.1, x.snd.snd.snd.snd.1, x.snd.snd.snd.snd.snd.1, x.snd.snd.snd.snd.snd.snd.1, x.snd.snd.snd.snd.snd.snd.snd.snd.1,
          x.snd.snd.snd.snd.snd.snd.snd.snd.2))
      fun (v1 : Int × Int × Bool) =>
      Option.bind (Go.Sx.G.f28F (v1.1, x.1)) fun (v2 : Int) =>
        Option.bind
          (Go.Sx.G.f60F
            ((v2, x.snd.1, Bool.false), x.snd.snd.1, x.snd.snd.snd.1, x.snd.snd.snd.snd.1, x.snd.snd.snd.snd.snd.1, x.snd.snd.snd.snd.snd.snd.1, x.snd.snd.snd.snd.snd.snd.snd.1,
              x.snd.snd.snd.snd.snd.snd.snd.snd.1, x.snd.snd.snd.snd.snd.snd.snd.snd.2))
          fun (v3 : Bool × Int × Int × Int × Int × Int × List (Int × Int × Bool) × List Int × List Int) =>
          if (!v3.fst) = Bool.true then
            Option.some
              (v3.snd.snd.fst == (0 : Int), v3.snd.1, v3.snd.snd.1, v3.snd.snd.snd.1, v3.snd.snd.snd.snd.1, v3.snd.snd.snd.snd.snd.1, v3.snd.snd.snd.snd.snd.snd.1, v3.snd.snd.snd.snd.snd.snd.snd.1,
                v3.snd.snd.snd.snd.snd.snd.snd.2)
          else
            Option.some
              (Bool.false, v3.snd.1, v3.snd.snd.1, v3.snd.snd.snd.1, v3.snd.snd.snd.snd.1, v3.snd.snd.snd.snd.snd.1, v3.snd.snd.snd.snd.snd.snd.1, v3.snd.snd.snd.snd.snd.snd.snd.1,
                v3.snd.snd.snd.snd.snd.snd.snd.2))
    fun (v1 : Bool × Int × Int × Int × Int × Int × List (Int × Int × Bool) × List Int × List Int) =>
    if v1.fst = Bool.true then
      Option.some
        (v1.snd.1, v1.snd.snd.1, Go.IntKind.wrap Go.IntKind.i64 (v1.snd.snd.snd.fst + (1 : Int)), v1.snd.snd.snd.snd.1, v1.snd.snd.snd.snd.snd.1, v1.snd.snd.snd.snd.snd.snd.1,
          v1.snd.snd.snd.snd.snd.snd.snd.1, v1.snd.snd.snd.snd.snd.snd.snd.2)
    else
      Option.some
        (v1.snd.1, v1.snd.snd.1, v1.snd.snd.snd.1, v1.snd.snd.snd.snd.1, v1.snd.snd.snd.snd.snd.1, v1.snd.snd.snd.snd.snd.snd.1, v1.snd.snd.snd.snd.snd.snd.snd.1, v1.snd.snd.snd.snd.snd.snd.snd.2)
theorem G.f52eq : ∀ x, runFn G.C G.f52Γ G.f52sig G.f52ann Go.Proofs.Tryd.f52 x = G.f52F x := by
  intro x
  kernel_rfl
noncomputable def G.f52con : Con := ⟨52, G.f52sig, G.f52F⟩
theorem G.f52ok : Con.Ok Go.Proofs.Tryd.prog G.C G.f52con :=
  runFn_ok (Γ := G.f52Γ) (an := G.f52ann) ⟨G.Cok, (List.forall_mem_cons.2 ⟨G.f51ok, (List.forall_mem_cons.2 ⟨G.f28ok, (List.forall_mem_cons.2 ⟨G.f60ok, (fun _ h => nomatch h)⟩)⟩)⟩), G.mixed⟩ Go.Proofs.Tryd.func52 rfl rfl (fun x y h => (G.f52eq x).trans h) (by decide)
def G.f61sig : Sig := ⟨⟨[.ptr 0 0], [.cells [.hole (.int .i64), .own 1, .hole (.int .i64), .hole (.int .i64), .hole (.int .i64), .hole (.int .i64), .own 2, .own 3], .arr 69 (.st (.pair (.int .i64) (.pair (.int .i64) .bool))), .arr 3 (.int .i64), .arr 3 (.int .i64)]⟩, ⟨[.hole (.st (.pair (.int .i64) (.pair (.int .i64) .bool)))], [.cells [.hole (.int .i64), .own 4, .hole (.int .i64), .hole (.int .i64), .hole (.int .i64), .hole (.int .i64), .own 5, .own 6], .gone, .gone, .gone, .arr 69 (.st (.pair (.int .i64) (.pair (.int .i64) .bool))), .arr 3 (.int .i64), .arr 3 (.int .i64)]⟩⟩
noncomputable def G.f61Γ : List Con := [G.f51con]
def G.f61ann : Ann :=
  (.seq .leaf (.seq .leaf (.seq (.tail 14) (.seq .leaf .leaf))))
/- (*ductus/explicit.status).pop -/
noncomputable def G.f61F : Int × Int × Int × Int × Int × List (Int × Int × Bool) × List Int × List Int → Option ((Int × Int × Bool) × Int × Int × Int × Int × Int × List (Int × Int × Bool) × List Int × List Int) :=
  fun (x : Int × Int × Int × Int × Int × List (Int × Int × Bool) × List Int × List Int) =>
  Option.bind (Go.Sx.G.f51F (x.1, x.snd.snd.snd.snd.snd.1, x.snd.1, x.snd.snd.1, x.snd.snd.snd.1, x.snd.snd.snd.snd.1, x.snd.snd.snd.snd.snd.snd.1, x.snd.snd.snd.snd.snd.snd.2))
    fun (v1 : Int × Int × Bool) =>
    if
        (0 : Int) ≤ Go.IntKind.wrap Go.IntKind.i64 ((↑(List.length x.snd.snd.snd.snd.snd.fst) : Int) - (1 : Int)) ∧
          Go.IntKind.wrap Go.IntKind.i64 ((↑(List.length x.snd.snd.snd.snd.snd.fst) : Int) - (1 : Int)) ≤ (↑(List.length x.snd.snd.snd.snd.snd.fst) : Int) then
      Option.some
        ((v1.1, v1.snd.1, v1.snd.2), x.1, x.snd.1, x.snd.snd.1, x.snd.snd.snd.1, x.snd.snd.snd.snd.1,
          List.take (Int.toNat (Go.IntKind.wrap Go.IntKind.i64 ((↑(List.length x.snd.snd.snd.snd.snd.fst) : Int) - (1 : Int)))) x.snd.snd.snd.snd.snd.1, x.snd.snd.snd.snd.snd.snd.1,
          x.snd.snd.snd.snd.snd.snd.2)
    else Option.none
theorem G.f61eq : ∀ x, runFn G.C G.f61Γ G.f61sig G.f61ann Go.Proofs.Tryd.f61 x = G.f61F x := by
  intro x
  kernel_rfl
noncomputable def G.f61con : Con := ⟨61, G.f61sig, G.f61F⟩
theorem G.f61ok : Con.Ok Go.Proofs.Tryd.prog G.C G.f61con :=
  runFn_ok (Γ := G.f61Γ) (an := G.f61ann) ⟨G.Cok, (List.forall_mem_cons.2 ⟨G.f51ok, (fun _ h => nomatch h)⟩), G.mixed⟩ Go.Proofs.Tryd.func61 rfl rfl (fun x y h => (G.f61eq x).trans h) (by decide)
def G.f53sig : Sig := ⟨⟨[.ptr 0 0], [.cells [.hole (.int .i64), .own 1, .hole (.int .i64), .hole (.int .i64), .hole (.int .i64), .hole (.int .i64), .own 2, .own 3], .arr 69 (.st (.pair (.int .i64) (.pair (.int .i64) .bool))), .arr 3 (.int .i64), .arr 3 (.int .i64)]⟩, ⟨[], [.cells [.hole (.int .i64), .own 4, .hole (.int .i64), .hole (.int .i64), .hole (.int .i64), .hole (.int .i64), .own 5, .own 6], .gone, .gone, .gone, .arr 69 (.st (.pair (.int .i64) (.pair (.int .i64) .bool))), .arr 3 (.int .i64), .arr 3 (.int .i64)]⟩⟩
noncomputable def G.f53Γ : List Con := [G.f51con, G.f61con]
def G.f53ann : Ann :=
  (.block (.seq .leaf (.cond .leaf (.seq .leaf (.cond .leaf (.seq (.join [⟨.normal, [(21, .hole .bool)], [.cells [.hole (.int .i64), .own 1, .hole (.int .i64), .hole (.int .i64), .hole (.int .i64), .hole (.int .i64), .own 2, .own 3], .arr 69 (.st (.pair (.int .i64) (.pair (.int .i64) .bool))), .arr 3 (.int .i64), .arr 3 (.int .i64)]⟩] .leaf) (.cond .leaf .leaf)))))))
/- (*ductus/explicit.status).back -/
noncomputable def G.f53F : Int × Int × Int × Int × Int × List (Int × Int × Bool) × List Int × List Int → Option (Int × Int × Int × Int × Int × List (Int × Int × Bool) × List Int × List Int) :=
  fun (x : Int × Int × Int × Int × Int × List (Int × Int × Bool) × List Int × List Int) =>
  if Decidable.decide (x.snd.fst > (0 : Int)) = Bool.true then
    Option.some (x.1, x.snd.1, x.snd.snd.1, x.snd.snd.snd.1, x.snd.snd.snd.snd.1, x.snd.snd.snd.snd.snd.1, x.snd.snd.snd.snd.snd.snd.1, x.snd.snd.snd.snd.snd.snd.2)
  else
    if Decidable.decide (x.snd.snd.fst > (0 : Int)) = Bool.true then
      Option.some
        (x.1, x.snd.1, Go.IntKind.wrap Go.IntKind.i64 (x.snd.snd.fst - (1 : Int)), x.snd.snd.snd.1, x.snd.snd.snd.snd.1, x.snd.snd.snd.snd.snd.1, x.snd.snd.snd.snd.snd.snd.1,
          x.snd.snd.snd.snd.snd.snd.2)
    else
      Option.bind
        (if Decidable.decide ((↑(List.length x.snd.snd.snd.snd.snd.fst) : Int) > (1 : Int)) = Bool.true then
          Option.bind (Go.Sx.G.f51F (x.1, x.snd.snd.snd.snd.snd.1, x.snd.1, x.snd.snd.1, x.snd.snd.snd.1, x.snd.snd.snd.snd.1, x.snd.snd.snd.snd.snd.snd.1, x.snd.snd.snd.snd.snd.snd.2))
            fun (v1 : Int × Int × Bool) =>
            Option.some (!v1.snd.snd, x.1, x.snd.1, x.snd.snd.1, x.snd.snd.snd.1, x.snd.snd.snd.snd.1, x.snd.snd.snd.snd.snd.1, x.snd.snd.snd.snd.snd.snd.1, x.snd.snd.snd.snd.snd.snd.2)
        else Option.some (Bool.false, x.1, x.snd.1, x.snd.snd.1, x.snd.snd.snd.1, x.snd.snd.snd.snd.1, x.snd.snd.snd.snd.snd.1, x.snd.snd.snd.snd.snd.snd.1, x.snd.snd.snd.snd.snd.snd.2))
        fun (v1 : Bool × Int × Int × Int × Int × Int × List (Int × Int × Bool) × List Int × List Int) =>
        if v1.fst = Bool.true then
          Option.bind
            (Go.Sx.G.f61F
              (v1.snd.1, v1.snd.snd.1, v1.snd.snd.snd.1, v1.snd.snd.snd.snd.1, v1.snd.snd.snd.snd.snd.1, v1.snd.snd.snd.snd.snd.snd.1, v1.snd.snd.snd.snd.snd.snd.snd.1,
                v1.snd.snd.snd.snd.snd.snd.snd.2))
            fun (v2 : (Int × Int × Bool) × Int × Int × Int × Int × Int × List (Int × Int × Bool) × List Int × List Int) =>
            Option.some
              (v2.snd.1, v2.snd.snd.1, v2.snd.snd.snd.1, v2.snd.snd.snd.snd.1, v2.snd.snd.snd.snd.snd.1, v2.snd.snd.snd.snd.snd.snd.1, v2.snd.snd.snd.snd.snd.snd.snd.1,
                v2.snd.snd.snd.snd.snd.snd.snd.2)
        else
          Option.some
            (v1.snd.1, v1.snd.snd.1, v1.snd.snd.snd.1, v1.snd.snd.snd.snd.1, v1.snd.snd.snd.snd.snd.1, v1.snd.snd.snd.snd.snd.snd.1, v1.snd.snd.snd.snd.snd.snd.snd.1, v1.snd.snd.snd.snd.snd.snd.snd.2)
theorem G.f53eq : ∀ x, runFn G.C G.f53Γ G.f53sig G.f53ann Go.Proofs.Tryd.f53 x = G.f53F x := by
  intro x
  kernel_rfl
noncomputable def G.f53con : Con := ⟨53, G.f53sig, G.f53F⟩
theorem G.f53ok : Con.Ok Go.Proofs.Tryd.prog G.C G.f53con :=
  runFn_ok (Γ := G.f53Γ) (an := G.f53ann) ⟨G.Cok, (List.forall_mem_cons.2 ⟨G.f51ok, (List.forall_mem_cons.2 ⟨G.f61ok, (fun _ h => nomatch h)⟩)⟩), G.mixed⟩ Go.Proofs.Tryd.func53 rfl rfl (fun x y h => (G.f53eq x).trans h) (by decide)
def G.f54sig : Sig := ⟨⟨[.ptr 0 0, .hole (.int .i64)], [.cells [.hole (.int .i64), .own 1, .hole (.int .i64), .hole (.int .i64), .hole (.int .i64), .hole (.int .i64), .own 2, .own 3], .arr 69 (.st (.pair (.int .i64) (.pair (.int .i64) .bool))), .arr 3 (.int .i64), .arr 3 (.int .i64)]⟩, ⟨[], [.cells [.hole (.int .i64), .own 4, .hole (.int .i64), .hole (.int .i64), .hole (.int .i64), .hole (.int .i64), .own 5, .own 6], .gone, .gone, .gone, .arr 69 (.st (.pair (.int .i64) (.pair (.int .i64) .bool))), .arr 3 (.int .i64), .arr 3 (.int .i64)]⟩⟩
noncomputable def G.f54Γ : List Con := [G.f51con, G.f50con]
def G.f54ann : Ann :=
  (.seq .leaf (.seq (.seq .leaf (.cond .leaf .leaf)) .leaf))
/- (*ductus/explicit.status).place -/
noncomputable def G.f54F : Int × Int × Int × Int × Int × Int × List (Int × Int × Bool) × List Int × List Int → Option (Int × Int × Int × Int × Int × List (Int × Int × Bool) × List Int × List Int) :=
  fun (x : Int × Int × Int × Int × Int × Int × List (Int × Int × Bool) × List Int × List Int) =>
  Option.bind
    (Go.Sx.G.f51F (x.snd.1, x.snd.snd.snd.snd.snd.snd.1, x.snd.snd.1, x.snd.snd.snd.1, x.snd.snd.snd.snd.1, x.snd.snd.snd.snd.snd.1, x.snd.snd.snd.snd.snd.snd.snd.1, x.snd.snd.snd.snd.snd.snd.snd.2))
    fun (v1 : Int × Int × Bool) =>
    if (v1.snd.fst != (-1 : Int)) = Bool.true then
      Option.bind
        (Go.Sx.G.f50F
          (v1.1, v1.snd.1, x.snd.1, x.snd.snd.1, x.snd.snd.snd.1, x.snd.snd.snd.snd.1, x.snd.snd.snd.snd.snd.1, x.snd.snd.snd.snd.snd.snd.1, x.snd.snd.snd.snd.snd.snd.snd.1,
            x.snd.snd.snd.snd.snd.snd.snd.2))
        fun (v2 : Int × Int × Int × Int × Int × List (Int × Int × Bool) × List Int × List Int) =>
        Option.some (v2.1, v2.snd.1, v2.snd.snd.1, v2.snd.snd.snd.1, v2.snd.snd.snd.snd.1, v2.snd.snd.snd.snd.snd.1, v2.snd.snd.snd.snd.snd.snd.1, v2.snd.snd.snd.snd.snd.snd.2)
    else
      Option.bind
        (Go.Sx.G.f50F
          (v1.1, x.1, x.snd.1, x.snd.snd.1, x.snd.snd.snd.1, x.snd.snd.snd.snd.1, x.snd.snd.snd.snd.snd.1, x.snd.snd.snd.snd.snd.snd.1, x.snd.snd.snd.snd.snd.snd.snd.1,
            x.snd.snd.snd.snd.snd.snd.snd.2))
        fun (v2 : Int × Int × Int × Int × Int × List (Int × Int × Bool) × List Int × List Int) =>
        Option.some (v2.1, v2.snd.1, v2.snd.snd.1, v2.snd.snd.snd.1, v2.snd.snd.snd.snd.1, v2.snd.snd.snd.snd.snd.1, v2.snd.snd.snd.snd.snd.snd.1, v2.snd.snd.snd.snd.snd.snd.2)
theorem G.f54eq : ∀ x, runFn G.C G.f54Γ G.f54sig G.f54ann Go.Proofs.Tryd.f54 x = G.f54F x := by
  intro x
  kernel_rfl
noncomputable def G.f54con : Con := ⟨54, G.f54sig, G.f54F⟩
theorem G.f54ok : Con.Ok Go.Proofs.Tryd.prog G.C G.f54con :=
  runFn_ok (Γ := G.f54Γ) (an := G.f54ann) ⟨G.Cok, (List.forall_mem_cons.2 ⟨G.f51ok, (List.forall_mem_cons.2 ⟨G.f50ok, (fun _ h => nomatch h)⟩)⟩), G.mixed⟩ Go.Proofs.Tryd.func54 rfl rfl (fun x y h => (G.f54eq x).trans h) (by decide)
def G.f55sig : Sig := ⟨⟨[.ptr 0 0, .hole (.int .i64)], [.cells [.hole (.int .i64), .own 1, .hole (.int .i64), .hole (.int .i64), .hole (.int .i64), .hole (.int .i64), .own 2, .own 3], .arr 69 (.st (.pair (.int .i64) (.pair (.int .i64) .bool))), .arr 3 (.int .i64), .arr 3 (.int .i64)]⟩, ⟨[], [.cells [.hole (.int .i64), .own 4, .hole (.int .i64), .hole (.int .i64), .hole (.int .i64), .hole (.int .i64), .own 5, .own 6], .gone, .gone, .gone, .arr 69 (.st (.pair (.int .i64) (.pair (.int .i64) .bool))), .arr 3 (.int .i64), .arr 3 (.int .i64)]⟩⟩
noncomputable def G.f55Γ : List Con := [G.f51con, G.f28con, G.f60con]
def G.f55ann : Ann :=
  (.seq .leaf (.cond .leaf .leaf))
/- (*ductus/explicit.status).isolate -/
noncomputable def G.f55F : Int × Int × Int × Int × Int × Int × List (Int × Int × Bool) × List Int × List Int → Option (Int × Int × Int × Int × Int × List (Int × Int × Bool) × List Int × List Int) :=
  fun (x : Int × Int × Int × Int × Int × Int × List (Int × Int × Bool) × List Int × List Int) =>
  Option.bind
    (Go.Sx.G.f51F (x.snd.1, x.snd.snd.snd.snd.snd.snd.1, x.snd.snd.1, x.snd.snd.snd.1, x.snd.snd.snd.snd.1, x.snd.snd.snd.snd.snd.1, x.snd.snd.snd.snd.snd.snd.snd.1, x.snd.snd.snd.snd.snd.snd.snd.2))
    fun (v1 : Int × Int × Bool) =>
    Option.bind (Go.Sx.G.f28F (v1.1, x.1)) fun (v2 : Int) =>
      Option.bind
        (Go.Sx.G.f60F
          ((v2, (-1 : Int), Bool.true), x.snd.1, x.snd.snd.1, x.snd.snd.snd.1, x.snd.snd.snd.snd.1, x.snd.snd.snd.snd.snd.1, x.snd.snd.snd.snd.snd.snd.1, x.snd.snd.snd.snd.snd.snd.snd.1,
            x.snd.snd.snd.snd.snd.snd.snd.2))
        fun (v3 : Bool × Int × Int × Int × Int × Int × List (Int × Int × Bool) × List Int × List Int) =>
        if v3.fst = Bool.true then
          Option.some
            (v3.snd.1, v3.snd.snd.1, v3.snd.snd.snd.1, Go.IntKind.wrap Go.IntKind.i64 (v3.snd.snd.snd.snd.fst + (1 : Int)), v3.snd.snd.snd.snd.snd.1, v3.snd.snd.snd.snd.snd.snd.1,
              v3.snd.snd.snd.snd.snd.snd.snd.1, v3.snd.snd.snd.snd.snd.snd.snd.2)
        else
          Option.some
            (v3.snd.1, Go.IntKind.wrap Go.IntKind.i64 (v3.snd.snd.fst + (1 : Int)), v3.snd.snd.snd.1, v3.snd.snd.snd.snd.1, v3.snd.snd.snd.snd.snd.1, v3.snd.snd.snd.snd.snd.snd.1,
              v3.snd.snd.snd.snd.snd.snd.snd.1, v3.snd.snd.snd.snd.snd.snd.snd.2)
theorem G.f55eq : ∀ x, runFn G.C G.f55Γ G.f55sig G.f55ann Go.Proofs.Tryd.f55 x = G.f55F x := by
  intro x
  kernel_rfl
noncomputable def G.f55con : Con := ⟨55, G.f55sig, G.f55F⟩
theorem G.f55ok : Con.Ok Go.Proofs.Tryd.prog G.C G.f55con :=
  runFn_ok (Γ := G.f55Γ) (an := G.f55ann) ⟨G.Cok, (List.forall_mem_cons.2 ⟨G.f51ok, (List.forall_mem_cons.2 ⟨G.f28ok, (List.forall_mem_cons.2 ⟨G.f60ok, (fun _ h => nomatch h)⟩)⟩)⟩), G.mixed⟩ Go.Proofs.Tryd.func55 rfl rfl (fun x y h => (G.f55eq x).trans h) (by decide)
def G.f56sig : Sig := ⟨⟨[.ptr 0 0], [.cells [.hole (.int .i64), .own 1, .hole (.int .i64), .hole (.int .i64), .hole (.int .i64), .hole (.int .i64), .own 2, .own 3], .arr 69 (.st (.pair (.int .i64) (.pair (.int .i64) .bool))), .arr 3 (.int .i64), .arr 3 (.int .i64)]⟩, ⟨[], [.cells [.hole (.int .i64), .own 4, .hole (.int .i64), .hole (.int .i64), .hole (.int .i64), .hole (.int .i64), .own 5, .own 6], .gone, .gone, .gone, .arr 69 (.st (.pair (.int .i64) (.pair (.int .i64) .bool))), .arr 3 (.int .i64), .arr 3 (.int .i64)]⟩⟩
noncomputable def G.f56Γ : List Con := [G.f61con]
def G.f56ann : Ann :=
  (.block (.seq .leaf (.cond .leaf (.seq .leaf (.cond (.seq .leaf (.seq .leaf (.block (.loop ⟨.normal, [], [.cells [.hole (.int .i64), .own 4, .hole (.int .i64), .hole (.int .i64), .hole (.int .i64), .hole (.int .i64), .own 5, .own 6], .gone, .gone, .gone, .arr 69 (.st (.pair (.int .i64) (.pair (.int .i64) .bool))), .arr 3 (.int .i64), .arr 3 (.int .i64)]⟩ [⟨(.exit 1), [], [.cells [.hole (.int .i64), .own 4, .hole (.int .i64), .hole (.int .i64), .hole (.int .i64), .hole (.int .i64), .own 5, .own 6], .gone, .gone, .gone, .arr 69 (.st (.pair (.int .i64) (.pair (.int .i64) .bool))), .arr 3 (.int .i64), .arr 3 (.int .i64)]⟩] (.seq (.seq .leaf (.cond .leaf .leaf)) (.block .leaf)))))) .leaf)))))
/- (*ductus/explicit.status).end -/
noncomputable def G.f56F : Int × Int × Int × Int × Int × List (Int × Int × Bool) × List Int × List Int → Option (Int × Int × Int × Int × Int × List (Int × Int × Bool) × List Int × List Int) :=
  fun (x : Int × Int × Int × Int × Int × List (Int × Int × Bool) × List Int × List Int) =>
  if Decidable.decide (x.snd.fst > (0 : Int)) = Bool.true then
    Option.some
      (x.1, Go.IntKind.wrap Go.IntKind.i64 (x.snd.fst - (1 : Int)), x.snd.snd.1, x.snd.snd.snd.1, x.snd.snd.snd.snd.1, x.snd.snd.snd.snd.snd.1, x.snd.snd.snd.snd.snd.snd.1,
        x.snd.snd.snd.snd.snd.snd.2)
  else
    if Decidable.decide (x.snd.snd.snd.fst > (0 : Int)) = Bool.true then
      Option.bind
        (Go.Sx.iter
          (fun (s1 : Int × Int × Int × Int × Int × List (Int × Int × Bool) × List Int × List Int) =>
            Option.bind (Go.Sx.G.f61F (s1.1, s1.snd.1, s1.snd.snd.1, s1.snd.snd.snd.1, s1.snd.snd.snd.snd.1, s1.snd.snd.snd.snd.snd.1, s1.snd.snd.snd.snd.snd.snd.1, s1.snd.snd.snd.snd.snd.snd.2))
              fun (v2 : (Int × Int × Bool) × Int × Int × Int × Int × Int × List (Int × Int × Bool) × List Int × List Int) =>
              if (!v2.fst.snd.snd) = Bool.true then
                Option.some
                  (Sum.inl
                    (v2.snd.1, v2.snd.snd.1, v2.snd.snd.snd.1, v2.snd.snd.snd.snd.1, v2.snd.snd.snd.snd.snd.1, v2.snd.snd.snd.snd.snd.snd.1, v2.snd.snd.snd.snd.snd.snd.snd.1,
                      v2.snd.snd.snd.snd.snd.snd.snd.2))
              else
                Option.some
                  (Sum.inr
                    (v2.snd.1, v2.snd.snd.1, v2.snd.snd.snd.1, v2.snd.snd.snd.snd.1, v2.snd.snd.snd.snd.snd.1, v2.snd.snd.snd.snd.snd.snd.1, v2.snd.snd.snd.snd.snd.snd.snd.1,
                      v2.snd.snd.snd.snd.snd.snd.snd.2)))
          (x.1, x.snd.1, (0 : Int), Go.IntKind.wrap Go.IntKind.i64 (x.snd.snd.snd.fst - (1 : Int)), x.snd.snd.snd.snd.1, x.snd.snd.snd.snd.snd.1, x.snd.snd.snd.snd.snd.snd.1,
            x.snd.snd.snd.snd.snd.snd.2))
        fun (v1 : Int × Int × Int × Int × Int × List (Int × Int × Bool) × List Int × List Int) =>
        Option.some (v1.1, v1.snd.1, v1.snd.snd.1, v1.snd.snd.snd.1, v1.snd.snd.snd.snd.1, v1.snd.snd.snd.snd.snd.1, v1.snd.snd.snd.snd.snd.snd.1, v1.snd.snd.snd.snd.snd.snd.2)
    else Option.some (x.1, x.snd.1, x.snd.snd.1, x.snd.snd.snd.1, x.snd.snd.snd.snd.1, x.snd.snd.snd.snd.snd.1, x.snd.snd.snd.snd.snd.snd.1, x.snd.snd.snd.snd.snd.snd.2)
theorem G.f56eq : ∀ x, runFn G.C G.f56Γ G.f56sig G.f56ann Go.Proofs.Tryd.f56 x = G.f56F x := by
  intro x
  kernel_rfl
noncomputable def G.f56con : Con := ⟨56, G.f56sig, G.f56F⟩
theorem G.f56ok : Con.Ok Go.Proofs.Tryd.prog G.C G.f56con :=
  runFn_ok (Γ := G.f56Γ) (an := G.f56ann) ⟨G.Cok, (List.forall_mem_cons.2 ⟨G.f61ok, (fun _ h => nomatch h)⟩), G.mixed⟩ Go.Proofs.Tryd.func56 rfl rfl (fun x y h => (G.f56eq x).trans h) (by decide)
def G.f41sig : Sig := ⟨⟨[.ptr 0 0, .hole (.sl (.int .i64)), .hole (.int .i64)], [.cells [.hole (.int .i64), .own 1, .hole (.int .i64), .hole (.int .i64), .hole (.int .i64), .hole (.int .i64), .own 2, .own 3], .arr 69 (.st (.pair (.int .i64) (.pair (.int .i64) .bool))), .arr 3 (.int .i64), .arr 3 (.int .i64)]⟩, ⟨[], [.cells [.hole (.int .i64), .own 4, .hole (.int .i64), .hole (.int .i64), .hole (.int .i64), .hole (.int .i64), .own 5, .own 6], .gone, .gone, .gone, .arr 69 (.st (.pair (.int .i64) (.pair (.int .i64) .bool))), .arr 3 (.int .i64), .arr 3 (.int .i64)]⟩⟩
noncomputable def G.f41Γ : List Con := [G.f51con, G.f50con, G.f52con, G.f53con, G.f54con, G.f20con, G.f55con, G.f56con, G.f40con, G.f49con]
def G.f41ann : Ann :=
  (.seq .leaf (.seq (.join [⟨.normal, [], [.cells [.hole (.int .i64), .own 4, .hole (.int .i64), .hole (.int .i64), .hole (.int .i64), .hole (.int .i64), .own 5, .own 6], .gone, .gone, .gone, .arr 69 (.st (.pair (.int .i64) (.pair (.int .i64) .bool))), .arr 3 (.int .i64), .arr 3 (.int .i64)]⟩] (.seq .leaf (.block (.seq (.join [⟨.normal, [(12, .hole .bool)], [.cells [.hole (.int .i64), .own 1, .hole (.int .i64), .hole (.int .i64), .hole (.int .i64), .hole (.int .i64), .own 2, .own 3], .arr 69 (.st (.pair (.int .i64) (.pair (.int .i64) .bool))), .arr 3 (.int .i64), .arr 3 (.int .i64)]⟩] (.seq .leaf (.cond .leaf (.seq .leaf (.cond .leaf (.seq .leaf (.cond .leaf (.seq .leaf (.cond .leaf (.seq .leaf (.cond .leaf .leaf))))))))))) (.cond .leaf .leaf))))) (.seq .leaf (.block (.seq .leaf (.cond .leaf (.seq .leaf (.cond .leaf (.seq .leaf (.cond .leaf (.seq .leaf (.cond .leaf (.seq .leaf (.cond .leaf (.seq .leaf (.cond .leaf (.seq (.join [⟨.normal, [(54, .hole .bool)], [.cells [.hole (.int .i64), .own 4, .hole (.int .i64), .hole (.int .i64), .hole (.int .i64), .hole (.int .i64), .own 5, .own 6], .gone, .gone, .gone, .arr 69 (.st (.pair (.int .i64) (.pair (.int .i64) .bool))), .arr 3 (.int .i64), .arr 3 (.int .i64)]⟩] (.seq .leaf (.cond .leaf (.seq .leaf (.cond .leaf .leaf))))) (.cond (.seq .leaf .leaf) (.seq .leaf (.cond (.seq .leaf .leaf) (.seq .leaf (.cond (.seq .leaf .leaf) (.seq (.seq .leaf (.cond .leaf .leaf)) .leaf)))))))))))))))))))))))
/- (*ductus/explicit.status).step -/
noncomputable def G.f41F : List Int × Int × Int × Int × Int × Int × Int × List (Int × Int × Bool) × List Int × List Int → Option (Int × Int × Int × Int × Int × List (Int × Int × Bool) × List Int × List Int) :=
  fun (x : List Int × Int × Int × Int × Int × Int × Int × List (Int × Int × Bool) × List Int × List Int) =>
  if (0 : Int) ≤ x.snd.fst ∧ x.snd.fst < (↑(List.length x.fst) : Int) then
    Option.bind
      (Option.bind
        (if (List.getD x.fst (Int.toNat x.snd.fst) (0 : Int) == (14 : Int)) = Bool.true then
          Option.some
            (Bool.true, x.snd.snd.1, x.snd.snd.snd.1, x.snd.snd.snd.snd.1, x.snd.snd.snd.snd.snd.1, x.snd.snd.snd.snd.snd.snd.1, x.snd.snd.snd.snd.snd.snd.snd.1, x.snd.snd.snd.snd.snd.snd.snd.snd.1,
              x.snd.snd.snd.snd.snd.snd.snd.snd.2)
        else
          if (List.getD x.fst (Int.toNat x.snd.fst) (0 : Int) == (16 : Int)) = Bool.true then
            Option.some
              (Bool.true, x.snd.snd.1, x.snd.snd.snd.1, x.snd.snd.snd.snd.1, x.snd.snd.snd.snd.snd.1, x.snd.snd.snd.snd.snd.snd.1, x.snd.snd.snd.snd.snd.snd.snd.1, x.snd.snd.snd.snd.snd.snd.snd.snd.1,
                x.snd.snd.snd.snd.snd.snd.snd.snd.2)
          else
            if (List.getD x.fst (Int.toNat x.snd.fst) (0 : Int) == (15 : Int)) = Bool.true then
              Option.some
                (Bool.true, x.snd.snd.1, x.snd.snd.snd.1, x.snd.snd.snd.snd.1, x.snd.snd.snd.snd.snd.1, x.snd.snd.snd.snd.snd.snd.1, x.snd.snd.snd.snd.snd.snd.snd.1,
                  x.snd.snd.snd.snd.snd.snd.snd.snd.1, x.snd.snd.snd.snd.snd.snd.snd.snd.2)
            else
              if (List.getD x.fst (Int.toNat x.snd.fst) (0 : Int) == (17 : Int)) = Bool.true then
                Option.some
                  (Bool.true, x.snd.snd.1, x.snd.snd.snd.1, x.snd.snd.snd.snd.1, x.snd.snd.snd.snd.snd.1, x.snd.snd.snd.snd.snd.snd.1, x.snd.snd.snd.snd.snd.snd.snd.1,
                    x.snd.snd.snd.snd.snd.snd.snd.snd.1, x.snd.snd.snd.snd.snd.snd.snd.snd.2)
              else
                if (List.getD x.fst (Int.toNat x.snd.fst) (0 : Int) == (18 : Int)) = Bool.true then
                  Option.some
                    (Bool.true, x.snd.snd.1, x.snd.snd.snd.1, x.snd.snd.snd.snd.1, x.snd.snd.snd.snd.snd.1, x.snd.snd.snd.snd.snd.snd.1, x.snd.snd.snd.snd.snd.snd.snd.1,
                      x.snd.snd.snd.snd.snd.snd.snd.snd.1, x.snd.snd.snd.snd.snd.snd.snd.snd.2)
                else
                  Option.some
                    (List.getD x.fst (Int.toNat x.snd.fst) (0 : Int) == (9 : Int), x.snd.snd.1, x.snd.snd.snd.1, x.snd.snd.snd.snd.1, x.snd.snd.snd.snd.snd.1, x.snd.snd.snd.snd.snd.snd.1,
                      x.snd.snd.snd.snd.snd.snd.snd.1, x.snd.snd.snd.snd.snd.snd.snd.snd.1, x.snd.snd.snd.snd.snd.snd.snd.snd.2))
        fun (v1 : Bool × Int × Int × Int × Int × Int × List (Int × Int × Bool) × List Int × List Int) =>
        if v1.fst = Bool.true then
          Option.bind
            (Go.Sx.G.f51F
              (v1.snd.1, v1.snd.snd.snd.snd.snd.snd.1, v1.snd.snd.1, v1.snd.snd.snd.1, v1.snd.snd.snd.snd.1, v1.snd.snd.snd.snd.snd.1, v1.snd.snd.snd.snd.snd.snd.snd.1,
                v1.snd.snd.snd.snd.snd.snd.snd.2))
            fun (v2 : Int × Int × Bool) =>
            Option.bind
              (Go.Sx.G.f50F
                (v2.1, List.getD x.fst (Int.toNat x.snd.fst) (0 : Int), v1.snd.1, v1.snd.snd.1, v1.snd.snd.snd.1, v1.snd.snd.snd.snd.1, v1.snd.snd.snd.snd.snd.1, v1.snd.snd.snd.snd.snd.snd.1,
                  v1.snd.snd.snd.snd.snd.snd.snd.1, v1.snd.snd.snd.snd.snd.snd.snd.2))
              fun (v3 : Int × Int × Int × Int × Int × List (Int × Int × Bool) × List Int × List Int) =>
              Option.some (v3.1, v3.snd.1, v3.snd.snd.1, v3.snd.snd.snd.1, v3.snd.snd.snd.snd.1, v3.snd.snd.snd.snd.snd.1, v3.snd.snd.snd.snd.snd.snd.1, v3.snd.snd.snd.snd.snd.snd.2)
        else
          Option.some
            (v1.snd.1, v1.snd.snd.1, v1.snd.snd.snd.1, v1.snd.snd.snd.snd.1, v1.snd.snd.snd.snd.snd.1, v1.snd.snd.snd.snd.snd.snd.1, v1.snd.snd.snd.snd.snd.snd.snd.1,
              v1.snd.snd.snd.snd.snd.snd.snd.2))
      fun (v1 : Int × Int × Int × Int × Int × List (Int × Int × Bool) × List Int × List Int) =>
      if (List.getD x.fst (Int.toNat x.snd.fst) (0 : Int) == (14 : Int)) = Bool.true then
        Option.bind
          (Go.Sx.G.f52F
            ((0 : Int), (-1 : Int), v1.1, v1.snd.1, v1.snd.snd.1, v1.snd.snd.snd.1, v1.snd.snd.snd.snd.1, v1.snd.snd.snd.snd.snd.1, v1.snd.snd.snd.snd.snd.snd.1, v1.snd.snd.snd.snd.snd.snd.2))
          fun (v2 : Int × Int × Int × Int × Int × List (Int × Int × Bool) × List Int × List Int) =>
          Option.some (v2.1, v2.snd.1, v2.snd.snd.1, v2.snd.snd.snd.1, v2.snd.snd.snd.snd.1, v2.snd.snd.snd.snd.snd.1, v2.snd.snd.snd.snd.snd.snd.1, v2.snd.snd.snd.snd.snd.snd.2)
      else
        if (List.getD x.fst (Int.toNat x.snd.fst) (0 : Int) == (16 : Int)) = Bool.true then
          Option.bind
            (Go.Sx.G.f52F
              ((1 : Int), (-1 : Int), v1.1, v1.snd.1, v1.snd.snd.1, v1.snd.snd.snd.1, v1.snd.snd.snd.snd.1, v1.snd.snd.snd.snd.snd.1, v1.snd.snd.snd.snd.snd.snd.1, v1.snd.snd.snd.snd.snd.snd.2))
            fun (v2 : Int × Int × Int × Int × Int × List (Int × Int × Bool) × List Int × List Int) =>
            Option.some (v2.1, v2.snd.1, v2.snd.snd.1, v2.snd.snd.snd.1, v2.snd.snd.snd.snd.1, v2.snd.snd.snd.snd.snd.1, v2.snd.snd.snd.snd.snd.snd.1, v2.snd.snd.snd.snd.snd.snd.2)
        else
          if (List.getD x.fst (Int.toNat x.snd.fst) (0 : Int) == (15 : Int)) = Bool.true then
            Option.bind
              (Go.Sx.G.f52F
                ((0 : Int), (0 : Int), v1.1, v1.snd.1, v1.snd.snd.1, v1.snd.snd.snd.1, v1.snd.snd.snd.snd.1, v1.snd.snd.snd.snd.snd.1, v1.snd.snd.snd.snd.snd.snd.1, v1.snd.snd.snd.snd.snd.snd.2))
              fun (v2 : Int × Int × Int × Int × Int × List (Int × Int × Bool) × List Int × List Int) =>
              Option.some (v2.1, v2.snd.1, v2.snd.snd.1, v2.snd.snd.snd.1, v2.snd.snd.snd.snd.1, v2.snd.snd.snd.snd.snd.1, v2.snd.snd.snd.snd.snd.snd.1, v2.snd.snd.snd.snd.snd.snd.2)
          else
            if (List.getD x.fst (Int.toNat x.snd.fst) (0 : Int) == (17 : Int)) = Bool.true then
              Option.bind
                (Go.Sx.G.f52F
                  ((1 : Int), (1 : Int), v1.1, v1.snd.1, v1.snd.snd.1, v1.snd.snd.snd.1, v1.snd.snd.snd.snd.1, v1.snd.snd.snd.snd.snd.1, v1.snd.snd.snd.snd.snd.snd.1, v1.snd.snd.snd.snd.snd.snd.2))
                fun (v2 : Int × Int × Int × Int × Int × List (Int × Int × Bool) × List Int × List Int) =>
                Option.some (v2.1, v2.snd.1, v2.snd.snd.1, v2.snd.snd.snd.1, v2.snd.snd.snd.snd.1, v2.snd.snd.snd.snd.snd.1, v2.snd.snd.snd.snd.snd.snd.1, v2.snd.snd.snd.snd.snd.snd.2)
            else
              if (List.getD x.fst (Int.toNat x.snd.fst) (0 : Int) == (18 : Int)) = Bool.true then
                Option.bind (Go.Sx.G.f53F (v1.1, v1.snd.1, v1.snd.snd.1, v1.snd.snd.snd.1, v1.snd.snd.snd.snd.1, v1.snd.snd.snd.snd.snd.1, v1.snd.snd.snd.snd.snd.snd.1, v1.snd.snd.snd.snd.snd.snd.2))
                  fun (v2 : Int × Int × Int × Int × Int × List (Int × Int × Bool) × List Int × List Int) =>
                  Option.some (v2.1, v2.snd.1, v2.snd.snd.1, v2.snd.snd.snd.1, v2.snd.snd.snd.snd.1, v2.snd.snd.snd.snd.snd.1, v2.snd.snd.snd.snd.snd.snd.1, v2.snd.snd.snd.snd.snd.snd.2)
              else
                if (List.getD x.fst (Int.toNat x.snd.fst) (0 : Int) == (9 : Int)) = Bool.true then
                  Option.some (v1.1, v1.snd.1, v1.snd.snd.1, v1.snd.snd.snd.1, v1.snd.snd.snd.snd.1, v1.snd.snd.snd.snd.snd.1, v1.snd.snd.snd.snd.snd.snd.1, v1.snd.snd.snd.snd.snd.snd.2)
                else
                  Option.bind
                    (if (List.getD x.fst (Int.toNat x.snd.fst) (0 : Int) == (19 : Int)) = Bool.true then
                      Option.some
                        (Bool.true, v1.1, v1.snd.1, v1.snd.snd.1, v1.snd.snd.snd.1, v1.snd.snd.snd.snd.1, v1.snd.snd.snd.snd.snd.1, v1.snd.snd.snd.snd.snd.snd.1, v1.snd.snd.snd.snd.snd.snd.2)
                    else
                      if (List.getD x.fst (Int.toNat x.snd.fst) (0 : Int) == (20 : Int)) = Bool.true then
                        Option.some
                          (Bool.true, v1.1, v1.snd.1, v1.snd.snd.1, v1.snd.snd.snd.1, v1.snd.snd.snd.snd.1, v1.snd.snd.snd.snd.snd.1, v1.snd.snd.snd.snd.snd.snd.1, v1.snd.snd.snd.snd.snd.snd.2)
                      else
                        Option.some
                          (List.getD x.fst (Int.toNat x.snd.fst) (0 : Int) == (21 : Int), v1.1, v1.snd.1, v1.snd.snd.1, v1.snd.snd.snd.1, v1.snd.snd.snd.snd.1, v1.snd.snd.snd.snd.snd.1,
                            v1.snd.snd.snd.snd.snd.snd.1, v1.snd.snd.snd.snd.snd.snd.2))
                    fun (v2 : Bool × Int × Int × Int × Int × Int × List (Int × Int × Bool) × List Int × List Int) =>
                    if v2.fst = Bool.true then
                      Option.bind
                        (Go.Sx.G.f54F
                          (List.getD x.fst (Int.toNat x.snd.fst) (0 : Int), v2.snd.1, v2.snd.snd.1, v2.snd.snd.snd.1, v2.snd.snd.snd.snd.1, v2.snd.snd.snd.snd.snd.1, v2.snd.snd.snd.snd.snd.snd.1,
                            v2.snd.snd.snd.snd.snd.snd.snd.1, v2.snd.snd.snd.snd.snd.snd.snd.2))
                        fun (v3 : Int × Int × Int × Int × Int × List (Int × Int × Bool) × List Int × List Int) =>
                        Option.bind (Go.Sx.G.f20F (x.1, x.snd.1)) fun (v4 : Int) =>
                          Option.bind
                            (Go.Sx.G.f55F
                              (v4, v3.1, v3.snd.1, v3.snd.snd.1, v3.snd.snd.snd.1, v3.snd.snd.snd.snd.1, v3.snd.snd.snd.snd.snd.1, v3.snd.snd.snd.snd.snd.snd.1, v3.snd.snd.snd.snd.snd.snd.2))
                            fun (v5 : Int × Int × Int × Int × Int × List (Int × Int × Bool) × List Int × List Int) =>
                            Option.some (v5.1, v5.snd.1, v5.snd.snd.1, v5.snd.snd.snd.1, v5.snd.snd.snd.snd.1, v5.snd.snd.snd.snd.snd.1, v5.snd.snd.snd.snd.snd.snd.1, v5.snd.snd.snd.snd.snd.snd.2)
                    else
                      if (List.getD x.fst (Int.toNat x.snd.fst) (0 : Int) == (22 : Int)) = Bool.true then
                        Option.bind
                          (Go.Sx.G.f56F
                            (v2.snd.1, v2.snd.snd.1, v2.snd.snd.snd.1, v2.snd.snd.snd.snd.1, v2.snd.snd.snd.snd.snd.1, v2.snd.snd.snd.snd.snd.snd.1, v2.snd.snd.snd.snd.snd.snd.snd.1,
                              v2.snd.snd.snd.snd.snd.snd.snd.2))
                          fun (v3 : Int × Int × Int × Int × Int × List (Int × Int × Bool) × List Int × List Int) =>
                          Option.bind
                            (Go.Sx.G.f54F
                              (List.getD x.fst (Int.toNat x.snd.fst) (0 : Int), v3.1, v3.snd.1, v3.snd.snd.1, v3.snd.snd.snd.1, v3.snd.snd.snd.snd.1, v3.snd.snd.snd.snd.snd.1,
                                v3.snd.snd.snd.snd.snd.snd.1, v3.snd.snd.snd.snd.snd.snd.2))
                            fun (v4 : Int × Int × Int × Int × Int × List (Int × Int × Bool) × List Int × List Int) =>
                            Option.some (v4.1, v4.snd.1, v4.snd.snd.1, v4.snd.snd.snd.1, v4.snd.snd.snd.snd.1, v4.snd.snd.snd.snd.snd.1, v4.snd.snd.snd.snd.snd.snd.1, v4.snd.snd.snd.snd.snd.snd.2)
                      else
                        if (List.getD x.fst (Int.toNat x.snd.fst) (0 : Int) == (10 : Int)) = Bool.true then
                          Option.bind
                            (Go.Sx.G.f40F
                              (v2.snd.1, v2.snd.snd.1, v2.snd.snd.snd.1, v2.snd.snd.snd.snd.1, v2.snd.snd.snd.snd.snd.1, v2.snd.snd.snd.snd.snd.snd.1, v2.snd.snd.snd.snd.snd.snd.snd.1,
                                v2.snd.snd.snd.snd.snd.snd.snd.2))
                            fun (v3 : Int × Int × Int × Int × Int × List (Int × Int × Bool) × List Int × List Int) =>
                            Option.bind
                              (Go.Sx.G.f50F
                                (v3.1, List.getD x.fst (Int.toNat x.snd.fst) (0 : Int), v3.1, v3.snd.1, v3.snd.snd.1, v3.snd.snd.snd.1, v3.snd.snd.snd.snd.1, v3.snd.snd.snd.snd.snd.1,
                                  v3.snd.snd.snd.snd.snd.snd.1, v3.snd.snd.snd.snd.snd.snd.2))
                              fun (v4 : Int × Int × Int × Int × Int × List (Int × Int × Bool) × List Int × List Int) =>
                              Option.some (v4.1, v4.snd.1, v4.snd.snd.1, v4.snd.snd.snd.1, v4.snd.snd.snd.snd.1, v4.snd.snd.snd.snd.snd.1, v4.snd.snd.snd.snd.snd.snd.1, v4.snd.snd.snd.snd.snd.snd.2)
                        else
                          Option.bind (Go.Sx.G.f49F (List.getD x.fst (Int.toNat x.snd.fst) (0 : Int))) fun (v3 : ByteArray) =>
                            if (ByteArray.toList v3 == ByteArray.toList { data := #[] : ByteArray }) = Bool.true then
                              Option.bind
                                (Go.Sx.G.f54F
                                  ((0 : Int), v2.snd.1, v2.snd.snd.1, v2.snd.snd.snd.1, v2.snd.snd.snd.snd.1, v2.snd.snd.snd.snd.snd.1, v2.snd.snd.snd.snd.snd.snd.1, v2.snd.snd.snd.snd.snd.snd.snd.1,
                                    v2.snd.snd.snd.snd.snd.snd.snd.2))
                                fun (v4 : Int × Int × Int × Int × Int × List (Int × Int × Bool) × List Int × List Int) =>
                                Option.some (v4.1, v4.snd.1, v4.snd.snd.1, v4.snd.snd.snd.1, v4.snd.snd.snd.snd.1, v4.snd.snd.snd.snd.snd.1, v4.snd.snd.snd.snd.snd.snd.1, v4.snd.snd.snd.snd.snd.snd.2)
                            else
                              Option.bind
                                (Go.Sx.G.f54F
                                  (List.getD x.fst (Int.toNat x.snd.fst) (0 : Int), v2.snd.1, v2.snd.snd.1, v2.snd.snd.snd.1, v2.snd.snd.snd.snd.1, v2.snd.snd.snd.snd.snd.1,
                                    v2.snd.snd.snd.snd.snd.snd.1, v2.snd.snd.snd.snd.snd.snd.snd.1, v2.snd.snd.snd.snd.snd.snd.snd.2))
                                fun (v4 : Int × Int × Int × Int × Int × List (Int × Int × Bool) × List Int × List Int) =>
                                Option.some (v4.1, v4.snd.1, v4.snd.snd.1, v4.snd.snd.snd.1, v4.snd.snd.snd.snd.1, v4.snd.snd.snd.snd.snd.1, v4.snd.snd.snd.snd.snd.snd.1, v4.snd.snd.snd.snd.snd.snd.2)
  else Option.none
theorem G.f41eq : ∀ x, runFn G.C G.f41Γ G.f41sig G.f41ann Go.Proofs.Tryd.f41 x = G.f41F x := by
  intro x
  kernel_rfl
noncomputable def G.f41con : Con := ⟨41, G.f41sig, G.f41F⟩
theorem G.f41ok : Con.Ok Go.Proofs.Tryd.prog G.C G.f41con :=
  runFn_ok (Γ := G.f41Γ) (an := G.f41ann) ⟨G.Cok, (List.forall_mem_cons.2 ⟨G.f51ok, (List.forall_mem_cons.2 ⟨G.f50ok, (List.forall_mem_cons.2 ⟨G.f52ok, (List.forall_mem_cons.2 ⟨G.f53ok, (List.forall_mem_cons.2 ⟨G.f54ok, (List.forall_mem_cons.2 ⟨G.f20ok, (List.forall_mem_cons.2 ⟨G.f55ok, (List.forall_mem_cons.2 ⟨G.f56ok, (List.forall_mem_cons.2 ⟨G.f40ok, (List.forall_mem_cons.2 ⟨G.f49ok, (fun _ h => nomatch h)⟩)⟩)⟩)⟩)⟩)⟩)⟩)⟩)⟩)⟩), G.mixed⟩ Go.Proofs.Tryd.func41 rfl rfl (fun x y h => (G.f41eq x).trans h) (by decide)
def G.f35sig : Sig := ⟨⟨[.hole (.sl (.int .i64)), .hole (.int .i64)], []⟩, ⟨[.ptr 0 0], [.cells [.hole (.int .i64), .own 1, .hole (.int .i64), .hole (.int .i64), .hole (.int .i64), .hole (.int .i64), .own 2, .own 3], .arr 69 (.st (.pair (.int .i64) (.pair (.int .i64) .bool))), .arr 3 (.int .i64), .arr 3 (.int .i64)]⟩⟩
noncomputable def G.f35Γ : List Con := [G.f40con, G.f41con]
def G.f35ann : Ann :=
  (.seq .leaf (.seq .leaf (.seq (.join [⟨.normal, [], [.cells [.hole (.int .i64), .own 1, .hole (.int .i64), .hole (.int .i64), .hole (.int .i64), .hole (.int .i64), .own 2, .own 3], .arr 69 (.st (.pair (.int .i64) (.pair (.int .i64) .bool))), .arr 3 (.int .i64), .arr 3 (.int .i64)]⟩] (.seq .leaf (.cond .leaf .leaf))) (.seq .leaf (.seq (.seq .leaf (.block (.loop ⟨.normal, [(18, .hole (.int .i64))], [.cells [.hole (.int .i64), .own 7, .hole (.int .i64), .hole (.int .i64), .hole (.int .i64), .hole (.int .i64), .own 8, .own 9], .gone, .gone, .gone, .gone, .gone, .gone, .arr 69 (.st (.pair (.int .i64) (.pair (.int .i64) .bool))), .arr 3 (.int .i64), .arr 3 (.int .i64)]⟩ [⟨(.exit 0), [], [.cells [.hole (.int .i64), .own 7, .hole (.int .i64), .hole (.int .i64), .hole (.int .i64), .hole (.int .i64), .own 8, .own 9], .gone, .gone, .gone, .gone, .gone, .gone, .arr 69 (.st (.pair (.int .i64) (.pair (.int .i64) .bool))), .arr 3 (.int .i64), .arr 3 (.int .i64)]⟩] (.seq .leaf (.seq (.cond .leaf .leaf) (.seq (.block (.seq .leaf .leaf)) .leaf)))))) (.seq .leaf .leaf))))))
/- ductus/explicit.walk -/
noncomputable def G.f35F : List Int × Int → Option (Int × Int × Int × Int × Int × List (Int × Int × Bool) × List Int × List Int) :=
  fun (x : List Int × Int) =>
  Option.bind
    (if (x.snd != (0 : Int)) = Bool.true then Option.some ((1 : Int), (0 : Int), (0 : Int), (0 : Int), (0 : Int), [], [], [])
    else Option.some ((0 : Int), (0 : Int), (0 : Int), (0 : Int), (0 : Int), [], [], []))
    fun (v1 : Int × Int × Int × Int × Int × List (Int × Int × Bool) × List Int × List Int) =>
    Option.bind (Go.Sx.G.f40F (v1.1, v1.snd.1, v1.snd.snd.1, v1.snd.snd.snd.1, v1.snd.snd.snd.snd.1, v1.snd.snd.snd.snd.snd.1, v1.snd.snd.snd.snd.snd.snd.1, v1.snd.snd.snd.snd.snd.snd.2))
      fun (v2 : Int × Int × Int × Int × Int × List (Int × Int × Bool) × List Int × List Int) =>
      Option.bind
        (Go.Sx.iter
          (fun (s3 : Int × Int × Int × Int × Int × Int × List (Int × Int × Bool) × List Int × List Int) =>
            if Decidable.decide (s3.fst < (↑(List.length x.fst) : Int)) = Bool.true then
              Option.bind
                (Go.Sx.G.f41F
                  (x.1, s3.1, s3.snd.1, s3.snd.snd.1, s3.snd.snd.snd.1, s3.snd.snd.snd.snd.1, s3.snd.snd.snd.snd.snd.1, s3.snd.snd.snd.snd.snd.snd.1, s3.snd.snd.snd.snd.snd.snd.snd.1,
                    s3.snd.snd.snd.snd.snd.snd.snd.2))
                fun (v4 : Int × Int × Int × Int × Int × List (Int × Int × Bool) × List Int × List Int) =>
                Option.some
                  (Sum.inl
                    (Go.IntKind.wrap Go.IntKind.i64 (s3.fst + (1 : Int)), v4.1, v4.snd.1, v4.snd.snd.1, v4.snd.snd.snd.1, v4.snd.snd.snd.snd.1, v4.snd.snd.snd.snd.snd.1, v4.snd.snd.snd.snd.snd.snd.1,
                      v4.snd.snd.snd.snd.snd.snd.2))
            else
              Option.some
                (Sum.inr
                  (s3.snd.1, s3.snd.snd.1, s3.snd.snd.snd.1, s3.snd.snd.snd.snd.1, s3.snd.snd.snd.snd.snd.1, s3.snd.snd.snd.snd.snd.snd.1, s3.snd.snd.snd.snd.snd.snd.snd.1,
                    s3.snd.snd.snd.snd.snd.snd.snd.2)))
          ((0 : Int), v2.1, v2.snd.1, v2.snd.snd.1, v2.snd.snd.snd.1, v2.snd.snd.snd.snd.1, v2.snd.snd.snd.snd.snd.1, v2.snd.snd.snd.snd.snd.snd.1, v2.snd.snd.snd.snd.snd.snd.2))
        fun (v3 : Int × Int × Int × Int × Int × List (Int × Int × Bool) × List Int × List Int) =>
        Option.some (v3.1, v3.snd.1, v3.snd.snd.1, v3.snd.snd.snd.1, v3.snd.snd.snd.snd.1, v3.snd.snd.snd.snd.snd.1, v3.snd.snd.snd.snd.snd.snd.1, v3.snd.snd.snd.snd.snd.snd.2)
theorem G.f35eq : ∀ x, runFn G.C G.f35Γ G.f35sig G.f35ann Go.Proofs.Tryd.f35 x = G.f35F x := by
  intro x
  kernel_rfl
noncomputable def G.f35con : Con := ⟨35, G.f35sig, G.f35F⟩
theorem G.f35ok : Con.Ok Go.Proofs.Tryd.prog G.C G.f35con :=
  runFn_ok (Γ := G.f35Γ) (an := G.f35ann) ⟨G.Cok, (List.forall_mem_cons.2 ⟨G.f40ok, (List.forall_mem_cons.2 ⟨G.f41ok, (fun _ h => nomatch h)⟩)⟩), G.mixed⟩ Go.Proofs.Tryd.func35 rfl rfl (fun x y h => (G.f35eq x).trans h) (by decide)
def G.f24sig : Sig := ⟨⟨[.hole (.sl (.int .i64)), .hole (.int .i64)], []⟩, ⟨[.hole (.sl (.int .i64)), .hole (.sl (.int .i64))], []⟩⟩
noncomputable def G.f24Γ : List Con := [G.f35con]
def G.f24ann : Ann :=
  (.seq .leaf (.seq .leaf (.seq .leaf .leaf)))
/- ductus/explicit.Of -/
noncomputable def G.f24F : List Int × Int → Option (List Int × List Int) :=
  fun (x : List Int × Int) =>
  Option.bind (Go.Sx.G.f35F (x.1, x.2)) fun (v1 : Int × Int × Int × Int × Int × List (Int × Int × Bool) × List Int × List Int) =>
    Option.some (v1.snd.snd.snd.snd.snd.snd.1, v1.snd.snd.snd.snd.snd.snd.2)
theorem G.f24eq : ∀ x, runFn G.C G.f24Γ G.f24sig G.f24ann Go.Proofs.Tryd.f24 x = G.f24F x := by
  intro x
  kernel_rfl
noncomputable def G.f24con : Con := ⟨24, G.f24sig, G.f24F⟩
theorem G.f24ok : Con.Ok Go.Proofs.Tryd.prog G.C G.f24con :=
  runFn_ok (Γ := G.f24Γ) (an := G.f24ann) ⟨G.Cok, (List.forall_mem_cons.2 ⟨G.f35ok, (fun _ h => nomatch h)⟩), G.mixed⟩ Go.Proofs.Tryd.func24 rfl rfl (fun x y h => (G.f24eq x).trans h) (by decide)
def G.f26sig : Sig := ⟨⟨[.hole (.sl (.int .i64)), .hole (.int .i64)], []⟩, ⟨[.hole (.int .i64)], []⟩⟩
noncomputable def G.f26Γ : List Con := [G.f35con]
def G.f26ann : Ann :=
  (.seq .leaf (.seq .leaf .leaf))
/- ductus/explicit.Depth -/
noncomputable def G.f26F : List Int × Int → Option (Int) :=
  fun (x : List Int × Int) => Option.bind (Go.Sx.G.f35F (x.1, x.2)) fun (v1 : Int × Int × Int × Int × Int × List (Int × Int × Bool) × List Int × List Int) => Option.some v1.snd.snd.snd.snd.1
theorem G.f26eq : ∀ x, runFn G.C G.f26Γ G.f26sig G.f26ann Go.Proofs.Tryd.f26 x = G.f26F x := by
  intro x
  kernel_rfl
noncomputable def G.f26con : Con := ⟨26, G.f26sig, G.f26F⟩
theorem G.f26ok : Con.Ok Go.Proofs.Tryd.prog G.C G.f26con :=
  runFn_ok (Γ := G.f26Γ) (an := G.f26ann) ⟨G.Cok, (List.forall_mem_cons.2 ⟨G.f35ok, (fun _ h => nomatch h)⟩), G.mixed⟩ Go.Proofs.Tryd.func26 rfl rfl (fun x y h => (G.f26eq x).trans h) (by decide)
def G.f23sig : Sig := ⟨⟨[], []⟩, ⟨[.hole .bool], []⟩⟩
noncomputable def G.f23Γ : List Con := [G.f24con, G.f13con, G.f28con, G.f26con]
def G.f23ann : Ann :=
  (.seq .leaf (.seq .leaf (.seq .leaf .leaf)))
/- ductus/ductuslaw06.alive -/
noncomputable def G.f23F : PUnit → Option (Bool) :=
  fun (x : PUnit) =>
  Option.bind (Go.Sx.G.f24F ([(17 : Int), (0 : Int), (19 : Int), (3 : Int), (22 : Int), (18 : Int), (0 : Int)], (0 : Int))) fun (v1 : List Int × List Int) =>
    Option.bind (Go.Sx.G.f13F (v1.1, [(0 : Int), (1 : Int), (1 : Int), (2 : Int), (1 : Int), (1 : Int), (0 : Int)])) fun (v2 : Bool) =>
      if v2 = Bool.true then
        Option.bind (Go.Sx.G.f13F (v1.2, [(17 : Int), (1 : Int), (1 : Int), (3 : Int), (1 : Int), (18 : Int), (0 : Int)])) fun (v3 : Bool) =>
          if v3 = Bool.true then
            Option.bind (Go.Sx.G.f28F ((1 : Int), (1 : Int))) fun (v4 : Int) =>
              if (v4 == (3 : Int)) = Bool.true then
                Option.bind (Go.Sx.G.f28F ((1 : Int), (0 : Int))) fun (v5 : Int) =>
                  if (v5 == (2 : Int)) = Bool.true then
                    Option.bind (Go.Sx.G.f28F ((126 : Int), (0 : Int))) fun (v6 : Int) =>
                      if (v6 == (-1 : Int)) = Bool.true then Option.bind (Go.Sx.G.f26F ([(16 : Int), (14 : Int), (18 : Int), (20 : Int)], (0 : Int))) fun (v7 : Int) => Option.some (v7 == (3 : Int))
                      else Option.some Bool.false
                  else Option.some Bool.false
              else Option.some Bool.false
          else Option.some Bool.false
      else Option.some Bool.false
theorem G.f23eq : ∀ x, runFn G.C G.f23Γ G.f23sig G.f23ann Go.Proofs.Tryd.f23 x = G.f23F x := by
  intro x
  kernel_rfl
noncomputable def G.f23con : Con := ⟨23, G.f23sig, G.f23F⟩
theorem G.f23ok : Con.Ok Go.Proofs.Tryd.prog G.C G.f23con :=
  runFn_ok (Γ := G.f23Γ) (an := G.f23ann) ⟨G.Cok, (List.forall_mem_cons.2 ⟨G.f24ok, (List.forall_mem_cons.2 ⟨G.f13ok, (List.forall_mem_cons.2 ⟨G.f28ok, (List.forall_mem_cons.2 ⟨G.f26ok, (fun _ h => nomatch h)⟩)⟩)⟩)⟩), G.mixed⟩ Go.Proofs.Tryd.func23 rfl rfl (fun x y h => (G.f23eq x).trans h) (by decide)
def G.f57sig : Sig := ⟨⟨[.ptr 0 0, .hole (.st (.pair (.int .i64) (.pair (.int .i64) .bool)))], [.cells [.hole (.int .i64), .own 1, .hole (.int .i64), .hole (.int .i64), .hole (.int .i64), .hole (.int .i64), .own 2, .own 3, .hole (.sl (.int .i64))], .arr 66 (.st (.pair (.int .i64) (.pair (.int .i64) .bool))), .arr 3 (.int .i64), .arr 3 (.int .i64)]⟩, ⟨[], [.cells [.hole (.int .i64), .own 4, .hole (.int .i64), .hole (.int .i64), .hole (.int .i64), .hole (.int .i64), .own 5, .own 6, .hole (.sl (.int .i64))], .gone, .gone, .gone, .arr 66 (.st (.pair (.int .i64) (.pair (.int .i64) .bool))), .arr 3 (.int .i64), .arr 3 (.int .i64)]⟩⟩
noncomputable def G.f57Γ : List Con := []
def G.f57ann : Ann :=
  (.seq .leaf (.seq (.eff 8 [8] [0, 0, 0, 4, 12, 28, 62, 0, 128, 510, 1023, 2047, 4095]) (.tail 13)))
/- (*ductus/ductusref06.walk).push -/
noncomputable def G.f57F : (Int × Int × Bool) × Int × Int × Int × Int × Int × List Int × List (Int × Int × Bool) × List Int × List Int → Option (Int × Int × Int × Int × Int × List Int × List (Int × Int × Bool) × List Int × List Int) :=
  fun (x : (Int × Int × Bool) × Int × Int × Int × Int × Int × List Int × List (Int × Int × Bool) × List Int × List Int) =>
  if
      Go.Sx.roomOk ((0 : Nat) + List.length x.snd.snd.snd.snd.snd.snd.snd.1)
        { kind := Go.Sx.TK.struct [((3 : Go.TypeId), (0 : Nat), (1 : Nat), Bool.false), ((3 : Go.TypeId), (1 : Nat), (1 : Nat), Bool.false), ((4 : Go.TypeId), (2 : Nat), (1 : Nat), Bool.false)],
            size := (3 : Nat), bytes := (24 : Nat), ty := Option.some (Go.Sx.Ty.st (Go.Sx.Ty.pair (Go.Sx.Ty.int Go.IntKind.i64) (Go.Sx.Ty.pair (Go.Sx.Ty.int Go.IntKind.i64) Go.Sx.Ty.bool))),
            zero := [Go.Sx.SV.val (Go.Sx.Ty.int Go.IntKind.i64) (0 : Int), Go.Sx.SV.val (Go.Sx.Ty.int Go.IntKind.i64) (0 : Int), Go.Sx.SV.bit Bool.false] : Go.Sx.TI }.bytes then
    if
        Go.Sx.roomOk (List.length ([] ++ x.snd.snd.snd.snd.snd.snd.snd.1) + List.length [(x.fst.1, x.fst.snd.1, x.fst.snd.2)])
          { kind := Go.Sx.TK.struct [((3 : Go.TypeId), (0 : Nat), (1 : Nat), Bool.false), ((3 : Go.TypeId), (1 : Nat), (1 : Nat), Bool.false), ((4 : Go.TypeId), (2 : Nat), (1 : Nat), Bool.false)],
              size := (3 : Nat), bytes := (24 : Nat), ty := Option.some (Go.Sx.Ty.st (Go.Sx.Ty.pair (Go.Sx.Ty.int Go.IntKind.i64) (Go.Sx.Ty.pair (Go.Sx.Ty.int Go.IntKind.i64) Go.Sx.Ty.bool))),
              zero := [Go.Sx.SV.val (Go.Sx.Ty.int Go.IntKind.i64) (0 : Int), Go.Sx.SV.val (Go.Sx.Ty.int Go.IntKind.i64) (0 : Int), Go.Sx.SV.bit Bool.false] : Go.Sx.TI }.bytes then
      Option.some
        (x.snd.1, x.snd.snd.1, x.snd.snd.snd.1, x.snd.snd.snd.snd.1,
          if (↑(List.length ([] ++ x.snd.snd.snd.snd.snd.snd.snd.1 ++ [(x.fst.1, x.fst.snd.1, x.fst.snd.2)])) : Int) > x.snd.snd.snd.snd.snd.fst then
            (↑(List.length ([] ++ x.snd.snd.snd.snd.snd.snd.snd.1 ++ [(x.fst.1, x.fst.snd.1, x.fst.snd.2)])) : Int)
          else x.snd.snd.snd.snd.snd.fst,
          x.snd.snd.snd.snd.snd.snd.1, [] ++ x.snd.snd.snd.snd.snd.snd.snd.1 ++ [(x.fst.1, x.fst.snd.1, x.fst.snd.2)], x.snd.snd.snd.snd.snd.snd.snd.snd.1, x.snd.snd.snd.snd.snd.snd.snd.snd.2)
    else Option.none
  else Option.none
theorem G.f57eq : ∀ x, runFn G.C G.f57Γ G.f57sig G.f57ann Go.Proofs.Tryd.f57 x = G.f57F x := by
  intro x
  kernel_rfl
noncomputable def G.f57con : Con := ⟨57, G.f57sig, G.f57F⟩
theorem G.f57ok : Con.Ok Go.Proofs.Tryd.prog G.C G.f57con :=
  runFn_ok (Γ := G.f57Γ) (an := G.f57ann) ⟨G.Cok, (fun _ h => nomatch h), G.mixed⟩ Go.Proofs.Tryd.func57 rfl rfl (fun x y h => (G.f57eq x).trans h) (by decide)
def G.f42sig : Sig := ⟨⟨[.ptr 0 0], [.cells [.hole (.int .i64), .own 1, .hole (.int .i64), .hole (.int .i64), .hole (.int .i64), .hole (.int .i64), .own 2, .own 3, .hole (.sl (.int .i64))], .arr 66 (.st (.pair (.int .i64) (.pair (.int .i64) .bool))), .arr 3 (.int .i64), .arr 3 (.int .i64)]⟩, ⟨[], [.cells [.hole (.int .i64), .own 4, .hole (.int .i64), .hole (.int .i64), .hole (.int .i64), .hole (.int .i64), .own 5, .own 6, .hole (.sl (.int .i64))], .gone, .gone, .gone, .arr 66 (.st (.pair (.int .i64) (.pair (.int .i64) .bool))), .arr 3 (.int .i64), .arr 3 (.int .i64)]⟩⟩
noncomputable def G.f42Γ : List Con := [G.f57con]
def G.f42ann : Ann :=
  (.seq .leaf (.seq .leaf .leaf))
/- (*ductus/ductusref06.walk).start -/
noncomputable def G.f42F : Int × Int × Int × Int × Int × List Int × List (Int × Int × Bool) × List Int × List Int → Option (Int × Int × Int × Int × Int × List Int × List (Int × Int × Bool) × List Int × List Int) :=
  fun (x : Int × Int × Int × Int × Int × List Int × List (Int × Int × Bool) × List Int × List Int) =>
  Option.bind
    (Go.Sx.G.f57F
      ((x.1, (-1 : Int), Bool.false), x.1, x.snd.1, x.snd.snd.1, x.snd.snd.snd.1, x.snd.snd.snd.snd.1, x.snd.snd.snd.snd.snd.1, [], x.snd.snd.snd.snd.snd.snd.snd.1, x.snd.snd.snd.snd.snd.snd.snd.2))
    fun (v1 : Int × Int × Int × Int × Int × List Int × List (Int × Int × Bool) × List Int × List Int) =>
    Option.some
      (v1.1, (0 : Int), (0 : Int), (0 : Int), v1.snd.snd.snd.snd.1, v1.snd.snd.snd.snd.snd.1, v1.snd.snd.snd.snd.snd.snd.1, v1.snd.snd.snd.snd.snd.snd.snd.1, v1.snd.snd.snd.snd.snd.snd.snd.2)
theorem G.f42eq : ∀ x, runFn G.C G.f42Γ G.f42sig G.f42ann Go.Proofs.Tryd.f42 x = G.f42F x := by
  intro x
  kernel_rfl
noncomputable def G.f42con : Con := ⟨42, G.f42sig, G.f42F⟩
theorem G.f42ok : Con.Ok Go.Proofs.Tryd.prog G.C G.f42con :=
  runFn_ok (Γ := G.f42Γ) (an := G.f42ann) ⟨G.Cok, (List.forall_mem_cons.2 ⟨G.f57ok, (fun _ h => nomatch h)⟩), G.mixed⟩ Go.Proofs.Tryd.func42 rfl rfl (fun x y h => (G.f42eq x).trans h) (by decide)
def G.f47sig : Sig := ⟨⟨[.ro (.st (.pair (.int .i64) (.pair (.sl (.st (.pair (.int .i64) (.pair (.int .i64) .bool)))) (.pair (.int .i64) (.pair (.int .i64) (.pair (.int .i64) (.pair (.int .i64) (.pair (.sl (.int .i64)) (.pair (.sl (.int .i64)) (.sl (.int .i64)))))))))))], []⟩, ⟨[.hole (.st (.pair (.int .i64) (.pair (.int .i64) .bool)))], []⟩⟩
noncomputable def G.f47Γ : List Con := []
def G.f47ann : Ann :=
  (.seq .leaf (.seq (.tail 12) .leaf))
/- (*ductus/ductusref06.walk).top -/
noncomputable def G.f47F : Int × List (Int × Int × Bool) × Int × Int × Int × Int × List Int × List Int × List Int → Option (Int × Int × Bool) :=
  fun (x : Int × List (Int × Int × Bool) × Int × Int × Int × Int × List Int × List Int × List Int) =>
  if
      (0 : Int) ≤ Go.IntKind.wrap Go.IntKind.i64 ((↑(List.length x.snd.fst) : Int) - (1 : Int)) ∧
        Go.IntKind.wrap Go.IntKind.i64 ((↑(List.length x.snd.fst) : Int) - (1 : Int)) < (↑(List.length x.snd.fst) : Int) then
    Option.some
      ((List.getD x.snd.fst (Int.toNat (Go.IntKind.wrap Go.IntKind.i64 ((↑(List.length x.snd.fst) : Int) - (1 : Int)))) ((0 : Int), (0 : Int), Bool.false)).1,
        (List.getD x.snd.fst (Int.toNat (Go.IntKind.wrap Go.IntKind.i64 ((↑(List.length x.snd.fst) : Int) - (1 : Int)))) ((0 : Int), (0 : Int), Bool.false)).snd.1,
        (List.getD x.snd.fst (Int.toNat (Go.IntKind.wrap Go.IntKind.i64 ((↑(List.length x.snd.fst) : Int) - (1 : Int)))) ((0 : Int), (0 : Int), Bool.false)).snd.2)
  else Option.none
theorem G.f47eq : ∀ x, runFn G.C G.f47Γ G.f47sig G.f47ann Go.Proofs.Tryd.f47 x = G.f47F x := by
  intro x
  kernel_rfl
noncomputable def G.f47con : Con := ⟨47, G.f47sig, G.f47F⟩
theorem G.f47ok : Con.Ok Go.Proofs.Tryd.prog G.C G.f47con :=
  runFn_ok (Γ := G.f47Γ) (an := G.f47ann) ⟨G.Cok, (fun _ h => nomatch h), G.mixed⟩ Go.Proofs.Tryd.func47 rfl rfl (fun x y h => (G.f47eq x).trans h) (by decide)
def G.f29sig : Sig := ⟨⟨[.hole (.int .i64), .hole (.int .i64)], []⟩, ⟨[.hole (.int .i64)], []⟩⟩
noncomputable def G.f29Γ : List Con := []
def G.f29ann : Ann :=
  (.seq .leaf (.seq (.seq (.join [⟨.normal, [(12, .hole .bool)], []⟩] .leaf) (.cond (.seq .leaf .leaf) .leaf)) (.seq .leaf (.seq .leaf (.seq (.join [⟨.normal, [(6, .hole (.int .i64))], []⟩] (.seq .leaf (.cond .leaf .leaf))) (.seq (.block (.loop ⟨.normal, [(5, .hole (.int .i64))], []⟩ [⟨(.exit 0), [(5, .hole (.int .i64))], []⟩] (.seq (.seq .leaf (.cond .leaf .leaf)) (.block .leaf)))) (.seq .leaf .leaf)))))))
/- ductus/ductusref06.Next -/
noncomputable def G.f29F : Int × Int → Option (Int) :=
  fun (x : Int × Int) =>
  Option.bind (if Decidable.decide (x.fst < (0 : Int)) = Bool.true then Option.some Bool.true else Option.some (Decidable.decide (x.fst > (125 : Int)))) fun (v1 : Bool) =>
    if v1 = Bool.true then Option.some (-1 : Int)
    else
      Option.bind (if (x.snd == (1 : Int)) = Bool.true then Option.some (1 : Int) else Option.some (0 : Int)) fun (v2 : Int) =>
        Option.bind
          (Go.Sx.iter (fun (s3 : Int) => if (Int.tmod s3 (2 : Int) != v2) = Bool.true then Option.some (Sum.inl (Go.IntKind.wrap Go.IntKind.i64 (s3 + (1 : Int)))) else Option.some (Sum.inr s3))
            (Go.IntKind.wrap Go.IntKind.i64 (x.fst + (1 : Int))))
          fun (v3 : Int) => Option.some v3
theorem G.f29eq : ∀ x, runFn G.C G.f29Γ G.f29sig G.f29ann Go.Proofs.Tryd.f29 x = G.f29F x := by
  intro x
  kernel_rfl
noncomputable def G.f29con : Con := ⟨29, G.f29sig, G.f29F⟩
theorem G.f29ok : Con.Ok Go.Proofs.Tryd.prog G.C G.f29con :=
  runFn_ok (Γ := G.f29Γ) (an := G.f29ann) ⟨G.Cok, (fun _ h => nomatch h), G.mixed⟩ Go.Proofs.Tryd.func29 rfl rfl (fun x y h => (G.f29eq x).trans h) (by decide)
def G.f58sig : Sig := ⟨⟨[.ro (.st (.pair (.int .i64) (.pair (.sl (.st (.pair (.int .i64) (.pair (.int .i64) .bool)))) (.pair (.int .i64) (.pair (.int .i64) (.pair (.int .i64) (.pair (.int .i64) (.pair (.sl (.int .i64)) (.pair (.sl (.int .i64)) (.sl (.int .i64))))))))))), .hole (.int .i64)], []⟩, ⟨[.hole .bool], []⟩⟩
noncomputable def G.f58Γ : List Con := []
def G.f58ann : Ann :=
  (.seq .leaf (.seq .leaf .leaf))
/- (*ductus/ductusref06.walk).fits -/
noncomputable def G.f58F : (Int × List (Int × Int × Bool) × Int × Int × Int × Int × List Int × List Int × List Int) × Int → Option (Bool) :=
  fun (x : (Int × List (Int × Int × Bool) × Int × Int × Int × Int × List Int × List Int × List Int) × Int) =>
  if Decidable.decide (x.snd ≤ (125 : Int)) = Bool.true then if (x.fst.snd.snd.fst == (0 : Int)) = Bool.true then Option.some (x.fst.snd.snd.snd.fst == (0 : Int)) else Option.some Bool.false
  else Option.some Bool.false
theorem G.f58eq : ∀ x, runFn G.C G.f58Γ G.f58sig G.f58ann Go.Proofs.Tryd.f58 x = G.f58F x := by
  intro x
  kernel_rfl
noncomputable def G.f58con : Con := ⟨58, G.f58sig, G.f58F⟩
theorem G.f58ok : Con.Ok Go.Proofs.Tryd.prog G.C G.f58con :=
  runFn_ok (Γ := G.f58Γ) (an := G.f58ann) ⟨G.Cok, (fun _ h => nomatch h), G.mixed⟩ Go.Proofs.Tryd.func58 rfl rfl (fun x y h => (G.f58eq x).trans h) (by decide)
def G.f43sig : Sig := ⟨⟨[.ptr 0 0, .hole (.int .i64)], [.cells [.hole (.int .i64), .own 1, .hole (.int .i64), .hole (.int .i64), .hole (.int .i64), .hole (.int .i64), .own 2, .own 3, .hole (.sl (.int .i64))], .arr 66 (.st (.pair (.int .i64) (.pair (.int .i64) .bool))), .arr 3 (.int .i64), .arr 3 (.int .i64)]⟩, ⟨[], [.cells [.hole (.int .i64), .own 4, .hole (.int .i64), .hole (.int .i64), .hole (.int .i64), .hole (.int .i64), .own 5, .own 6, .hole (.sl (.int .i64))], .gone, .gone, .gone, .arr 66 (.st (.pair (.int .i64) (.pair (.int .i64) .bool))), .arr 3 (.int .i64), .arr 3 (.int .i64)]⟩⟩
noncomputable def G.f43Γ : List Con := [G.f47con, G.f29con, G.f58con, G.f57con]
def G.f43ann : Ann :=
  (.seq (.eff 7 [16] [0, 0, 0, 4, 12, 28, 0, 64, 192, 448, 1020, 0, 2048, 6144, 14336, 0, 32768, 131068, 262141, 524285, 1048573, 2097151, 4194303, 8388607]) (.seq .leaf (.seq (.join [⟨.normal, [(4, .hole (.int .i64))], [.cells [.hole (.int .i64), .own 1, .hole (.int .i64), .hole (.int .i64), .hole (.int .i64), .hole (.int .i64), .own 5, .own 6, .hole (.sl (.int .i64))], .arr 66 (.st (.pair (.int .i64) (.pair (.int .i64) .bool))), .gone, .gone, .gone, .arr 3 (.int .i64), .arr 3 (.int .i64)]⟩] (.seq (.join [⟨.normal, [(34, .hole .bool)], [.cells [.hole (.int .i64), .own 1, .hole (.int .i64), .hole (.int .i64), .hole (.int .i64), .hole (.int .i64), .own 5, .own 6, .hole (.sl (.int .i64))], .arr 66 (.st (.pair (.int .i64) (.pair (.int .i64) .bool))), .gone, .gone, .gone, .arr 3 (.int .i64), .arr 3 (.int .i64)]⟩] .leaf) (.cond .leaf .leaf))) (.seq (.join [⟨.normal, [(5, .hole (.int .i64))], [.cells [.hole (.int .i64), .own 1, .hole (.int .i64), .hole (.int .i64), .hole (.int .i64), .hole (.int .i64), .own 5, .own 6, .hole (.sl (.int .i64))], .arr 66 (.st (.pair (.int .i64) (.pair (.int .i64) .bool))), .gone, .gone, .gone, .arr 3 (.int .i64), .arr 3 (.int .i64)]⟩] (.seq .leaf (.cond .leaf .leaf))) (.seq (.join [⟨.normal, [(5, .hole (.int .i64))], [.cells [.hole (.int .i64), .own 1, .hole (.int .i64), .hole (.int .i64), .hole (.int .i64), .hole (.int .i64), .own 5, .own 6, .hole (.sl (.int .i64))], .arr 66 (.st (.pair (.int .i64) (.pair (.int .i64) .bool))), .gone, .gone, .gone, .arr 3 (.int .i64), .arr 3 (.int .i64)]⟩] (.seq .leaf (.cond .leaf .leaf))) (.seq .leaf (.seq .leaf (.cond .leaf (.seq .leaf (.cond .leaf .leaf))))))))))
/- (*ductus/ductusref06.walk).embed -/
noncomputable def G.f43F : Int × Int × Int × Int × Int × Int × List Int × List (Int × Int × Bool) × List Int × List Int → Option (Int × Int × Int × Int × Int × List Int × List (Int × Int × Bool) × List Int × List Int) :=
  fun (x : Int × Int × Int × Int × Int × Int × List Int × List (Int × Int × Bool) × List Int × List Int) =>
  Option.bind
    (Go.Sx.G.f47F
      (x.snd.1, x.snd.snd.snd.snd.snd.snd.snd.1, x.snd.snd.1, x.snd.snd.snd.1, x.snd.snd.snd.snd.1, x.snd.snd.snd.snd.snd.1, x.snd.snd.snd.snd.snd.snd.snd.snd.1, x.snd.snd.snd.snd.snd.snd.snd.snd.2,
        x.snd.snd.snd.snd.snd.snd.1))
    fun (v1 : Int × Int × Bool) =>
    if
        Go.Sx.roomOk (List.length x.snd.snd.snd.snd.snd.snd.snd.snd.fst + List.length [v1.1])
          { kind := Go.Sx.TK.int Go.IntKind.i64, size := (1 : Nat), bytes := (8 : Nat), ty := Option.some (Go.Sx.Ty.int Go.IntKind.i64),
              zero := [Go.Sx.SV.val (Go.Sx.Ty.int Go.IntKind.i64) (0 : Int)] : Go.Sx.TI }.bytes then
      if
          Go.Sx.roomOk (List.length x.snd.snd.snd.snd.snd.snd.snd.snd.snd + List.length [x.1])
            { kind := Go.Sx.TK.int Go.IntKind.i64, size := (1 : Nat), bytes := (8 : Nat), ty := Option.some (Go.Sx.Ty.int Go.IntKind.i64),
                zero := [Go.Sx.SV.val (Go.Sx.Ty.int Go.IntKind.i64) (0 : Int)] : Go.Sx.TI }.bytes then
        Option.bind
          (Option.bind
            (if (x.fst == (16 : Int)) = Bool.true then
              Option.some
                (Bool.true, x.snd.1, x.snd.snd.1, x.snd.snd.snd.1, x.snd.snd.snd.snd.1, x.snd.snd.snd.snd.snd.1, x.snd.snd.snd.snd.snd.snd.1, x.snd.snd.snd.snd.snd.snd.snd.1,
                  x.snd.snd.snd.snd.snd.snd.snd.snd.1 ++ [v1.1], x.snd.snd.snd.snd.snd.snd.snd.snd.2 ++ [x.1])
            else
              Option.some
                (x.fst == (17 : Int), x.snd.1, x.snd.snd.1, x.snd.snd.snd.1, x.snd.snd.snd.snd.1, x.snd.snd.snd.snd.snd.1, x.snd.snd.snd.snd.snd.snd.1, x.snd.snd.snd.snd.snd.snd.snd.1,
                  x.snd.snd.snd.snd.snd.snd.snd.snd.1 ++ [v1.1], x.snd.snd.snd.snd.snd.snd.snd.snd.2 ++ [x.1]))
            fun (v2 : Bool × Int × Int × Int × Int × Int × List Int × List (Int × Int × Bool) × List Int × List Int) =>
            if v2.fst = Bool.true then
              Option.some
                ((1 : Int), v2.snd.1, v2.snd.snd.1, v2.snd.snd.snd.1, v2.snd.snd.snd.snd.1, v2.snd.snd.snd.snd.snd.1, v2.snd.snd.snd.snd.snd.snd.1, v2.snd.snd.snd.snd.snd.snd.snd.1,
                  v2.snd.snd.snd.snd.snd.snd.snd.snd.1, v2.snd.snd.snd.snd.snd.snd.snd.snd.2)
            else
              Option.some
                ((0 : Int), v2.snd.1, v2.snd.snd.1, v2.snd.snd.snd.1, v2.snd.snd.snd.snd.1, v2.snd.snd.snd.snd.snd.1, v2.snd.snd.snd.snd.snd.snd.1, v2.snd.snd.snd.snd.snd.snd.snd.1,
                  v2.snd.snd.snd.snd.snd.snd.snd.snd.1, v2.snd.snd.snd.snd.snd.snd.snd.snd.2))
          fun (v2 : Int × Int × Int × Int × Int × Int × List Int × List (Int × Int × Bool) × List Int × List Int) =>
          Option.bind
            (if (x.fst == (15 : Int)) = Bool.true then
              Option.some
                ((0 : Int), v2.snd.1, v2.snd.snd.1, v2.snd.snd.snd.1, v2.snd.snd.snd.snd.1, v2.snd.snd.snd.snd.snd.1, v2.snd.snd.snd.snd.snd.snd.1, v2.snd.snd.snd.snd.snd.snd.snd.1,
                  v2.snd.snd.snd.snd.snd.snd.snd.snd.1, v2.snd.snd.snd.snd.snd.snd.snd.snd.2)
            else
              Option.some
                ((-1 : Int), v2.snd.1, v2.snd.snd.1, v2.snd.snd.snd.1, v2.snd.snd.snd.snd.1, v2.snd.snd.snd.snd.snd.1, v2.snd.snd.snd.snd.snd.snd.1, v2.snd.snd.snd.snd.snd.snd.snd.1,
                  v2.snd.snd.snd.snd.snd.snd.snd.snd.1, v2.snd.snd.snd.snd.snd.snd.snd.snd.2))
            fun (v3 : Int × Int × Int × Int × Int × Int × List Int × List (Int × Int × Bool) × List Int × List Int) =>
            Option.bind
              (if (x.fst == (17 : Int)) = Bool.true then
                Option.some
                  ((1 : Int), v3.snd.1, v3.snd.snd.1, v3.snd.snd.snd.1, v3.snd.snd.snd.snd.1, v3.snd.snd.snd.snd.snd.1, v3.snd.snd.snd.snd.snd.snd.1, v3.snd.snd.snd.snd.snd.snd.snd.1,
                    v3.snd.snd.snd.snd.snd.snd.snd.snd.1, v3.snd.snd.snd.snd.snd.snd.snd.snd.2)
              else
                Option.some
                  (v3.1, v3.snd.1, v3.snd.snd.1, v3.snd.snd.snd.1, v3.snd.snd.snd.snd.1, v3.snd.snd.snd.snd.snd.1, v3.snd.snd.snd.snd.snd.snd.1, v3.snd.snd.snd.snd.snd.snd.snd.1,
                    v3.snd.snd.snd.snd.snd.snd.snd.snd.1, v3.snd.snd.snd.snd.snd.snd.snd.snd.2))
              fun (v4 : Int × Int × Int × Int × Int × Int × List Int × List (Int × Int × Bool) × List Int × List Int) =>
              Option.bind
                (Go.Sx.G.f47F
                  (v4.snd.1, v4.snd.snd.snd.snd.snd.snd.snd.1, v4.snd.snd.1, v4.snd.snd.snd.1, v4.snd.snd.snd.snd.1, v4.snd.snd.snd.snd.snd.1, v4.snd.snd.snd.snd.snd.snd.snd.snd.1,
                    v4.snd.snd.snd.snd.snd.snd.snd.snd.2, v4.snd.snd.snd.snd.snd.snd.1))
                fun (v5 : Int × Int × Bool) =>
                Option.bind (Go.Sx.G.f29F (v5.1, v2.1)) fun (v6 : Int) =>
                  Option.bind
                    (Go.Sx.G.f58F
                      ((v4.snd.1, v4.snd.snd.snd.snd.snd.snd.snd.1, v4.snd.snd.1, v4.snd.snd.snd.1, v4.snd.snd.snd.snd.1, v4.snd.snd.snd.snd.snd.1, v4.snd.snd.snd.snd.snd.snd.snd.snd.1,
                          v4.snd.snd.snd.snd.snd.snd.snd.snd.2, v4.snd.snd.snd.snd.snd.snd.1),
                        v6))
                    fun (v7 : Bool) =>
                    if v7 = Bool.true then
                      Option.bind
                        (Go.Sx.G.f57F
                          ((v6, v4.1, Bool.false), v4.snd.1, v4.snd.snd.1, v4.snd.snd.snd.1, v4.snd.snd.snd.snd.1, v4.snd.snd.snd.snd.snd.1, v4.snd.snd.snd.snd.snd.snd.1,
                            v4.snd.snd.snd.snd.snd.snd.snd.1, v4.snd.snd.snd.snd.snd.snd.snd.snd.1, v4.snd.snd.snd.snd.snd.snd.snd.snd.2))
                        fun (v8 : Int × Int × Int × Int × Int × List Int × List (Int × Int × Bool) × List Int × List Int) =>
                        Option.some
                          (v8.1, v8.snd.1, v8.snd.snd.1, v8.snd.snd.snd.1, v8.snd.snd.snd.snd.1, v8.snd.snd.snd.snd.snd.1, v8.snd.snd.snd.snd.snd.snd.1, v8.snd.snd.snd.snd.snd.snd.snd.1,
                            v8.snd.snd.snd.snd.snd.snd.snd.2)
                    else
                      if (v4.snd.snd.fst == (0 : Int)) = Bool.true then
                        Option.some
                          (v4.snd.1, v4.snd.snd.1, Go.IntKind.wrap Go.IntKind.i64 (v4.snd.snd.snd.fst + (1 : Int)), v4.snd.snd.snd.snd.1, v4.snd.snd.snd.snd.snd.1, v4.snd.snd.snd.snd.snd.snd.1,
                            v4.snd.snd.snd.snd.snd.snd.snd.1, v4.snd.snd.snd.snd.snd.snd.snd.snd.1, v4.snd.snd.snd.snd.snd.snd.snd.snd.2)
                      else
                        Option.some
                          (v4.snd.1, v4.snd.snd.1, v4.snd.snd.snd.1, v4.snd.snd.snd.snd.1, v4.snd.snd.snd.snd.snd.1, v4.snd.snd.snd.snd.snd.snd.1, v4.snd.snd.snd.snd.snd.snd.snd.1,
                            v4.snd.snd.snd.snd.snd.snd.snd.snd.1, v4.snd.snd.snd.snd.snd.snd.snd.snd.2)
      else Option.none
    else Option.none
theorem G.f43eq : ∀ x, runFn G.C G.f43Γ G.f43sig G.f43ann Go.Proofs.Tryd.f43 x = G.f43F x := by
  intro x
  kernel_rfl
noncomputable def G.f43con : Con := ⟨43, G.f43sig, G.f43F⟩
theorem G.f43ok : Con.Ok Go.Proofs.Tryd.prog G.C G.f43con :=
  runFn_ok (Γ := G.f43Γ) (an := G.f43ann) ⟨G.Cok, (List.forall_mem_cons.2 ⟨G.f47ok, (List.forall_mem_cons.2 ⟨G.f29ok, (List.forall_mem_cons.2 ⟨G.f58ok, (List.forall_mem_cons.2 ⟨G.f57ok, (fun _ h => nomatch h)⟩)⟩)⟩)⟩), G.mixed⟩ Go.Proofs.Tryd.func43 rfl rfl (fun x y h => (G.f43eq x).trans h) (by decide)
def G.f48sig : Sig := ⟨⟨[.ptr 0 0, .hole (.int .i64)], [.cells [.hole (.int .i64), .own 1, .hole (.int .i64), .hole (.int .i64), .hole (.int .i64), .hole (.int .i64), .own 2, .own 3, .hole (.sl (.int .i64))], .arr 66 (.st (.pair (.int .i64) (.pair (.int .i64) .bool))), .arr 3 (.int .i64), .arr 3 (.int .i64)]⟩, ⟨[], [.cells [.hole (.int .i64), .own 4, .hole (.int .i64), .hole (.int .i64), .hole (.int .i64), .hole (.int .i64), .own 5, .own 6, .hole (.sl (.int .i64))], .gone, .gone, .gone, .arr 66 (.st (.pair (.int .i64) (.pair (.int .i64) .bool))), .arr 3 (.int .i64), .arr 3 (.int .i64)]⟩⟩
noncomputable def G.f48Γ : List Con := [G.f47con]
def G.f48ann : Ann :=
  (.seq (.eff 6 [] [0, 0, 2, 6, 14, 0, 32, 96, 224, 510, 1023, 2047, 4095]) (.seq (.join [⟨.normal, [(1, .hole (.int .i64))], [.cells [.hole (.int .i64), .own 1, .hole (.int .i64), .hole (.int .i64), .hole (.int .i64), .hole (.int .i64), .own 5, .own 3, .hole (.sl (.int .i64))], .arr 66 (.st (.pair (.int .i64) (.pair (.int .i64) .bool))), .gone, .arr 3 (.int .i64), .gone, .arr 3 (.int .i64)]⟩] (.seq .leaf (.cond .leaf .leaf))) .leaf))
/- (*ductus/ductusref06.walk).put -/
noncomputable def G.f48F : Int × Int × Int × Int × Int × Int × List Int × List (Int × Int × Bool) × List Int × List Int → Option (Int × Int × Int × Int × Int × List Int × List (Int × Int × Bool) × List Int × List Int) :=
  fun (x : Int × Int × Int × Int × Int × Int × List Int × List (Int × Int × Bool) × List Int × List Int) =>
  Option.bind
    (Go.Sx.G.f47F
      (x.snd.1, x.snd.snd.snd.snd.snd.snd.snd.1, x.snd.snd.1, x.snd.snd.snd.1, x.snd.snd.snd.snd.1, x.snd.snd.snd.snd.snd.1, x.snd.snd.snd.snd.snd.snd.snd.snd.1, x.snd.snd.snd.snd.snd.snd.snd.snd.2,
        x.snd.snd.snd.snd.snd.snd.1))
    fun (v1 : Int × Int × Bool) =>
    if
        Go.Sx.roomOk (List.length x.snd.snd.snd.snd.snd.snd.snd.snd.fst + List.length [v1.1])
          { kind := Go.Sx.TK.int Go.IntKind.i64, size := (1 : Nat), bytes := (8 : Nat), ty := Option.some (Go.Sx.Ty.int Go.IntKind.i64),
              zero := [Go.Sx.SV.val (Go.Sx.Ty.int Go.IntKind.i64) (0 : Int)] : Go.Sx.TI }.bytes then
      Option.bind
        (Option.bind
          (Go.Sx.G.f47F
            (x.snd.1, x.snd.snd.snd.snd.snd.snd.snd.1, x.snd.snd.1, x.snd.snd.snd.1, x.snd.snd.snd.snd.1, x.snd.snd.snd.snd.snd.1, x.snd.snd.snd.snd.snd.snd.snd.snd.1 ++ [v1.1],
              x.snd.snd.snd.snd.snd.snd.snd.snd.2, x.snd.snd.snd.snd.snd.snd.1))
          fun (v2 : Int × Int × Bool) =>
          if Decidable.decide (v2.snd.fst ≥ (0 : Int)) = Bool.true then
            Option.bind
              (Go.Sx.G.f47F
                (x.snd.1, x.snd.snd.snd.snd.snd.snd.snd.1, x.snd.snd.1, x.snd.snd.snd.1, x.snd.snd.snd.snd.1, x.snd.snd.snd.snd.snd.1, x.snd.snd.snd.snd.snd.snd.snd.snd.1 ++ [v1.1],
                  x.snd.snd.snd.snd.snd.snd.snd.snd.2, x.snd.snd.snd.snd.snd.snd.1))
              fun (v3 : Int × Int × Bool) =>
              Option.some
                (v3.snd.1, x.snd.1, x.snd.snd.1, x.snd.snd.snd.1, x.snd.snd.snd.snd.1, x.snd.snd.snd.snd.snd.1, x.snd.snd.snd.snd.snd.snd.1, x.snd.snd.snd.snd.snd.snd.snd.1,
                  x.snd.snd.snd.snd.snd.snd.snd.snd.2, x.snd.snd.snd.snd.snd.snd.snd.snd.1 ++ [v1.1])
          else
            Option.some
              (x.1, x.snd.1, x.snd.snd.1, x.snd.snd.snd.1, x.snd.snd.snd.snd.1, x.snd.snd.snd.snd.snd.1, x.snd.snd.snd.snd.snd.snd.1, x.snd.snd.snd.snd.snd.snd.snd.1,
                x.snd.snd.snd.snd.snd.snd.snd.snd.2, x.snd.snd.snd.snd.snd.snd.snd.snd.1 ++ [v1.1]))
        fun (v2 : Int × Int × Int × Int × Int × Int × List Int × List (Int × Int × Bool) × List Int × List Int) =>
        if
            Go.Sx.roomOk (List.length v2.snd.snd.snd.snd.snd.snd.snd.snd.fst + List.length [v2.1])
              { kind := Go.Sx.TK.int Go.IntKind.i64, size := (1 : Nat), bytes := (8 : Nat), ty := Option.some (Go.Sx.Ty.int Go.IntKind.i64),
                  zero := [Go.Sx.SV.val (Go.Sx.Ty.int Go.IntKind.i64) (0 : Int)] : Go.Sx.TI }.bytes then
          Option.some
            (v2.snd.1, v2.snd.snd.1, v2.snd.snd.snd.1, v2.snd.snd.snd.snd.1, v2.snd.snd.snd.snd.snd.1, v2.snd.snd.snd.snd.snd.snd.1, v2.snd.snd.snd.snd.snd.snd.snd.1,
              v2.snd.snd.snd.snd.snd.snd.snd.snd.2, v2.snd.snd.snd.snd.snd.snd.snd.snd.1 ++ [v2.1])
        else Option.none
    else Option.none
theorem G.f48eq : ∀ x, runFn G.C G.f48Γ G.f48sig G.f48ann Go.Proofs.Tryd.f48 x = G.f48F x := by
  intro x
  kernel_rfl
noncomputable def G.f48con : Con := ⟨48, G.f48sig, G.f48F⟩
theorem G.f48ok : Con.Ok Go.Proofs.Tryd.prog G.C G.f48con :=
  runFn_ok (Γ := G.f48Γ) (an := G.f48ann) ⟨G.Cok, (List.forall_mem_cons.2 ⟨G.f47ok, (fun _ h => nomatch h)⟩), G.mixed⟩ Go.Proofs.Tryd.func48 rfl rfl (fun x y h => (G.f48eq x).trans h) (by decide)
def G.f44sig : Sig := ⟨⟨[.ptr 0 0, .hole (.int .i64), .hole (.int .i64)], [.cells [.hole (.int .i64), .own 1, .hole (.int .i64), .hole (.int .i64), .hole (.int .i64), .hole (.int .i64), .own 2, .own 3, .hole (.sl (.int .i64))], .arr 66 (.st (.pair (.int .i64) (.pair (.int .i64) .bool))), .arr 3 (.int .i64), .arr 3 (.int .i64)]⟩, ⟨[], [.cells [.hole (.int .i64), .own 4, .hole (.int .i64), .hole (.int .i64), .hole (.int .i64), .hole (.int .i64), .own 5, .own 6, .hole (.sl (.int .i64))], .gone, .gone, .gone, .arr 66 (.st (.pair (.int .i64) (.pair (.int .i64) .bool))), .arr 3 (.int .i64), .arr 3 (.int .i64)]⟩⟩
noncomputable def G.f44Γ : List Con := [G.f48con, G.f47con, G.f21con, G.f29con, G.f58con, G.f57con]
def G.f44ann : Ann :=
  (.seq .leaf (.seq .leaf (.seq .leaf (.cond (.seq .leaf .leaf) .leaf))))
/- (*ductus/ductusref06.walk).isolate -/
noncomputable def G.f44F : Int × Int × Int × Int × Int × Int × Int × List Int × List (Int × Int × Bool) × List Int × List Int → Option (Int × Int × Int × Int × Int × List Int × List (Int × Int × Bool) × List Int × List Int) :=
  fun (x : Int × Int × Int × Int × Int × Int × Int × List Int × List (Int × Int × Bool) × List Int × List Int) =>
  Option.bind
    (Go.Sx.G.f48F
      (x.snd.1, x.snd.snd.1, x.snd.snd.snd.1, x.snd.snd.snd.snd.1, x.snd.snd.snd.snd.snd.1, x.snd.snd.snd.snd.snd.snd.1, x.snd.snd.snd.snd.snd.snd.snd.1, x.snd.snd.snd.snd.snd.snd.snd.snd.1,
        x.snd.snd.snd.snd.snd.snd.snd.snd.snd.1, x.snd.snd.snd.snd.snd.snd.snd.snd.snd.2))
    fun (v1 : Int × Int × Int × Int × Int × List Int × List (Int × Int × Bool) × List Int × List Int) =>
    Option.bind
      (Go.Sx.G.f47F
        (v1.1, v1.snd.snd.snd.snd.snd.snd.1, v1.snd.1, v1.snd.snd.1, v1.snd.snd.snd.1, v1.snd.snd.snd.snd.1, v1.snd.snd.snd.snd.snd.snd.snd.1, v1.snd.snd.snd.snd.snd.snd.snd.2,
          v1.snd.snd.snd.snd.snd.1))
      fun (v2 : Int × Int × Bool) =>
      Option.bind (Go.Sx.G.f21F (v1.snd.snd.snd.snd.snd.1, x.1)) fun (v3 : Int) =>
        Option.bind (Go.Sx.G.f29F (v2.1, v3)) fun (v4 : Int) =>
          Option.bind
            (Go.Sx.G.f58F
              ((v1.1, v1.snd.snd.snd.snd.snd.snd.1, v1.snd.1, v1.snd.snd.1, v1.snd.snd.snd.1, v1.snd.snd.snd.snd.1, v1.snd.snd.snd.snd.snd.snd.snd.1, v1.snd.snd.snd.snd.snd.snd.snd.2,
                  v1.snd.snd.snd.snd.snd.1),
                v4))
            fun (v5 : Bool) =>
            if v5 = Bool.true then
              Option.bind
                (Go.Sx.G.f57F
                  ((v4, (-1 : Int), Bool.true), v1.1, v1.snd.1, v1.snd.snd.1, Go.IntKind.wrap Go.IntKind.i64 (v1.snd.snd.snd.fst + (1 : Int)), v1.snd.snd.snd.snd.1, v1.snd.snd.snd.snd.snd.1,
                    v1.snd.snd.snd.snd.snd.snd.1, v1.snd.snd.snd.snd.snd.snd.snd.1, v1.snd.snd.snd.snd.snd.snd.snd.2))
                fun (v6 : Int × Int × Int × Int × Int × List Int × List (Int × Int × Bool) × List Int × List Int) =>
                Option.some
                  (v6.1, v6.snd.1, v6.snd.snd.1, v6.snd.snd.snd.1, v6.snd.snd.snd.snd.1, v6.snd.snd.snd.snd.snd.1, v6.snd.snd.snd.snd.snd.snd.1, v6.snd.snd.snd.snd.snd.snd.snd.1,
                    v6.snd.snd.snd.snd.snd.snd.snd.2)
            else
              Option.some
                (v1.1, Go.IntKind.wrap Go.IntKind.i64 (v1.snd.fst + (1 : Int)), v1.snd.snd.1, v1.snd.snd.snd.1, v1.snd.snd.snd.snd.1, v1.snd.snd.snd.snd.snd.1, v1.snd.snd.snd.snd.snd.snd.1,
                  v1.snd.snd.snd.snd.snd.snd.snd.1, v1.snd.snd.snd.snd.snd.snd.snd.2)
theorem G.f44eq : ∀ x, runFn G.C G.f44Γ G.f44sig G.f44ann Go.Proofs.Tryd.f44 x = G.f44F x := by
  intro x
  kernel_rfl
noncomputable def G.f44con : Con := ⟨44, G.f44sig, G.f44F⟩
theorem G.f44ok : Con.Ok Go.Proofs.Tryd.prog G.C G.f44con :=
  runFn_ok (Γ := G.f44Γ) (an := G.f44ann) ⟨G.Cok, (List.forall_mem_cons.2 ⟨G.f48ok, (List.forall_mem_cons.2 ⟨G.f47ok, (List.forall_mem_cons.2 ⟨G.f21ok, (List.forall_mem_cons.2 ⟨G.f29ok, (List.forall_mem_cons.2 ⟨G.f58ok, (List.forall_mem_cons.2 ⟨G.f57ok, (fun _ h => nomatch h)⟩)⟩)⟩)⟩)⟩)⟩), G.mixed⟩ Go.Proofs.Tryd.func44 rfl rfl (fun x y h => (G.f44eq x).trans h) (by decide)
def G.f59sig : Sig := ⟨⟨[.ptr 0 0], [.cells [.hole (.int .i64), .own 1, .hole (.int .i64), .hole (.int .i64), .hole (.int .i64), .hole (.int .i64), .own 2, .own 3, .hole (.sl (.int .i64))], .arr 66 (.st (.pair (.int .i64) (.pair (.int .i64) .bool))), .arr 3 (.int .i64), .arr 3 (.int .i64)]⟩, ⟨[], [.cells [.hole (.int .i64), .own 4, .hole (.int .i64), .hole (.int .i64), .hole (.int .i64), .hole (.int .i64), .own 5, .own 6, .hole (.sl (.int .i64))], .gone, .gone, .gone, .arr 66 (.st (.pair (.int .i64) (.pair (.int .i64) .bool))), .arr 3 (.int .i64), .arr 3 (.int .i64)]⟩⟩
noncomputable def G.f59Γ : List Con := []
def G.f59ann : Ann :=
  (.tail 14)
/- (*ductus/ductusref06.walk).pop -/
noncomputable def G.f59F : Int × Int × Int × Int × Int × List Int × List (Int × Int × Bool) × List Int × List Int → Option (Int × Int × Int × Int × Int × List Int × List (Int × Int × Bool) × List Int × List Int) :=
  fun (x : Int × Int × Int × Int × Int × List Int × List (Int × Int × Bool) × List Int × List Int) =>
  if
      (0 : Int) ≤ Go.IntKind.wrap Go.IntKind.i64 ((↑(List.length x.snd.snd.snd.snd.snd.snd.fst) : Int) - (1 : Int)) ∧
        Go.IntKind.wrap Go.IntKind.i64 ((↑(List.length x.snd.snd.snd.snd.snd.snd.fst) : Int) - (1 : Int)) ≤ (↑(List.length x.snd.snd.snd.snd.snd.snd.fst) : Int) then
    Option.some
      (x.1, x.snd.1, x.snd.snd.1, x.snd.snd.snd.1, x.snd.snd.snd.snd.1, x.snd.snd.snd.snd.snd.1,
        List.take (Int.toNat (Go.IntKind.wrap Go.IntKind.i64 ((↑(List.length x.snd.snd.snd.snd.snd.snd.fst) : Int) - (1 : Int)))) x.snd.snd.snd.snd.snd.snd.1, x.snd.snd.snd.snd.snd.snd.snd.1,
        x.snd.snd.snd.snd.snd.snd.snd.2)
  else Option.none
theorem G.f59eq : ∀ x, runFn G.C G.f59Γ G.f59sig G.f59ann Go.Proofs.Tryd.f59 x = G.f59F x := by
  intro x
  kernel_rfl
noncomputable def G.f59con : Con := ⟨59, G.f59sig, G.f59F⟩
theorem G.f59ok : Con.Ok Go.Proofs.Tryd.prog G.C G.f59con :=
  runFn_ok (Γ := G.f59Γ) (an := G.f59ann) ⟨G.Cok, (fun _ h => nomatch h), G.mixed⟩ Go.Proofs.Tryd.func59 rfl rfl (fun x y h => (G.f59eq x).trans h) (by decide)
def G.f45sig : Sig := ⟨⟨[.ptr 0 0, .hole (.int .i64)], [.cells [.hole (.int .i64), .own 1, .hole (.int .i64), .hole (.int .i64), .hole (.int .i64), .hole (.int .i64), .own 2, .own 3, .hole (.sl (.int .i64))], .arr 66 (.st (.pair (.int .i64) (.pair (.int .i64) .bool))), .arr 3 (.int .i64), .arr 3 (.int .i64)]⟩, ⟨[], [.cells [.hole (.int .i64), .own 4, .hole (.int .i64), .hole (.int .i64), .hole (.int .i64), .hole (.int .i64), .own 5, .own 6, .hole (.sl (.int .i64))], .gone, .gone, .gone, .arr 66 (.st (.pair (.int .i64) (.pair (.int .i64) .bool))), .arr 3 (.int .i64), .arr 3 (.int .i64)]⟩⟩
noncomputable def G.f45Γ : List Con := [G.f47con, G.f59con, G.f48con]
def G.f45ann : Ann :=
  (.seq (.block (.seq .leaf (.cond .leaf (.seq .leaf (.cond (.seq .leaf (.seq (.block (.loop ⟨.normal, [], [.cells [.hole (.int .i64), .own 4, .hole (.int .i64), .hole (.int .i64), .hole (.int .i64), .hole (.int .i64), .own 5, .own 6, .hole (.sl (.int .i64))], .gone, .gone, .gone, .arr 66 (.st (.pair (.int .i64) (.pair (.int .i64) .bool))), .arr 3 (.int .i64), .arr 3 (.int .i64)]⟩ [⟨(.exit 1), [], [.cells [.hole (.int .i64), .own 4, .hole (.int .i64), .hole (.int .i64), .hole (.int .i64), .hole (.int .i64), .own 5, .own 6, .hole (.sl (.int .i64))], .gone, .gone, .gone, .arr 66 (.st (.pair (.int .i64) (.pair (.int .i64) .bool))), .arr 3 (.int .i64), .arr 3 (.int .i64)]⟩] (.seq (.seq .leaf (.cond .leaf .leaf)) (.block .leaf)))) (.seq .leaf .leaf))) .leaf))))) .leaf)
/- (*ductus/ductusref06.walk).end -/
noncomputable def G.f45F : Int × Int × Int × Int × Int × Int × List Int × List (Int × Int × Bool) × List Int × List Int → Option (Int × Int × Int × Int × Int × List Int × List (Int × Int × Bool) × List Int × List Int) :=
  fun (x : Int × Int × Int × Int × Int × Int × List Int × List (Int × Int × Bool) × List Int × List Int) =>
  if Decidable.decide (x.snd.snd.fst > (0 : Int)) = Bool.true then
    Option.bind
      (Go.Sx.G.f48F
        (x.1, x.snd.1, Go.IntKind.wrap Go.IntKind.i64 (x.snd.snd.fst - (1 : Int)), x.snd.snd.snd.1, x.snd.snd.snd.snd.1, x.snd.snd.snd.snd.snd.1, x.snd.snd.snd.snd.snd.snd.1,
          x.snd.snd.snd.snd.snd.snd.snd.1, x.snd.snd.snd.snd.snd.snd.snd.snd.1, x.snd.snd.snd.snd.snd.snd.snd.snd.2))
      fun (v1 : Int × Int × Int × Int × Int × List Int × List (Int × Int × Bool) × List Int × List Int) =>
      Option.some
        (v1.1, v1.snd.1, v1.snd.snd.1, v1.snd.snd.snd.1, v1.snd.snd.snd.snd.1, v1.snd.snd.snd.snd.snd.1, v1.snd.snd.snd.snd.snd.snd.1, v1.snd.snd.snd.snd.snd.snd.snd.1,
          v1.snd.snd.snd.snd.snd.snd.snd.2)
  else
    if Decidable.decide (x.snd.snd.snd.snd.fst > (0 : Int)) = Bool.true then
      Option.bind
        (Go.Sx.iter
          (fun (s1 : Int × Int × Int × Int × Int × List Int × List (Int × Int × Bool) × List Int × List Int) =>
            Option.bind
              (Go.Sx.G.f47F
                (s1.1, s1.snd.snd.snd.snd.snd.snd.1, s1.snd.1, s1.snd.snd.1, s1.snd.snd.snd.1, s1.snd.snd.snd.snd.1, s1.snd.snd.snd.snd.snd.snd.snd.1, s1.snd.snd.snd.snd.snd.snd.snd.2,
                  s1.snd.snd.snd.snd.snd.1))
              fun (v2 : Int × Int × Bool) =>
              if (!v2.snd.snd) = Bool.true then
                Option.bind
                  (Go.Sx.G.f59F
                    (s1.1, s1.snd.1, s1.snd.snd.1, s1.snd.snd.snd.1, s1.snd.snd.snd.snd.1, s1.snd.snd.snd.snd.snd.1, s1.snd.snd.snd.snd.snd.snd.1, s1.snd.snd.snd.snd.snd.snd.snd.1,
                      s1.snd.snd.snd.snd.snd.snd.snd.2))
                  fun (v3 : Int × Int × Int × Int × Int × List Int × List (Int × Int × Bool) × List Int × List Int) =>
                  Option.some
                    (Sum.inl
                      (v3.1, v3.snd.1, v3.snd.snd.1, v3.snd.snd.snd.1, v3.snd.snd.snd.snd.1, v3.snd.snd.snd.snd.snd.1, v3.snd.snd.snd.snd.snd.snd.1, v3.snd.snd.snd.snd.snd.snd.snd.1,
                        v3.snd.snd.snd.snd.snd.snd.snd.2))
              else
                Option.some
                  (Sum.inr
                    (s1.1, s1.snd.1, s1.snd.snd.1, s1.snd.snd.snd.1, s1.snd.snd.snd.snd.1, s1.snd.snd.snd.snd.snd.1, s1.snd.snd.snd.snd.snd.snd.1, s1.snd.snd.snd.snd.snd.snd.snd.1,
                      s1.snd.snd.snd.snd.snd.snd.snd.2)))
          (x.snd.1, x.snd.snd.1, (0 : Int), x.snd.snd.snd.snd.1, x.snd.snd.snd.snd.snd.1, x.snd.snd.snd.snd.snd.snd.1, x.snd.snd.snd.snd.snd.snd.snd.1, x.snd.snd.snd.snd.snd.snd.snd.snd.1,
            x.snd.snd.snd.snd.snd.snd.snd.snd.2))
        fun (v1 : Int × Int × Int × Int × Int × List Int × List (Int × Int × Bool) × List Int × List Int) =>
        Option.bind
          (Go.Sx.G.f59F
            (v1.1, v1.snd.1, v1.snd.snd.1, v1.snd.snd.snd.1, v1.snd.snd.snd.snd.1, v1.snd.snd.snd.snd.snd.1, v1.snd.snd.snd.snd.snd.snd.1, v1.snd.snd.snd.snd.snd.snd.snd.1,
              v1.snd.snd.snd.snd.snd.snd.snd.2))
          fun (v2 : Int × Int × Int × Int × Int × List Int × List (Int × Int × Bool) × List Int × List Int) =>
          Option.bind
            (Go.Sx.G.f48F
              (x.1, v2.1, v2.snd.1, v2.snd.snd.1, Go.IntKind.wrap Go.IntKind.i64 (v2.snd.snd.snd.fst - (1 : Int)), v2.snd.snd.snd.snd.1, v2.snd.snd.snd.snd.snd.1, v2.snd.snd.snd.snd.snd.snd.1,
                v2.snd.snd.snd.snd.snd.snd.snd.1, v2.snd.snd.snd.snd.snd.snd.snd.2))
            fun (v3 : Int × Int × Int × Int × Int × List Int × List (Int × Int × Bool) × List Int × List Int) =>
            Option.some
              (v3.1, v3.snd.1, v3.snd.snd.1, v3.snd.snd.snd.1, v3.snd.snd.snd.snd.1, v3.snd.snd.snd.snd.snd.1, v3.snd.snd.snd.snd.snd.snd.1, v3.snd.snd.snd.snd.snd.snd.snd.1,
                v3.snd.snd.snd.snd.snd.snd.snd.2)
    else
      Option.bind
        (Go.Sx.G.f48F
          (x.1, x.snd.1, x.snd.snd.1, x.snd.snd.snd.1, x.snd.snd.snd.snd.1, x.snd.snd.snd.snd.snd.1, x.snd.snd.snd.snd.snd.snd.1, x.snd.snd.snd.snd.snd.snd.snd.1, x.snd.snd.snd.snd.snd.snd.snd.snd.1,
            x.snd.snd.snd.snd.snd.snd.snd.snd.2))
        fun (v1 : Int × Int × Int × Int × Int × List Int × List (Int × Int × Bool) × List Int × List Int) =>
        Option.some
          (v1.1, v1.snd.1, v1.snd.snd.1, v1.snd.snd.snd.1, v1.snd.snd.snd.snd.1, v1.snd.snd.snd.snd.snd.1, v1.snd.snd.snd.snd.snd.snd.1, v1.snd.snd.snd.snd.snd.snd.snd.1,
            v1.snd.snd.snd.snd.snd.snd.snd.2)
theorem G.f45eq : ∀ x, runFn G.C G.f45Γ G.f45sig G.f45ann Go.Proofs.Tryd.f45 x = G.f45F x := by
  intro x
  kernel_rfl
noncomputable def G.f45con : Con := ⟨45, G.f45sig, G.f45F⟩
theorem G.f45ok : Con.Ok Go.Proofs.Tryd.prog G.C G.f45con :=
  runFn_ok (Γ := G.f45Γ) (an := G.f45ann) ⟨G.Cok, (List.forall_mem_cons.2 ⟨G.f47ok, (List.forall_mem_cons.2 ⟨G.f59ok, (List.forall_mem_cons.2 ⟨G.f48ok, (fun _ h => nomatch h)⟩)⟩)⟩), G.mixed⟩ Go.Proofs.Tryd.func45 rfl rfl (fun x y h => (G.f45eq x).trans h) (by decide)
def G.f46sig : Sig := ⟨⟨[.ptr 0 0], [.cells [.hole (.int .i64), .own 1, .hole (.int .i64), .hole (.int .i64), .hole (.int .i64), .hole (.int .i64), .own 2, .own 3, .hole (.sl (.int .i64))], .arr 66 (.st (.pair (.int .i64) (.pair (.int .i64) .bool))), .arr 3 (.int .i64), .arr 3 (.int .i64)]⟩, ⟨[], [.cells [.hole (.int .i64), .own 4, .hole (.int .i64), .hole (.int .i64), .hole (.int .i64), .hole (.int .i64), .own 5, .own 6, .hole (.sl (.int .i64))], .gone, .gone, .gone, .arr 66 (.st (.pair (.int .i64) (.pair (.int .i64) .bool))), .arr 3 (.int .i64), .arr 3 (.int .i64)]⟩⟩
noncomputable def G.f46Γ : List Con := [G.f47con, G.f59con]
def G.f46ann : Ann :=
  (.seq (.eff 7 [15] [0, 0, 0, 4, 12, 28, 0, 64, 192, 448, 1020, 0, 2048, 6144, 14336, 0, 65532, 131069, 262141, 524285, 1048575, 2097151, 4194303]) (.block (.seq .leaf (.cond .leaf (.seq .leaf (.cond .leaf (.seq (.join [⟨.normal, [(42, .hole .bool)], [.cells [.hole (.int .i64), .own 1, .hole (.int .i64), .hole (.int .i64), .hole (.int .i64), .hole (.int .i64), .own 5, .own 6, .hole (.sl (.int .i64))], .arr 66 (.st (.pair (.int .i64) (.pair (.int .i64) .bool))), .gone, .gone, .gone, .arr 3 (.int .i64), .arr 3 (.int .i64)]⟩] .leaf) (.cond .leaf .leaf))))))))
/- (*ductus/ductusref06.walk).back -/
noncomputable def G.f46F : Int × Int × Int × Int × Int × List Int × List (Int × Int × Bool) × List Int × List Int → Option (Int × Int × Int × Int × Int × List Int × List (Int × Int × Bool) × List Int × List Int) :=
  fun (x : Int × Int × Int × Int × Int × List Int × List (Int × Int × Bool) × List Int × List Int) =>
  Option.bind
    (Go.Sx.G.f47F
      (x.1, x.snd.snd.snd.snd.snd.snd.1, x.snd.1, x.snd.snd.1, x.snd.snd.snd.1, x.snd.snd.snd.snd.1, x.snd.snd.snd.snd.snd.snd.snd.1, x.snd.snd.snd.snd.snd.snd.snd.2, x.snd.snd.snd.snd.snd.1))
    fun (v1 : Int × Int × Bool) =>
    if
        Go.Sx.roomOk (List.length x.snd.snd.snd.snd.snd.snd.snd.fst + List.length [v1.1])
          { kind := Go.Sx.TK.int Go.IntKind.i64, size := (1 : Nat), bytes := (8 : Nat), ty := Option.some (Go.Sx.Ty.int Go.IntKind.i64),
              zero := [Go.Sx.SV.val (Go.Sx.Ty.int Go.IntKind.i64) (0 : Int)] : Go.Sx.TI }.bytes then
      if
          Go.Sx.roomOk (List.length x.snd.snd.snd.snd.snd.snd.snd.snd + List.length [(18 : Int)])
            { kind := Go.Sx.TK.int Go.IntKind.i64, size := (1 : Nat), bytes := (8 : Nat), ty := Option.some (Go.Sx.Ty.int Go.IntKind.i64),
                zero := [Go.Sx.SV.val (Go.Sx.Ty.int Go.IntKind.i64) (0 : Int)] : Go.Sx.TI }.bytes then
        if Decidable.decide (x.snd.fst > (0 : Int)) = Bool.true then
          Option.some
            (x.1, x.snd.1, x.snd.snd.1, x.snd.snd.snd.1, x.snd.snd.snd.snd.1, x.snd.snd.snd.snd.snd.1, x.snd.snd.snd.snd.snd.snd.1, x.snd.snd.snd.snd.snd.snd.snd.1 ++ [v1.1],
              x.snd.snd.snd.snd.snd.snd.snd.2 ++ [(18 : Int)])
        else
          if Decidable.decide (x.snd.snd.fst > (0 : Int)) = Bool.true then
            Option.some
              (x.1, x.snd.1, Go.IntKind.wrap Go.IntKind.i64 (x.snd.snd.fst - (1 : Int)), x.snd.snd.snd.1, x.snd.snd.snd.snd.1, x.snd.snd.snd.snd.snd.1, x.snd.snd.snd.snd.snd.snd.1,
                x.snd.snd.snd.snd.snd.snd.snd.1 ++ [v1.1], x.snd.snd.snd.snd.snd.snd.snd.2 ++ [(18 : Int)])
          else
            Option.bind
              (Option.bind
                (Go.Sx.G.f47F
                  (x.1, x.snd.snd.snd.snd.snd.snd.1, x.snd.1, x.snd.snd.1, x.snd.snd.snd.1, x.snd.snd.snd.snd.1, x.snd.snd.snd.snd.snd.snd.snd.1 ++ [v1.1],
                    x.snd.snd.snd.snd.snd.snd.snd.2 ++ [(18 : Int)], x.snd.snd.snd.snd.snd.1))
                fun (v2 : Int × Int × Bool) =>
                if (!v2.snd.snd) = Bool.true then
                  Option.some
                    (Decidable.decide ((↑(List.length x.snd.snd.snd.snd.snd.snd.fst) : Int) ≥ (2 : Int)), x.1, x.snd.1, x.snd.snd.1, x.snd.snd.snd.1, x.snd.snd.snd.snd.1, x.snd.snd.snd.snd.snd.1,
                      x.snd.snd.snd.snd.snd.snd.1, x.snd.snd.snd.snd.snd.snd.snd.1 ++ [v1.1], x.snd.snd.snd.snd.snd.snd.snd.2 ++ [(18 : Int)])
                else
                  Option.some
                    (Bool.false, x.1, x.snd.1, x.snd.snd.1, x.snd.snd.snd.1, x.snd.snd.snd.snd.1, x.snd.snd.snd.snd.snd.1, x.snd.snd.snd.snd.snd.snd.1, x.snd.snd.snd.snd.snd.snd.snd.1 ++ [v1.1],
                      x.snd.snd.snd.snd.snd.snd.snd.2 ++ [(18 : Int)]))
              fun (v2 : Bool × Int × Int × Int × Int × Int × List Int × List (Int × Int × Bool) × List Int × List Int) =>
              if v2.fst = Bool.true then
                Option.bind
                  (Go.Sx.G.f59F
                    (v2.snd.1, v2.snd.snd.1, v2.snd.snd.snd.1, v2.snd.snd.snd.snd.1, v2.snd.snd.snd.snd.snd.1, v2.snd.snd.snd.snd.snd.snd.1, v2.snd.snd.snd.snd.snd.snd.snd.1,
                      v2.snd.snd.snd.snd.snd.snd.snd.snd.1, v2.snd.snd.snd.snd.snd.snd.snd.snd.2))
                  fun (v3 : Int × Int × Int × Int × Int × List Int × List (Int × Int × Bool) × List Int × List Int) =>
                  Option.some
                    (v3.1, v3.snd.1, v3.snd.snd.1, v3.snd.snd.snd.1, v3.snd.snd.snd.snd.1, v3.snd.snd.snd.snd.snd.1, v3.snd.snd.snd.snd.snd.snd.1, v3.snd.snd.snd.snd.snd.snd.snd.1,
                      v3.snd.snd.snd.snd.snd.snd.snd.2)
              else
                Option.some
                  (v2.snd.1, v2.snd.snd.1, v2.snd.snd.snd.1, v2.snd.snd.snd.snd.1, v2.snd.snd.snd.snd.snd.1, v2.snd.snd.snd.snd.snd.snd.1, v2.snd.snd.snd.snd.snd.snd.snd.1,
                    v2.snd.snd.snd.snd.snd.snd.snd.snd.1, v2.snd.snd.snd.snd.snd.snd.snd.snd.2)
      else Option.none
    else Option.none
theorem G.f46eq : ∀ x, runFn G.C G.f46Γ G.f46sig G.f46ann Go.Proofs.Tryd.f46 x = G.f46F x := by
  intro x
  kernel_rfl
noncomputable def G.f46con : Con := ⟨46, G.f46sig, G.f46F⟩
theorem G.f46ok : Con.Ok Go.Proofs.Tryd.prog G.C G.f46con :=
  runFn_ok (Γ := G.f46Γ) (an := G.f46ann) ⟨G.Cok, (List.forall_mem_cons.2 ⟨G.f47ok, (List.forall_mem_cons.2 ⟨G.f59ok, (fun _ h => nomatch h)⟩)⟩), G.mixed⟩ Go.Proofs.Tryd.func46 rfl rfl (fun x y h => (G.f46eq x).trans h) (by decide)
def G.f36sig : Sig := ⟨⟨[.hole (.sl (.int .i64)), .hole (.int .i64)], []⟩, ⟨[.ptr 0 0], [.cells [.hole (.int .i64), .own 1, .hole (.int .i64), .hole (.int .i64), .hole (.int .i64), .hole (.int .i64), .own 2, .own 3, .hole (.sl (.int .i64))], .arr 66 (.st (.pair (.int .i64) (.pair (.int .i64) .bool))), .arr 3 (.int .i64), .arr 3 (.int .i64)]⟩⟩
noncomputable def G.f36Γ : List Con := [G.f42con, G.f43con, G.f22con, G.f44con, G.f45con, G.f46con, G.f47con, G.f31con, G.f48con]
def G.f36ann : Ann :=
  (.seq .leaf (.seq .leaf (.seq (.join [⟨.normal, [], [.cells [.hole (.int .i64), .own 1, .hole (.int .i64), .hole (.int .i64), .hole (.int .i64), .hole (.int .i64), .own 2, .own 3, .hole (.sl (.int .i64))], .arr 66 (.st (.pair (.int .i64) (.pair (.int .i64) .bool))), .arr 3 (.int .i64), .arr 3 (.int .i64)]⟩] (.seq .leaf (.cond .leaf .leaf))) (.seq .leaf (.seq (.seq .leaf (.block (.loop ⟨.normal, [(6, .hole (.int .i64))], [.cells [.hole (.int .i64), .own 7, .hole (.int .i64), .hole (.int .i64), .hole (.int .i64), .hole (.int .i64), .own 8, .own 9, .hole (.sl (.int .i64))], .gone, .gone, .gone, .gone, .gone, .gone, .arr 66 (.st (.pair (.int .i64) (.pair (.int .i64) .bool))), .arr 3 (.int .i64), .arr 3 (.int .i64)]⟩ [⟨(.exit 0), [], [.cells [.hole (.int .i64), .own 7, .hole (.int .i64), .hole (.int .i64), .hole (.int .i64), .hole (.int .i64), .own 8, .own 9, .hole (.sl (.int .i64))], .gone, .gone, .gone, .gone, .gone, .gone, .arr 66 (.st (.pair (.int .i64) (.pair (.int .i64) .bool))), .arr 3 (.int .i64), .arr 3 (.int .i64)]⟩] (.seq (.seq .leaf (.cond .leaf .leaf)) (.seq (.block (.seq .leaf (.block (.seq (.join [⟨.normal, [(31, .hole .bool)], [.cells [.hole (.int .i64), .own 7, .hole (.int .i64), .hole (.int .i64), .hole (.int .i64), .hole (.int .i64), .own 8, .own 9, .hole (.sl (.int .i64))], .gone, .gone, .gone, .gone, .gone, .gone, .arr 66 (.st (.pair (.int .i64) (.pair (.int .i64) .bool))), .arr 3 (.int .i64), .arr 3 (.int .i64)]⟩] .leaf) (.cond .leaf (.seq .leaf (.cond .leaf (.seq .leaf (.cond .leaf (.seq .leaf (.cond .leaf (.seq .leaf (.cond (.eff 13 [16] [0, 0, 0, 4, 12, 28, 0, 64, 192, 448, 1020, 0, 2048, 6144, 14336, 0, 32768, 131068, 262141, 524285, 1048573, 2097151, 4194303, 8388607]) (.seq .leaf (.cond (.seq .leaf (.eff 16 [17] [0, 0, 0, 4, 12, 28, 0, 64, 192, 448, 960, 2044, 0, 4096, 12288, 28672, 0, 65536, 262140, 524285, 1048573, 2097149, 4194303, 8388607, 16777215])) (.seq .leaf (.cond .leaf .leaf))))))))))))))))) .leaf))))) (.seq .leaf .leaf))))))
/- ductus/ductusref06.went -/
noncomputable def G.f36F : List Int × Int → Option (Int × Int × Int × Int × Int × List Int × List (Int × Int × Bool) × List Int × List Int) :=
  fun (x : List Int × Int) =>
  Option.bind
    (if (x.snd != (0 : Int)) = Bool.true then Option.some ((1 : Int), (0 : Int), (0 : Int), (0 : Int), (0 : Int), x.1, [], [], [])
    else Option.some ((0 : Int), (0 : Int), (0 : Int), (0 : Int), (0 : Int), x.1, [], [], []))
    fun (v1 : Int × Int × Int × Int × Int × List Int × List (Int × Int × Bool) × List Int × List Int) =>
    Option.bind
      (Go.Sx.G.f42F
        (v1.1, v1.snd.1, v1.snd.snd.1, v1.snd.snd.snd.1, v1.snd.snd.snd.snd.1, v1.snd.snd.snd.snd.snd.1, v1.snd.snd.snd.snd.snd.snd.1, v1.snd.snd.snd.snd.snd.snd.snd.1,
          v1.snd.snd.snd.snd.snd.snd.snd.2))
      fun (v2 : Int × Int × Int × Int × Int × List Int × List (Int × Int × Bool) × List Int × List Int) =>
      Option.bind
        (Go.Sx.iter
          (fun (s3 : Int × Int × Int × Int × Int × Int × List Int × List (Int × Int × Bool) × List Int × List Int) =>
            if Decidable.decide (s3.fst < (↑(List.length x.fst) : Int)) = Bool.true then
              if (0 : Int) ≤ s3.fst ∧ s3.fst < (↑(List.length x.fst) : Int) then
                Option.bind
                  (if (List.getD x.fst (Int.toNat s3.fst) (0 : Int) == (16 : Int)) = Bool.true then
                    Option.some
                      (Bool.true, s3.snd.1, s3.snd.snd.1, s3.snd.snd.snd.1, s3.snd.snd.snd.snd.1, s3.snd.snd.snd.snd.snd.1, s3.snd.snd.snd.snd.snd.snd.1, s3.snd.snd.snd.snd.snd.snd.snd.1,
                        s3.snd.snd.snd.snd.snd.snd.snd.snd.1, s3.snd.snd.snd.snd.snd.snd.snd.snd.2)
                  else
                    if (List.getD x.fst (Int.toNat s3.fst) (0 : Int) == (14 : Int)) = Bool.true then
                      Option.some
                        (Bool.true, s3.snd.1, s3.snd.snd.1, s3.snd.snd.snd.1, s3.snd.snd.snd.snd.1, s3.snd.snd.snd.snd.snd.1, s3.snd.snd.snd.snd.snd.snd.1, s3.snd.snd.snd.snd.snd.snd.snd.1,
                          s3.snd.snd.snd.snd.snd.snd.snd.snd.1, s3.snd.snd.snd.snd.snd.snd.snd.snd.2)
                    else
                      if (List.getD x.fst (Int.toNat s3.fst) (0 : Int) == (17 : Int)) = Bool.true then
                        Option.some
                          (Bool.true, s3.snd.1, s3.snd.snd.1, s3.snd.snd.snd.1, s3.snd.snd.snd.snd.1, s3.snd.snd.snd.snd.snd.1, s3.snd.snd.snd.snd.snd.snd.1, s3.snd.snd.snd.snd.snd.snd.snd.1,
                            s3.snd.snd.snd.snd.snd.snd.snd.snd.1, s3.snd.snd.snd.snd.snd.snd.snd.snd.2)
                      else
                        Option.some
                          (List.getD x.fst (Int.toNat s3.fst) (0 : Int) == (15 : Int), s3.snd.1, s3.snd.snd.1, s3.snd.snd.snd.1, s3.snd.snd.snd.snd.1, s3.snd.snd.snd.snd.snd.1,
                            s3.snd.snd.snd.snd.snd.snd.1, s3.snd.snd.snd.snd.snd.snd.snd.1, s3.snd.snd.snd.snd.snd.snd.snd.snd.1, s3.snd.snd.snd.snd.snd.snd.snd.snd.2))
                  fun (v4 : Bool × Int × Int × Int × Int × Int × List Int × List (Int × Int × Bool) × List Int × List Int) =>
                  if v4.fst = Bool.true then
                    Option.bind
                      (Go.Sx.G.f43F
                        (List.getD x.fst (Int.toNat s3.fst) (0 : Int), v4.snd.1, v4.snd.snd.1, v4.snd.snd.snd.1, v4.snd.snd.snd.snd.1, v4.snd.snd.snd.snd.snd.1, v4.snd.snd.snd.snd.snd.snd.1,
                          v4.snd.snd.snd.snd.snd.snd.snd.1, v4.snd.snd.snd.snd.snd.snd.snd.snd.1, v4.snd.snd.snd.snd.snd.snd.snd.snd.2))
                      fun (v5 : Int × Int × Int × Int × Int × List Int × List (Int × Int × Bool) × List Int × List Int) =>
                      Option.some
                        (Sum.inl
                          (Go.IntKind.wrap Go.IntKind.i64 (s3.fst + (1 : Int)), v5.1, v5.snd.1, v5.snd.snd.1, v5.snd.snd.snd.1, v5.snd.snd.snd.snd.1, v5.snd.snd.snd.snd.snd.1,
                            v5.snd.snd.snd.snd.snd.snd.1, v5.snd.snd.snd.snd.snd.snd.snd.1, v5.snd.snd.snd.snd.snd.snd.snd.2))
                  else
                    Option.bind (Go.Sx.G.f22F (List.getD x.fst (Int.toNat s3.fst) (0 : Int))) fun (v5 : Bool) =>
                      if v5 = Bool.true then
                        Option.bind
                          (Go.Sx.G.f44F
                            (s3.1, List.getD x.fst (Int.toNat s3.fst) (0 : Int), v4.snd.1, v4.snd.snd.1, v4.snd.snd.snd.1, v4.snd.snd.snd.snd.1, v4.snd.snd.snd.snd.snd.1, v4.snd.snd.snd.snd.snd.snd.1,
                              v4.snd.snd.snd.snd.snd.snd.snd.1, v4.snd.snd.snd.snd.snd.snd.snd.snd.1, v4.snd.snd.snd.snd.snd.snd.snd.snd.2))
                          fun (v6 : Int × Int × Int × Int × Int × List Int × List (Int × Int × Bool) × List Int × List Int) =>
                          Option.some
                            (Sum.inl
                              (Go.IntKind.wrap Go.IntKind.i64 (s3.fst + (1 : Int)), v6.1, v6.snd.1, v6.snd.snd.1, v6.snd.snd.snd.1, v6.snd.snd.snd.snd.1, v6.snd.snd.snd.snd.snd.1,
                                v6.snd.snd.snd.snd.snd.snd.1, v6.snd.snd.snd.snd.snd.snd.snd.1, v6.snd.snd.snd.snd.snd.snd.snd.2))
                      else
                        if (List.getD x.fst (Int.toNat s3.fst) (0 : Int) == (22 : Int)) = Bool.true then
                          Option.bind
                            (Go.Sx.G.f45F
                              (List.getD x.fst (Int.toNat s3.fst) (0 : Int), v4.snd.1, v4.snd.snd.1, v4.snd.snd.snd.1, v4.snd.snd.snd.snd.1, v4.snd.snd.snd.snd.snd.1, v4.snd.snd.snd.snd.snd.snd.1,
                                v4.snd.snd.snd.snd.snd.snd.snd.1, v4.snd.snd.snd.snd.snd.snd.snd.snd.1, v4.snd.snd.snd.snd.snd.snd.snd.snd.2))
                            fun (v6 : Int × Int × Int × Int × Int × List Int × List (Int × Int × Bool) × List Int × List Int) =>
                            Option.some
                              (Sum.inl
                                (Go.IntKind.wrap Go.IntKind.i64 (s3.fst + (1 : Int)), v6.1, v6.snd.1, v6.snd.snd.1, v6.snd.snd.snd.1, v6.snd.snd.snd.snd.1, v6.snd.snd.snd.snd.snd.1,
                                  v6.snd.snd.snd.snd.snd.snd.1, v6.snd.snd.snd.snd.snd.snd.snd.1, v6.snd.snd.snd.snd.snd.snd.snd.2))
                        else
                          if (List.getD x.fst (Int.toNat s3.fst) (0 : Int) == (18 : Int)) = Bool.true then
                            Option.bind
                              (Go.Sx.G.f46F
                                (v4.snd.1, v4.snd.snd.1, v4.snd.snd.snd.1, v4.snd.snd.snd.snd.1, v4.snd.snd.snd.snd.snd.1, v4.snd.snd.snd.snd.snd.snd.1, v4.snd.snd.snd.snd.snd.snd.snd.1,
                                  v4.snd.snd.snd.snd.snd.snd.snd.snd.1, v4.snd.snd.snd.snd.snd.snd.snd.snd.2))
                              fun (v6 : Int × Int × Int × Int × Int × List Int × List (Int × Int × Bool) × List Int × List Int) =>
                              Option.some
                                (Sum.inl
                                  (Go.IntKind.wrap Go.IntKind.i64 (s3.fst + (1 : Int)), v6.1, v6.snd.1, v6.snd.snd.1, v6.snd.snd.snd.1, v6.snd.snd.snd.snd.1, v6.snd.snd.snd.snd.snd.1,
                                    v6.snd.snd.snd.snd.snd.snd.1, v6.snd.snd.snd.snd.snd.snd.snd.1, v6.snd.snd.snd.snd.snd.snd.snd.2))
                          else
                            if (List.getD x.fst (Int.toNat s3.fst) (0 : Int) == (9 : Int)) = Bool.true then
                              Option.bind
                                (Go.Sx.G.f47F
                                  (v4.snd.1, v4.snd.snd.snd.snd.snd.snd.snd.1, v4.snd.snd.1, v4.snd.snd.snd.1, v4.snd.snd.snd.snd.1, v4.snd.snd.snd.snd.snd.1, v4.snd.snd.snd.snd.snd.snd.snd.snd.1,
                                    v4.snd.snd.snd.snd.snd.snd.snd.snd.2, v4.snd.snd.snd.snd.snd.snd.1))
                                fun (v6 : Int × Int × Bool) =>
                                if
                                    Go.Sx.roomOk (List.length v4.snd.snd.snd.snd.snd.snd.snd.snd.fst + List.length [v6.1])
                                      { kind := Go.Sx.TK.int Go.IntKind.i64, size := (1 : Nat), bytes := (8 : Nat), ty := Option.some (Go.Sx.Ty.int Go.IntKind.i64),
                                          zero := [Go.Sx.SV.val (Go.Sx.Ty.int Go.IntKind.i64) (0 : Int)] : Go.Sx.TI }.bytes then
                                  if
                                      Go.Sx.roomOk (List.length v4.snd.snd.snd.snd.snd.snd.snd.snd.snd + List.length [List.getD x.fst (Int.toNat s3.fst) (0 : Int)])
                                        { kind := Go.Sx.TK.int Go.IntKind.i64, size := (1 : Nat), bytes := (8 : Nat), ty := Option.some (Go.Sx.Ty.int Go.IntKind.i64),
                                            zero := [Go.Sx.SV.val (Go.Sx.Ty.int Go.IntKind.i64) (0 : Int)] : Go.Sx.TI }.bytes then
                                    Option.some
                                      (Sum.inl
                                        (Go.IntKind.wrap Go.IntKind.i64 (s3.fst + (1 : Int)), v4.snd.1, v4.snd.snd.1, v4.snd.snd.snd.1, v4.snd.snd.snd.snd.1, v4.snd.snd.snd.snd.snd.1,
                                          v4.snd.snd.snd.snd.snd.snd.1, v4.snd.snd.snd.snd.snd.snd.snd.1, v4.snd.snd.snd.snd.snd.snd.snd.snd.1 ++ [v6.1],
                                          v4.snd.snd.snd.snd.snd.snd.snd.snd.2 ++ [List.getD x.fst (Int.toNat s3.fst) (0 : Int)]))
                                  else Option.none
                                else Option.none
                            else
                              if (List.getD x.fst (Int.toNat s3.fst) (0 : Int) == (10 : Int)) = Bool.true then
                                Option.bind
                                  (Go.Sx.G.f42F
                                    (v4.snd.1, v4.snd.snd.1, v4.snd.snd.snd.1, v4.snd.snd.snd.snd.1, v4.snd.snd.snd.snd.snd.1, v4.snd.snd.snd.snd.snd.snd.1, v4.snd.snd.snd.snd.snd.snd.snd.1,
                                      v4.snd.snd.snd.snd.snd.snd.snd.snd.1, v4.snd.snd.snd.snd.snd.snd.snd.snd.2))
                                  fun (v6 : Int × Int × Int × Int × Int × List Int × List (Int × Int × Bool) × List Int × List Int) =>
                                  if
                                      Go.Sx.roomOk (List.length v6.snd.snd.snd.snd.snd.snd.snd.fst + List.length [v6.1])
                                        { kind := Go.Sx.TK.int Go.IntKind.i64, size := (1 : Nat), bytes := (8 : Nat), ty := Option.some (Go.Sx.Ty.int Go.IntKind.i64),
                                            zero := [Go.Sx.SV.val (Go.Sx.Ty.int Go.IntKind.i64) (0 : Int)] : Go.Sx.TI }.bytes then
                                    if
                                        Go.Sx.roomOk (List.length v6.snd.snd.snd.snd.snd.snd.snd.snd + List.length [List.getD x.fst (Int.toNat s3.fst) (0 : Int)])
                                          { kind := Go.Sx.TK.int Go.IntKind.i64, size := (1 : Nat), bytes := (8 : Nat), ty := Option.some (Go.Sx.Ty.int Go.IntKind.i64),
                                              zero := [Go.Sx.SV.val (Go.Sx.Ty.int Go.IntKind.i64) (0 : Int)] : Go.Sx.TI }.bytes then
                                      Option.some
                                        (Sum.inl
                                          (Go.IntKind.wrap Go.IntKind.i64 (s3.fst + (1 : Int)), v6.1, v6.snd.1, v6.snd.snd.1, v6.snd.snd.snd.1, v6.snd.snd.snd.snd.1, v6.snd.snd.snd.snd.snd.1,
                                            v6.snd.snd.snd.snd.snd.snd.1, v6.snd.snd.snd.snd.snd.snd.snd.1 ++ [v6.1],
                                            v6.snd.snd.snd.snd.snd.snd.snd.2 ++ [List.getD x.fst (Int.toNat s3.fst) (0 : Int)]))
                                    else Option.none
                                  else Option.none
                              else
                                Option.bind (Go.Sx.G.f31F (List.getD x.fst (Int.toNat s3.fst) (0 : Int))) fun (v6 : ByteArray) =>
                                  if (ByteArray.toList v6 == ByteArray.toList { data := #[] : ByteArray }) = Bool.true then
                                    Option.bind
                                      (Go.Sx.G.f48F
                                        ((0 : Int), v4.snd.1, v4.snd.snd.1, v4.snd.snd.snd.1, v4.snd.snd.snd.snd.1, v4.snd.snd.snd.snd.snd.1, v4.snd.snd.snd.snd.snd.snd.1,
                                          v4.snd.snd.snd.snd.snd.snd.snd.1, v4.snd.snd.snd.snd.snd.snd.snd.snd.1, v4.snd.snd.snd.snd.snd.snd.snd.snd.2))
                                      fun (v7 : Int × Int × Int × Int × Int × List Int × List (Int × Int × Bool) × List Int × List Int) =>
                                      Option.some
                                        (Sum.inl
                                          (Go.IntKind.wrap Go.IntKind.i64 (s3.fst + (1 : Int)), v7.1, v7.snd.1, v7.snd.snd.1, v7.snd.snd.snd.1, v7.snd.snd.snd.snd.1, v7.snd.snd.snd.snd.snd.1,
                                            v7.snd.snd.snd.snd.snd.snd.1, v7.snd.snd.snd.snd.snd.snd.snd.1, v7.snd.snd.snd.snd.snd.snd.snd.2))
                                  else
                                    Option.bind
                                      (Go.Sx.G.f48F
                                        (List.getD x.fst (Int.toNat s3.fst) (0 : Int), v4.snd.1, v4.snd.snd.1, v4.snd.snd.snd.1, v4.snd.snd.snd.snd.1, v4.snd.snd.snd.snd.snd.1,
                                          v4.snd.snd.snd.snd.snd.snd.1, v4.snd.snd.snd.snd.snd.snd.snd.1, v4.snd.snd.snd.snd.snd.snd.snd.snd.1, v4.snd.snd.snd.snd.snd.snd.snd.snd.2))
                                      fun (v7 : Int × Int × Int × Int × Int × List Int × List (Int × Int × Bool) × List Int × List Int) =>
                                      Option.some
                                        (Sum.inl
                                          (Go.IntKind.wrap Go.IntKind.i64 (s3.fst + (1 : Int)), v7.1, v7.snd.1, v7.snd.snd.1, v7.snd.snd.snd.1, v7.snd.snd.snd.snd.1, v7.snd.snd.snd.snd.snd.1,
                                            v7.snd.snd.snd.snd.snd.snd.1, v7.snd.snd.snd.snd.snd.snd.snd.1, v7.snd.snd.snd.snd.snd.snd.snd.2))
              else Option.none
            else
              Option.some
                (Sum.inr
                  (s3.snd.1, s3.snd.snd.1, s3.snd.snd.snd.1, s3.snd.snd.snd.snd.1, s3.snd.snd.snd.snd.snd.1, s3.snd.snd.snd.snd.snd.snd.1, s3.snd.snd.snd.snd.snd.snd.snd.1,
                    s3.snd.snd.snd.snd.snd.snd.snd.snd.1, s3.snd.snd.snd.snd.snd.snd.snd.snd.2)))
          ((0 : Int), v2.1, v2.snd.1, v2.snd.snd.1, v2.snd.snd.snd.1, v2.snd.snd.snd.snd.1, v2.snd.snd.snd.snd.snd.1, v2.snd.snd.snd.snd.snd.snd.1, v2.snd.snd.snd.snd.snd.snd.snd.1,
            v2.snd.snd.snd.snd.snd.snd.snd.2))
        fun (v3 : Int × Int × Int × Int × Int × List Int × List (Int × Int × Bool) × List Int × List Int) =>
        Option.some
          (v3.1, v3.snd.1, v3.snd.snd.1, v3.snd.snd.snd.1, v3.snd.snd.snd.snd.1, v3.snd.snd.snd.snd.snd.1, v3.snd.snd.snd.snd.snd.snd.1, v3.snd.snd.snd.snd.snd.snd.snd.1,
            v3.snd.snd.snd.snd.snd.snd.snd.2)
theorem G.f36eq : ∀ x, runFn G.C G.f36Γ G.f36sig G.f36ann Go.Proofs.Tryd.f36 x = G.f36F x := by
  intro x
  kernel_rfl
noncomputable def G.f36con : Con := ⟨36, G.f36sig, G.f36F⟩
theorem G.f36ok : Con.Ok Go.Proofs.Tryd.prog G.C G.f36con :=
  runFn_ok (Γ := G.f36Γ) (an := G.f36ann) ⟨G.Cok, (List.forall_mem_cons.2 ⟨G.f42ok, (List.forall_mem_cons.2 ⟨G.f43ok, (List.forall_mem_cons.2 ⟨G.f22ok, (List.forall_mem_cons.2 ⟨G.f44ok, (List.forall_mem_cons.2 ⟨G.f45ok, (List.forall_mem_cons.2 ⟨G.f46ok, (List.forall_mem_cons.2 ⟨G.f47ok, (List.forall_mem_cons.2 ⟨G.f31ok, (List.forall_mem_cons.2 ⟨G.f48ok, (fun _ h => nomatch h)⟩)⟩)⟩)⟩)⟩)⟩)⟩)⟩)⟩), G.mixed⟩ Go.Proofs.Tryd.func36 rfl rfl (fun x y h => (G.f36eq x).trans h) (by decide)
def G.f25sig : Sig := ⟨⟨[.hole (.sl (.int .i64)), .hole (.int .i64)], []⟩, ⟨[.hole (.sl (.int .i64)), .hole (.sl (.int .i64))], []⟩⟩
noncomputable def G.f25Γ : List Con := [G.f36con]
def G.f25ann : Ann :=
  (.seq .leaf (.seq .leaf (.seq .leaf .leaf)))
/- ductus/ductusref06.Of -/
noncomputable def G.f25F : List Int × Int → Option (List Int × List Int) :=
  fun (x : List Int × Int) =>
  Option.bind (Go.Sx.G.f36F (x.1, x.2)) fun (v1 : Int × Int × Int × Int × Int × List Int × List (Int × Int × Bool) × List Int × List Int) =>
    Option.some (v1.snd.snd.snd.snd.snd.snd.snd.1, v1.snd.snd.snd.snd.snd.snd.snd.2)
theorem G.f25eq : ∀ x, runFn G.C G.f25Γ G.f25sig G.f25ann Go.Proofs.Tryd.f25 x = G.f25F x := by
  intro x
  kernel_rfl
noncomputable def G.f25con : Con := ⟨25, G.f25sig, G.f25F⟩
theorem G.f25ok : Con.Ok Go.Proofs.Tryd.prog G.C G.f25con :=
  runFn_ok (Γ := G.f25Γ) (an := G.f25ann) ⟨G.Cok, (List.forall_mem_cons.2 ⟨G.f36ok, (fun _ h => nomatch h)⟩), G.mixed⟩ Go.Proofs.Tryd.func25 rfl rfl (fun x y h => (G.f25eq x).trans h) (by decide)
def G.f27sig : Sig := ⟨⟨[.hole (.sl (.int .i64)), .hole (.int .i64)], []⟩, ⟨[.hole (.int .i64)], []⟩⟩
noncomputable def G.f27Γ : List Con := [G.f36con]
def G.f27ann : Ann :=
  (.seq .leaf (.seq .leaf .leaf))
/- ductus/ductusref06.Depth -/
noncomputable def G.f27F : List Int × Int → Option (Int) :=
  fun (x : List Int × Int) => Option.bind (Go.Sx.G.f36F (x.1, x.2)) fun (v1 : Int × Int × Int × Int × Int × List Int × List (Int × Int × Bool) × List Int × List Int) => Option.some v1.snd.snd.snd.snd.1
theorem G.f27eq : ∀ x, runFn G.C G.f27Γ G.f27sig G.f27ann Go.Proofs.Tryd.f27 x = G.f27F x := by
  intro x
  kernel_rfl
noncomputable def G.f27con : Con := ⟨27, G.f27sig, G.f27F⟩
theorem G.f27ok : Con.Ok Go.Proofs.Tryd.prog G.C G.f27con :=
  runFn_ok (Γ := G.f27Γ) (an := G.f27ann) ⟨G.Cok, (List.forall_mem_cons.2 ⟨G.f36ok, (fun _ h => nomatch h)⟩), G.mixed⟩ Go.Proofs.Tryd.func27 rfl rfl (fun x y h => (G.f27eq x).trans h) (by decide)
def G.f7sig : Sig := ⟨⟨[.hole (.sl (.int .i64)), .hole (.arr 2 (.int .i64))], []⟩, ⟨[.hole .bool], []⟩⟩
noncomputable def G.f7Γ : List Con := [G.f23con, G.f24con, G.f25con, G.f13con, G.f26con, G.f27con, G.f28con, G.f29con]
def G.f7ann : Ann :=
  (.seq .leaf (.seq (.seq .leaf (.cond (.seq .leaf .leaf) .leaf)) (.seq (.seq .leaf (.cond (.seq .leaf .leaf) .leaf)) (.seq .leaf (.seq .leaf (.seq .leaf .leaf))))))
/- ductus/ductuslaw06.ExplicitAnswers -/
noncomputable def G.f7F : List Int × List Int → Option (Bool) :=
  fun (x : List Int × List Int) =>
  Option.bind (Go.Sx.G.f23F ()) fun (v1 : Bool) =>
    if (!v1) = Bool.true then Option.some Bool.false
    else
      if Decidable.decide ((↑(List.length x.fst) : Int) > (500 : Int)) = Bool.true then Option.some Bool.true
      else
        if (0 : Int) ≤ (0 : Int) ∧ (0 : Int) < (↑(2 : Nat) : Int) then
          Option.bind (Go.Sx.G.f24F (x.1, List.getD x.snd (nat_lit 0) (0 : Int))) fun (v2 : List Int × List Int) =>
            if (0 : Int) ≤ (0 : Int) ∧ (0 : Int) < (↑(2 : Nat) : Int) then
              Option.bind (Go.Sx.G.f25F (x.1, List.getD x.snd (nat_lit 0) (0 : Int))) fun (v3 : List Int × List Int) =>
                Option.bind (Go.Sx.G.f13F (v2.1, v3.1)) fun (v4 : Bool) =>
                  if v4 = Bool.true then
                    Option.bind (Go.Sx.G.f13F (v2.2, v3.2)) fun (v5 : Bool) =>
                      if v5 = Bool.true then
                        if (0 : Int) ≤ (0 : Int) ∧ (0 : Int) < (↑(2 : Nat) : Int) then
                          Option.bind (Go.Sx.G.f26F (x.1, List.getD x.snd (nat_lit 0) (0 : Int))) fun (v6 : Int) =>
                            if (0 : Int) ≤ (0 : Int) ∧ (0 : Int) < (↑(2 : Nat) : Int) then
                              Option.bind (Go.Sx.G.f27F (x.1, List.getD x.snd (nat_lit 0) (0 : Int))) fun (v7 : Int) =>
                                if (v6 == v7) = Bool.true then
                                  if (0 : Int) ≤ (1 : Int) ∧ (1 : Int) < (↑(2 : Nat) : Int) then
                                    if (0 : Int) ≤ (0 : Int) ∧ (0 : Int) < (↑(2 : Nat) : Int) then
                                      Option.bind (Go.Sx.G.f28F (List.getD x.snd (nat_lit 1) (0 : Int), List.getD x.snd (nat_lit 0) (0 : Int))) fun (v8 : Int) =>
                                        if (0 : Int) ≤ (1 : Int) ∧ (1 : Int) < (↑(2 : Nat) : Int) then
                                          if (0 : Int) ≤ (0 : Int) ∧ (0 : Int) < (↑(2 : Nat) : Int) then
                                            Option.bind (Go.Sx.G.f29F (List.getD x.snd (nat_lit 1) (0 : Int), List.getD x.snd (nat_lit 0) (0 : Int))) fun (v9 : Int) => Option.some (v8 == v9)
                                          else Option.none
                                        else Option.none
                                    else Option.none
                                  else Option.none
                                else Option.some Bool.false
                            else Option.none
                        else Option.none
                      else Option.some Bool.false
                  else Option.some Bool.false
            else Option.none
        else Option.none
theorem G.f7eq : ∀ x, runFn G.C G.f7Γ G.f7sig G.f7ann Go.Proofs.Tryd.f7 x = G.f7F x := by
  intro x
  kernel_rfl
noncomputable def G.f7con : Con := ⟨7, G.f7sig, G.f7F⟩
theorem G.f7ok : Con.Ok Go.Proofs.Tryd.prog G.C G.f7con :=
  runFn_ok (Γ := G.f7Γ) (an := G.f7ann) ⟨G.Cok, (List.forall_mem_cons.2 ⟨G.f23ok, (List.forall_mem_cons.2 ⟨G.f24ok, (List.forall_mem_cons.2 ⟨G.f25ok, (List.forall_mem_cons.2 ⟨G.f13ok, (List.forall_mem_cons.2 ⟨G.f26ok, (List.forall_mem_cons.2 ⟨G.f27ok, (List.forall_mem_cons.2 ⟨G.f28ok, (List.forall_mem_cons.2 ⟨G.f29ok, (fun _ h => nomatch h)⟩)⟩)⟩)⟩)⟩)⟩)⟩)⟩), G.mixed⟩ Go.Proofs.Tryd.func7 rfl rfl (fun x y h => (G.f7eq x).trans h) (by decide)
def G.f30sig : Sig := ⟨⟨[.hole (.int .i64)], []⟩, ⟨[.hole .bool], []⟩⟩
noncomputable def G.f30Γ : List Con := []
def G.f30ann : Ann :=
  (.seq .leaf (.seq .leaf .leaf))
/- ductus/ductusref02.Out -/
noncomputable def G.f30F : Int → Option (Bool) :=
  fun (x : Int) =>
  if (x == (9 : Int)) = Bool.true then Option.some Bool.true
  else
    if (x == (14 : Int)) = Bool.true then Option.some Bool.true
    else
      if (x == (15 : Int)) = Bool.true then Option.some Bool.true
      else if (x == (16 : Int)) = Bool.true then Option.some Bool.true else if (x == (17 : Int)) = Bool.true then Option.some Bool.true else Option.some (x == (18 : Int))
theorem G.f30eq : ∀ x, runFn G.C G.f30Γ G.f30sig G.f30ann Go.Proofs.Tryd.f30 x = G.f30F x := by
  intro x
  kernel_rfl
noncomputable def G.f30con : Con := ⟨30, G.f30sig, G.f30F⟩
theorem G.f30ok : Con.Ok Go.Proofs.Tryd.prog G.C G.f30con :=
  runFn_ok (Γ := G.f30Γ) (an := G.f30ann) ⟨G.Cok, (fun _ h => nomatch h), G.mixed⟩ Go.Proofs.Tryd.func30 rfl rfl (fun x y h => (G.f30eq x).trans h) (by decide)
def G.f8sig : Sig := ⟨⟨[.hole (.sl (.int .i64)), .hole .bool], []⟩, ⟨[.hole .bool], []⟩⟩
noncomputable def G.f8Γ : List Con := [G.f23con, G.f24con, G.f26con, G.f30con, G.f22con, G.f31con]
def G.f8ann : Ann :=
  (.seq .leaf (.seq (.seq .leaf (.cond (.seq .leaf .leaf) .leaf)) (.seq (.seq .leaf (.cond (.seq .leaf .leaf) .leaf)) (.seq .leaf (.seq (.join [⟨.normal, [(5, .hole (.int .i64))], []⟩] (.seq .leaf (.cond .leaf .leaf))) (.seq .leaf (.seq (.seq (.join [⟨.normal, [(46, .hole .bool)], []⟩] .leaf) (.cond (.seq .leaf .leaf) .leaf)) (.seq .leaf (.seq (.seq .leaf (.block (.loop ⟨.normal, [(8, .hole .bool), (9, .hole (.int .i64))], []⟩ [⟨(.exit 0), [(8, .hole .bool)], []⟩, ⟨.ret, [(4, .hole .bool)], []⟩] (.seq (.seq .leaf (.cond .leaf .leaf)) (.seq (.block (.seq (.seq (.join [⟨.normal, [(93, .hole .bool)], []⟩] .leaf) (.cond (.seq .leaf .leaf) .leaf)) .leaf)) .leaf))))) (.seq (.seq .leaf (.block (.loop ⟨.normal, [(10, .hole (.int .i64))], []⟩ [⟨(.exit 2), [], []⟩, ⟨.ret, [(4, .hole .bool)], []⟩] (.seq (.seq (.join [⟨.normal, [(124, .hole .bool)], []⟩] .leaf) (.cond .leaf .leaf)) (.seq (.block (.seq (.join [⟨.normal, [(151, .hole .bool)], []⟩] .leaf) (.cond (.seq .leaf .leaf) .leaf))) .leaf))))) (.seq .leaf .leaf)))))))))))
/- ductus/ductuslaw06.ExplicitBounds -/
noncomputable def G.f8F : List Int × Bool → Option (Bool) :=
  fun (x : List Int × Bool) =>
  Option.bind (Go.Sx.G.f23F ()) fun (v1 : Bool) =>
    if (!v1) = Bool.true then Option.some Bool.false
    else
      if Decidable.decide ((↑(List.length x.fst) : Int) > (500 : Int)) = Bool.true then Option.some Bool.true
      else
        Option.bind (if x.snd = Bool.true then Option.some (1 : Int) else Option.some (0 : Int)) fun (v2 : Int) =>
          Option.bind (Go.Sx.G.f24F (x.1, v2)) fun (v3 : List Int × List Int) =>
            Option.bind
              (if ((↑(List.length v3.fst) : Int) != (↑(List.length x.fst) : Int)) = Bool.true then Option.some Bool.true
              else
                if ((↑(List.length v3.snd) : Int) != (↑(List.length x.fst) : Int)) = Bool.true then Option.some Bool.true
                else
                  Option.bind (Go.Sx.G.f26F (x.1, v2)) fun (v4 : Int) =>
                    if Decidable.decide (v4 > (127 : Int)) = Bool.true then Option.some Bool.true
                    else Option.bind (Go.Sx.G.f26F (x.1, v2)) fun (v5 : Int) => Option.some (Decidable.decide (v5 < (1 : Int))))
              fun (v4 : Bool) =>
              if v4 = Bool.true then Option.some Bool.false
              else
                Option.bind
                  (Go.Sx.iter
                    (fun (s5 : Bool × Int) =>
                      if Decidable.decide (s5.snd < (↑(List.length x.fst) : Int)) = Bool.true then
                        Option.bind
                          (if (0 : Int) ≤ s5.snd ∧ s5.snd < (↑(List.length v3.fst) : Int) then
                            if Decidable.decide (List.getD v3.fst (Int.toNat s5.snd) (0 : Int) < v2) = Bool.true then Option.some Bool.true
                            else
                              if (0 : Int) ≤ s5.snd ∧ s5.snd < (↑(List.length v3.fst) : Int) then
                                if Decidable.decide (List.getD v3.fst (Int.toNat s5.snd) (0 : Int) > (125 : Int)) = Bool.true then Option.some Bool.true
                                else
                                  if (0 : Int) ≤ s5.snd ∧ s5.snd < (↑(List.length x.fst) : Int) then
                                    Option.bind (Go.Sx.G.f30F (List.getD x.fst (Int.toNat s5.snd) (0 : Int))) fun (v6 : Bool) =>
                                      if (0 : Int) ≤ s5.snd ∧ s5.snd < (↑(List.length v3.snd) : Int) then
                                        Option.bind (Go.Sx.G.f30F (List.getD v3.snd (Int.toNat s5.snd) (0 : Int))) fun (v7 : Bool) =>
                                          if (!v6 == v7) = Bool.true then Option.some Bool.true
                                          else
                                            if (0 : Int) ≤ s5.snd ∧ s5.snd < (↑(List.length x.fst) : Int) then
                                              if (List.getD x.fst (Int.toNat s5.snd) (0 : Int) == (10 : Int)) = Bool.true then
                                                if (0 : Int) ≤ s5.snd ∧ s5.snd < (↑(List.length v3.fst) : Int) then Option.some (List.getD v3.fst (Int.toNat s5.snd) (0 : Int) != v2) else Option.none
                                              else Option.some Bool.false
                                            else Option.none
                                      else Option.none
                                  else Option.none
                              else Option.none
                          else Option.none)
                          fun (v6 : Bool) =>
                          if v6 = Bool.true then Option.some (Sum.inr (Sum.inr Bool.false))
                          else
                            if s5.fst = Bool.true then
                              if (0 : Int) ≤ s5.snd ∧ s5.snd < (↑(List.length x.fst) : Int) then
                                Option.bind (Go.Sx.G.f30F (List.getD x.fst (Int.toNat s5.snd) (0 : Int))) fun (v7 : Bool) =>
                                  if (!v7) = Bool.true then
                                    if (0 : Int) ≤ s5.snd ∧ s5.snd < (↑(List.length x.fst) : Int) then
                                      Option.bind (Go.Sx.G.f22F (List.getD x.fst (Int.toNat s5.snd) (0 : Int))) fun (v8 : Bool) =>
                                        if (!v8) = Bool.true then
                                          if (0 : Int) ≤ s5.snd ∧ s5.snd < (↑(List.length x.fst) : Int) then
                                            Option.some (Sum.inl (List.getD x.fst (Int.toNat s5.snd) (0 : Int) != (22 : Int), Go.IntKind.wrap Go.IntKind.i64 (s5.snd + (1 : Int))))
                                          else Option.none
                                        else Option.some (Sum.inl (Bool.false, Go.IntKind.wrap Go.IntKind.i64 (s5.snd + (1 : Int))))
                                    else Option.none
                                  else Option.some (Sum.inl (Bool.false, Go.IntKind.wrap Go.IntKind.i64 (s5.snd + (1 : Int))))
                              else Option.none
                            else Option.some (Sum.inl (Bool.false, Go.IntKind.wrap Go.IntKind.i64 (s5.snd + (1 : Int))))
                      else Option.some (Sum.inr (Sum.inl s5.1)))
                    (Bool.true, (0 : Int)))
                  fun (v5 : Bool ⊕ Bool) =>
                  Sum.elim
                    (fun (p6 : Bool) =>
                      Option.bind
                        (Go.Sx.iter
                          (fun (s7 : Int) =>
                            Option.bind (if Decidable.decide (s7 < (↑(List.length x.fst) : Int)) = Bool.true then Option.some p6 else Option.some Bool.false) fun (v8 : Bool) =>
                              if v8 = Bool.true then
                                Option.bind
                                  (if (0 : Int) ≤ s7 ∧ s7 < (↑(List.length v3.fst) : Int) then
                                    if (List.getD v3.fst (Int.toNat s7) (0 : Int) != v2) = Bool.true then Option.some Bool.true
                                    else
                                      if (0 : Int) ≤ s7 ∧ s7 < (↑(List.length v3.snd) : Int) then
                                        if (0 : Int) ≤ s7 ∧ s7 < (↑(List.length x.fst) : Int) then
                                          if (List.getD v3.snd (Int.toNat s7) (0 : Int) != List.getD x.fst (Int.toNat s7) (0 : Int)) = Bool.true then
                                            if (0 : Int) ≤ s7 ∧ s7 < (↑(List.length x.fst) : Int) then
                                              Option.bind (Go.Sx.G.f31F (List.getD x.fst (Int.toNat s7) (0 : Int))) fun (v9 : ByteArray) =>
                                                Option.some !ByteArray.toList v9 == ByteArray.toList { data := #[] : ByteArray }
                                            else Option.none
                                          else Option.some Bool.false
                                        else Option.none
                                      else Option.none
                                  else Option.none)
                                  fun (v9 : Bool) => if v9 = Bool.true then Option.some (Sum.inr (Sum.inr Bool.false)) else Option.some (Sum.inl (Go.IntKind.wrap Go.IntKind.i64 (s7 + (1 : Int))))
                              else Option.some (Sum.inr (Sum.inl ())))
                          (0 : Int))
                        fun (v7 : PUnit ⊕ Bool) => Sum.elim (fun (p8 : PUnit) => Option.some Bool.true) (fun (q8 : Bool) => Option.some q8) v7)
                    (fun (q6 : Bool) => Option.some q6) v5
theorem G.f8eq : ∀ x, runFn G.C G.f8Γ G.f8sig G.f8ann Go.Proofs.Tryd.f8 x = G.f8F x := by
  intro x
  kernel_rfl
noncomputable def G.f8con : Con := ⟨8, G.f8sig, G.f8F⟩
theorem G.f8ok : Con.Ok Go.Proofs.Tryd.prog G.C G.f8con :=
  runFn_ok (Γ := G.f8Γ) (an := G.f8ann) ⟨G.Cok, (List.forall_mem_cons.2 ⟨G.f23ok, (List.forall_mem_cons.2 ⟨G.f24ok, (List.forall_mem_cons.2 ⟨G.f26ok, (List.forall_mem_cons.2 ⟨G.f30ok, (List.forall_mem_cons.2 ⟨G.f22ok, (List.forall_mem_cons.2 ⟨G.f31ok, (fun _ h => nomatch h)⟩)⟩)⟩)⟩)⟩)⟩), G.mixed⟩ Go.Proofs.Tryd.func8 rfl rfl (fun x y h => (G.f8eq x).trans h) (by decide)
def G.f9sig : Sig := ⟨⟨[.hole (.sl (.int .i64)), .hole (.sl (.int .i64)), .hole .bool], []⟩, ⟨[.hole .bool], []⟩⟩
noncomputable def G.f9Γ : List Con := [G.f23con, G.f22con, G.f24con, G.f13con]
def G.f9ann : Ann :=
  (.seq .leaf (.seq (.seq .leaf (.cond (.seq .leaf .leaf) .leaf)) (.seq (.seq (.join [⟨.normal, [(24, .hole .bool)], []⟩] .leaf) (.cond (.seq .leaf .leaf) .leaf)) (.seq .leaf (.seq (.join [⟨.normal, [(7, .hole (.int .i64))], []⟩] (.seq .leaf (.cond .leaf .leaf))) (.seq (.seq .leaf (.block (.loop ⟨.normal, [(8, .hole (.int .i64)), (9, .hole (.int .i64))], []⟩ [⟨(.exit 0), [(8, .hole (.int .i64))], []⟩, ⟨.ret, [(6, .hole .bool)], []⟩] (.seq (.seq .leaf (.cond .leaf .leaf)) (.seq (.block (.seq (.join [⟨.normal, [(8, .hole (.int .i64))], []⟩] (.seq .leaf (.cond .leaf .leaf))) (.seq (.join [⟨.normal, [(8, .hole (.int .i64))], []⟩] (.seq .leaf (.cond .leaf .leaf))) (.seq (.join [⟨.normal, [(54, .hole .bool)], []⟩] .leaf) (.cond (.seq .leaf .leaf) .leaf))))) .leaf))))) (.seq (.seq .leaf (.cond (.seq .leaf .leaf) .leaf)) (.seq .leaf (.seq .leaf (.seq .leaf (.seq .leaf .leaf)))))))))))
/- ductus/ductuslaw06.ExplicitIsolates -/
noncomputable def G.f9F : List Int × List Int × Bool → Option (Bool) :=
  fun (x : List Int × List Int × Bool) =>
  Option.bind (Go.Sx.G.f23F ()) fun (v1 : Bool) =>
    if (!v1) = Bool.true then Option.some Bool.false
    else
      Option.bind
        (if Decidable.decide ((↑(List.length x.fst) : Int) > (200 : Int)) = Bool.true then Option.some Bool.true else Option.some (Decidable.decide ((↑(List.length x.snd.fst) : Int) > (200 : Int))))
        fun (v2 : Bool) =>
        if v2 = Bool.true then Option.some Bool.true
        else
          Option.bind (if x.snd.snd = Bool.true then Option.some (1 : Int) else Option.some (0 : Int)) fun (v3 : Int) =>
            Option.bind
              (Go.Sx.iter
                (fun (s4 : Int × Int) =>
                  if Decidable.decide (s4.snd < (↑(List.length x.snd.fst) : Int)) = Bool.true then
                    Option.bind
                      (if (0 : Int) ≤ s4.snd ∧ s4.snd < (↑(List.length x.snd.fst) : Int) then
                        Option.bind (Go.Sx.G.f22F (List.getD x.snd.fst (Int.toNat s4.snd) (0 : Int))) fun (v5 : Bool) =>
                          if v5 = Bool.true then Option.some (Go.IntKind.wrap Go.IntKind.i64 (s4.fst + (1 : Int))) else Option.some s4.1
                      else Option.none)
                      fun (v5 : Int) =>
                      Option.bind
                        (if (0 : Int) ≤ s4.snd ∧ s4.snd < (↑(List.length x.snd.fst) : Int) then
                          if (List.getD x.snd.fst (Int.toNat s4.snd) (0 : Int) == (22 : Int)) = Bool.true then Option.some (Go.IntKind.wrap Go.IntKind.i64 (v5 - (1 : Int))) else Option.some v5
                        else Option.none)
                        fun (v6 : Int) =>
                        Option.bind
                          (if Decidable.decide (v6 < (0 : Int)) = Bool.true then Option.some Bool.true
                          else if (0 : Int) ≤ s4.snd ∧ s4.snd < (↑(List.length x.snd.fst) : Int) then Option.some (List.getD x.snd.fst (Int.toNat s4.snd) (0 : Int) == (10 : Int)) else Option.none)
                          fun (v7 : Bool) => if v7 = Bool.true then Option.some (Sum.inr (Sum.inr Bool.true)) else Option.some (Sum.inl (v6, Go.IntKind.wrap Go.IntKind.i64 (s4.snd + (1 : Int))))
                  else Option.some (Sum.inr (Sum.inl s4.1)))
                ((0 : Int), (0 : Int)))
              fun (v4 : Int ⊕ Bool) =>
              Sum.elim
                (fun (p5 : Int) =>
                  if (p5 != (0 : Int)) = Bool.true then Option.some Bool.true
                  else
                    if
                        Go.Sx.roomOk ((0 : Nat) + List.length [(19 : Int)])
                          { kind := Go.Sx.TK.int Go.IntKind.i64, size := (1 : Nat), bytes := (8 : Nat), ty := Option.some (Go.Sx.Ty.int Go.IntKind.i64),
                              zero := [Go.Sx.SV.val (Go.Sx.Ty.int Go.IntKind.i64) (0 : Int)] : Go.Sx.TI }.bytes then
                      if
                          Go.Sx.roomOk (List.length ([] ++ [(19 : Int)]) + List.length x.snd.1)
                            { kind := Go.Sx.TK.int Go.IntKind.i64, size := (1 : Nat), bytes := (8 : Nat), ty := Option.some (Go.Sx.Ty.int Go.IntKind.i64),
                                zero := [Go.Sx.SV.val (Go.Sx.Ty.int Go.IntKind.i64) (0 : Int)] : Go.Sx.TI }.bytes then
                        if
                            Go.Sx.roomOk ((0 : Nat) + (1 : Nat) + List.length x.1)
                              { kind := Go.Sx.TK.int Go.IntKind.i64, size := (1 : Nat), bytes := (8 : Nat), ty := Option.some (Go.Sx.Ty.int Go.IntKind.i64),
                                  zero := [Go.Sx.SV.val (Go.Sx.Ty.int Go.IntKind.i64) (0 : Int)] : Go.Sx.TI }.bytes then
                          if
                              Go.Sx.roomOk (List.length ([] ++ [(19 : Int)] ++ x.snd.1) + List.length ([(22 : Int)] ++ x.1))
                                { kind := Go.Sx.TK.int Go.IntKind.i64, size := (1 : Nat), bytes := (8 : Nat), ty := Option.some (Go.Sx.Ty.int Go.IntKind.i64),
                                    zero := [Go.Sx.SV.val (Go.Sx.Ty.int Go.IntKind.i64) (0 : Int)] : Go.Sx.TI }.bytes then
                            Option.bind (Go.Sx.G.f24F ([] ++ [(19 : Int)] ++ x.snd.1 ++ ([(22 : Int)] ++ x.1), v3)) fun (v6 : List Int × List Int) =>
                              if
                                  Go.Sx.roomOk ((1 : Nat) + (1 : Nat) + List.length x.1)
                                    { kind := Go.Sx.TK.int Go.IntKind.i64, size := (1 : Nat), bytes := (8 : Nat), ty := Option.some (Go.Sx.Ty.int Go.IntKind.i64),
                                        zero := [Go.Sx.SV.val (Go.Sx.Ty.int Go.IntKind.i64) (0 : Int)] : Go.Sx.TI }.bytes then
                                Option.bind (Go.Sx.G.f24F ([(19 : Int), (22 : Int)] ++ x.1, v3)) fun (v7 : List Int × List Int) =>
                                  if
                                      ((↑(List.length v6.fst) : Int) ==
                                          Go.IntKind.wrap Go.IntKind.i64 (Go.IntKind.wrap Go.IntKind.i64 ((↑(List.length x.snd.fst) : Int) + (2 : Int)) + (↑(List.length x.fst) : Int))) =
                                        Bool.true then
                                    if ((↑(List.length v7.fst) : Int) == Go.IntKind.wrap Go.IntKind.i64 ((2 : Int) + (↑(List.length x.fst) : Int))) = Bool.true then
                                      if
                                          (0 : Int) ≤ Go.IntKind.wrap Go.IntKind.i64 ((↑(List.length x.snd.fst) : Int) + (1 : Int)) ∧
                                            Go.IntKind.wrap Go.IntKind.i64 ((↑(List.length x.snd.fst) : Int) + (1 : Int)) ≤ (↑(List.length v6.fst) : Int) then
                                        if (0 : Int) ≤ (1 : Int) ∧ (1 : Int) ≤ (↑(List.length v7.fst) : Int) then
                                          Option.bind
                                            (Go.Sx.G.f13F
                                              (List.drop (Int.toNat (Go.IntKind.wrap Go.IntKind.i64 ((↑(List.length x.snd.fst) : Int) + (1 : Int)))) v6.fst, List.drop (Int.toNat (1 : Int)) v7.fst))
                                            fun (v8 : Bool) =>
                                            if v8 = Bool.true then
                                              if
                                                  (0 : Int) ≤ Go.IntKind.wrap Go.IntKind.i64 ((↑(List.length x.snd.fst) : Int) + (1 : Int)) ∧
                                                    Go.IntKind.wrap Go.IntKind.i64 ((↑(List.length x.snd.fst) : Int) + (1 : Int)) ≤ (↑(List.length v6.snd) : Int) then
                                                if (0 : Int) ≤ (1 : Int) ∧ (1 : Int) ≤ (↑(List.length v7.snd) : Int) then
                                                  Option.bind
                                                    (Go.Sx.G.f13F
                                                      (List.drop (Int.toNat (Go.IntKind.wrap Go.IntKind.i64 ((↑(List.length x.snd.fst) : Int) + (1 : Int)))) v6.snd,
                                                        List.drop (Int.toNat (1 : Int)) v7.snd))
                                                    fun (v9 : Bool) => Option.some v9
                                                else Option.none
                                              else Option.none
                                            else Option.some Bool.false
                                        else Option.none
                                      else Option.none
                                    else Option.some Bool.false
                                  else Option.some Bool.false
                              else Option.none
                          else Option.none
                        else Option.none
                      else Option.none
                    else Option.none)
                (fun (q5 : Bool) => Option.some q5) v4
theorem G.f9eq : ∀ x, runFn G.C G.f9Γ G.f9sig G.f9ann Go.Proofs.Tryd.f9 x = G.f9F x := by
  intro x
  kernel_rfl
noncomputable def G.f9con : Con := ⟨9, G.f9sig, G.f9F⟩
theorem G.f9ok : Con.Ok Go.Proofs.Tryd.prog G.C G.f9con :=
  runFn_ok (Γ := G.f9Γ) (an := G.f9ann) ⟨G.Cok, (List.forall_mem_cons.2 ⟨G.f23ok, (List.forall_mem_cons.2 ⟨G.f22ok, (List.forall_mem_cons.2 ⟨G.f24ok, (List.forall_mem_cons.2 ⟨G.f13ok, (fun _ h => nomatch h)⟩)⟩)⟩)⟩), G.mixed⟩ Go.Proofs.Tryd.func9 rfl rfl (fun x y h => (G.f9eq x).trans h) (by decide)
def G.f10sig : Sig := ⟨⟨[.hole (.int .u8), .hole .bool], []⟩, ⟨[.hole .bool], []⟩⟩
noncomputable def G.f10Γ : List Con := [G.f23con, G.f28con]
def G.f10ann : Ann :=
  (.seq .leaf (.seq (.seq .leaf (.cond (.seq .leaf .leaf) .leaf)) (.seq .leaf (.seq (.join [⟨.normal, [(6, .hole (.int .i64))], []⟩] (.seq .leaf (.cond .leaf .leaf))) (.seq .leaf (.seq .leaf .leaf))))))
/- ductus/ductuslaw06.ExplicitNexts -/
noncomputable def G.f10F : Int × Bool → Option (Bool) :=
  fun (x : Int × Bool) =>
  Option.bind (Go.Sx.G.f23F ()) fun (v1 : Bool) =>
    if (!v1) = Bool.true then Option.some Bool.false
    else
      Option.bind (if x.snd = Bool.true then Option.some (1 : Int) else Option.some (0 : Int)) fun (v2 : Int) =>
        Option.bind (Go.Sx.G.f28F (Int.tmod (Go.IntKind.wrap Go.IntKind.i64 x.fst) (126 : Int), v2)) fun (v3 : Int) =>
          if Decidable.decide (v3 > Int.tmod (Go.IntKind.wrap Go.IntKind.i64 x.fst) (126 : Int)) = Bool.true then
            if Decidable.decide (v3 ≤ Go.IntKind.wrap Go.IntKind.i64 (Int.tmod (Go.IntKind.wrap Go.IntKind.i64 x.fst) (126 : Int) + (2 : Int))) = Bool.true then
              if (Int.tmod v3 (2 : Int) == v2) = Bool.true then
                if (v3 == Go.IntKind.wrap Go.IntKind.i64 (Int.tmod (Go.IntKind.wrap Go.IntKind.i64 x.fst) (126 : Int) + (1 : Int))) = Bool.true then
                  Option.bind (Go.Sx.G.f28F (Go.IntKind.wrap Go.IntKind.i64 ((-1 : Int) - Go.IntKind.wrap Go.IntKind.i64 x.fst), v2)) fun (v4 : Int) =>
                    if (v4 == (-1 : Int)) = Bool.true then
                      Option.bind (Go.Sx.G.f28F (Go.IntKind.wrap Go.IntKind.i64 ((126 : Int) + Go.IntKind.wrap Go.IntKind.i64 x.fst), v2)) fun (v5 : Int) => Option.some (v5 == (-1 : Int))
                    else Option.some Bool.false
                else
                  if (Int.tmod (Int.tmod (Go.IntKind.wrap Go.IntKind.i64 x.fst) (126 : Int)) (2 : Int) == v2) = Bool.true then
                    Option.bind (Go.Sx.G.f28F (Go.IntKind.wrap Go.IntKind.i64 ((-1 : Int) - Go.IntKind.wrap Go.IntKind.i64 x.fst), v2)) fun (v4 : Int) =>
                      if (v4 == (-1 : Int)) = Bool.true then
                        Option.bind (Go.Sx.G.f28F (Go.IntKind.wrap Go.IntKind.i64 ((126 : Int) + Go.IntKind.wrap Go.IntKind.i64 x.fst), v2)) fun (v5 : Int) => Option.some (v5 == (-1 : Int))
                      else Option.some Bool.false
                  else Option.some Bool.false
              else Option.some Bool.false
            else Option.some Bool.false
          else Option.some Bool.false
theorem G.f10eq : ∀ x, runFn G.C G.f10Γ G.f10sig G.f10ann Go.Proofs.Tryd.f10 x = G.f10F x := by
  intro x
  kernel_rfl
noncomputable def G.f10con : Con := ⟨10, G.f10sig, G.f10F⟩
theorem G.f10ok : Con.Ok Go.Proofs.Tryd.prog G.C G.f10con :=
  runFn_ok (Γ := G.f10Γ) (an := G.f10ann) ⟨G.Cok, (List.forall_mem_cons.2 ⟨G.f23ok, (List.forall_mem_cons.2 ⟨G.f28ok, (fun _ h => nomatch h)⟩)⟩), G.mixed⟩ Go.Proofs.Tryd.func10 rfl rfl (fun x y h => (G.f10eq x).trans h) (by decide)
def G.f11sig : Sig := ⟨⟨[.hole (.sl (.int .i64)), .hole (.int .u16), .hole .bool], []⟩, ⟨[.hole .bool], []⟩⟩
noncomputable def G.f11Γ : List Con := [G.f23con, G.f24con, G.f13con, G.f26con]
def G.f11ann : Ann :=
  (.seq .leaf (.seq (.seq .leaf (.cond (.seq .leaf .leaf) .leaf)) (.seq (.seq .leaf (.cond (.seq .leaf .leaf) .leaf)) (.seq .leaf (.seq (.join [⟨.normal, [(7, .hole (.int .i64))], []⟩] (.seq .leaf (.cond .leaf .leaf))) (.seq .leaf (.seq (.seq .leaf (.block (.loop ⟨.normal, [(9, .hole (.int .i64))], []⟩ [⟨(.exit 0), [], []⟩, ⟨.ret, [(6, .hole .bool)], []⟩] (.seq (.seq .leaf (.cond .leaf .leaf)) (.seq (.block (.seq .leaf (.cond (.seq .leaf .leaf) .leaf))) .leaf))))) (.seq .leaf (.seq .leaf (.seq .leaf .leaf))))))))))
/- ductus/ductuslaw06.ExplicitBegins -/
noncomputable def G.f11F : List Int × Int × Bool → Option (Bool) :=
  fun (x : List Int × Int × Bool) =>
  Option.bind (Go.Sx.G.f23F ()) fun (v1 : Bool) =>
    if (!v1) = Bool.true then Option.some Bool.false
    else
      if Decidable.decide ((↑(List.length x.fst) : Int) > (300 : Int)) = Bool.true then Option.some Bool.true
      else
        Option.bind (if x.snd.snd = Bool.true then Option.some (1 : Int) else Option.some (0 : Int)) fun (v2 : Int) =>
          if Go.IntKind.wrap Go.IntKind.i64 ((↑(List.length x.fst) : Int) + (1 : Int)) = (0 : Int) then Option.none
          else
            Option.bind
              (Go.Sx.iter
                (fun (s3 : Int) =>
                  if Decidable.decide (s3 < Int.tmod (Go.IntKind.wrap Go.IntKind.i64 x.snd.fst) (Go.IntKind.wrap Go.IntKind.i64 ((↑(List.length x.fst) : Int) + (1 : Int)))) = Bool.true then
                    if (0 : Int) ≤ s3 ∧ s3 < (↑(List.length x.fst) : Int) then
                      if (List.getD x.fst (Int.toNat s3) (0 : Int) == (21 : Int)) = Bool.true then Option.some (Sum.inr (Sum.inr Bool.true))
                      else Option.some (Sum.inl (Go.IntKind.wrap Go.IntKind.i64 (s3 + (1 : Int))))
                    else Option.none
                  else Option.some (Sum.inr (Sum.inl ())))
                (0 : Int))
              fun (v3 : PUnit ⊕ Bool) =>
              Sum.elim
                (fun (p4 : PUnit) =>
                  Option.bind (Go.Sx.G.f24F (x.1, v2)) fun (v5 : List Int × List Int) =>
                    if
                        (0 : Int) ≤ Int.tmod (Go.IntKind.wrap Go.IntKind.i64 x.snd.fst) (Go.IntKind.wrap Go.IntKind.i64 ((↑(List.length x.fst) : Int) + (1 : Int))) ∧
                          Int.tmod (Go.IntKind.wrap Go.IntKind.i64 x.snd.fst) (Go.IntKind.wrap Go.IntKind.i64 ((↑(List.length x.fst) : Int) + (1 : Int))) ≤ (↑(List.length x.fst) : Int) then
                      Option.bind
                        (Go.Sx.G.f24F
                          (List.take (Int.toNat (Int.tmod (Go.IntKind.wrap Go.IntKind.i64 x.snd.fst) (Go.IntKind.wrap Go.IntKind.i64 ((↑(List.length x.fst) : Int) + (1 : Int))))) x.fst, v2))
                        fun (v6 : List Int × List Int) =>
                        if ((↑(List.length v5.fst) : Int) == (↑(List.length x.fst) : Int)) = Bool.true then
                          if ((↑(List.length v5.snd) : Int) == (↑(List.length x.fst) : Int)) = Bool.true then
                            if
                                (0 : Int) ≤ Int.tmod (Go.IntKind.wrap Go.IntKind.i64 x.snd.fst) (Go.IntKind.wrap Go.IntKind.i64 ((↑(List.length x.fst) : Int) + (1 : Int))) ∧
                                  Int.tmod (Go.IntKind.wrap Go.IntKind.i64 x.snd.fst) (Go.IntKind.wrap Go.IntKind.i64 ((↑(List.length x.fst) : Int) + (1 : Int))) ≤ (↑(List.length v5.fst) : Int) then
                              Option.bind
                                (Go.Sx.G.f13F
                                  (List.take (Int.toNat (Int.tmod (Go.IntKind.wrap Go.IntKind.i64 x.snd.fst) (Go.IntKind.wrap Go.IntKind.i64 ((↑(List.length x.fst) : Int) + (1 : Int))))) v5.fst,
                                    v6.1))
                                fun (v7 : Bool) =>
                                if v7 = Bool.true then
                                  if
                                      (0 : Int) ≤ Int.tmod (Go.IntKind.wrap Go.IntKind.i64 x.snd.fst) (Go.IntKind.wrap Go.IntKind.i64 ((↑(List.length x.fst) : Int) + (1 : Int))) ∧
                                        Int.tmod (Go.IntKind.wrap Go.IntKind.i64 x.snd.fst) (Go.IntKind.wrap Go.IntKind.i64 ((↑(List.length x.fst) : Int) + (1 : Int))) ≤
                                          (↑(List.length v5.snd) : Int) then
                                    Option.bind
                                      (Go.Sx.G.f13F
                                        (List.take (Int.toNat (Int.tmod (Go.IntKind.wrap Go.IntKind.i64 x.snd.fst) (Go.IntKind.wrap Go.IntKind.i64 ((↑(List.length x.fst) : Int) + (1 : Int))))) v5.snd,
                                          v6.2))
                                      fun (v8 : Bool) =>
                                      if v8 = Bool.true then
                                        if
                                            (0 : Int) ≤ Int.tmod (Go.IntKind.wrap Go.IntKind.i64 x.snd.fst) (Go.IntKind.wrap Go.IntKind.i64 ((↑(List.length x.fst) : Int) + (1 : Int))) ∧
                                              Int.tmod (Go.IntKind.wrap Go.IntKind.i64 x.snd.fst) (Go.IntKind.wrap Go.IntKind.i64 ((↑(List.length x.fst) : Int) + (1 : Int))) ≤
                                                (↑(List.length x.fst) : Int) then
                                          Option.bind
                                            (Go.Sx.G.f26F
                                              (List.take (Int.toNat (Int.tmod (Go.IntKind.wrap Go.IntKind.i64 x.snd.fst) (Go.IntKind.wrap Go.IntKind.i64 ((↑(List.length x.fst) : Int) + (1 : Int)))))
                                                  x.fst,
                                                v2))
                                            fun (v9 : Int) => Option.bind (Go.Sx.G.f26F (x.1, v2)) fun (v10 : Int) => Option.some (Decidable.decide (v9 ≤ v10))
                                        else Option.none
                                      else Option.some Bool.false
                                  else Option.none
                                else Option.some Bool.false
                            else Option.none
                          else Option.some Bool.false
                        else Option.some Bool.false
                    else Option.none)
                (fun (q4 : Bool) => Option.some q4) v3
theorem G.f11eq : ∀ x, runFn G.C G.f11Γ G.f11sig G.f11ann Go.Proofs.Tryd.f11 x = G.f11F x := by
  intro x
  kernel_rfl
noncomputable def G.f11con : Con := ⟨11, G.f11sig, G.f11F⟩
theorem G.f11ok : Con.Ok Go.Proofs.Tryd.prog G.C G.f11con :=
  runFn_ok (Γ := G.f11Γ) (an := G.f11ann) ⟨G.Cok, (List.forall_mem_cons.2 ⟨G.f23ok, (List.forall_mem_cons.2 ⟨G.f24ok, (List.forall_mem_cons.2 ⟨G.f13ok, (List.forall_mem_cons.2 ⟨G.f26ok, (fun _ h => nomatch h)⟩)⟩)⟩)⟩), G.mixed⟩ Go.Proofs.Tryd.func11 rfl rfl (fun x y h => (G.f11eq x).trans h) (by decide)
end Go.Sx
