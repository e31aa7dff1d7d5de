import Derived.Test.YtjmdfkcgglidaaaDoorSxP
import Derived.Test.YtjmdfkcgglidaaaDoorProg
import Derived.KernelRfl
set_option linter.unusedVariables false
set_option linter.unusedSimpArgs false
namespace Go.Sx
open Go.Proofs
def G.words : List ByteArray := [⟨#[76]⟩, ⟨#[82]⟩, ⟨#[65, 76]⟩, ⟨#[69, 78]⟩, ⟨#[69, 83]⟩, ⟨#[69, 84]⟩, ⟨#[65, 78]⟩, ⟨#[67, 83]⟩, ⟨#[78, 83, 77]⟩, ⟨#[66, 78]⟩, ⟨#[66]⟩, ⟨#[83]⟩, ⟨#[87, 83]⟩, ⟨#[79, 78]⟩, ⟨#[76, 82, 69]⟩, ⟨#[76, 82, 79]⟩, ⟨#[82, 76, 69]⟩, ⟨#[82, 76, 79]⟩, ⟨#[80, 68, 70]⟩, ⟨#[76, 82, 73]⟩, ⟨#[82, 76, 73]⟩, ⟨#[70, 83, 73]⟩, ⟨#[80, 68, 73]⟩]
def G.TT : List (TypeId × TI) := [
  (3, ⟨(.int .i64), 1, 8, some (.int .i64), [.val (.int .i64) (0 : Int)]⟩),
  (4, ⟨.bool, 1, 1, some .bool, [.bit false]⟩),
  (5, ⟨(.int .u8), 1, 1, some (.int .u8), [.val (.int .u8) (0 : Int)]⟩),
  (9, ⟨.str, 1, 16, some .str, [.val .str ByteArray.empty]⟩),
  (22, ⟨(.slice 3), 1, 24, some (.sl (.int .i64)), [.nils]⟩),
  (23, ⟨(.array 3 3), 3, 24, some (.arr 3 (.int .i64)), [.val (.int .i64) (0 : Int), .val (.int .i64) (0 : Int), .val (.int .i64) (0 : Int)]⟩),
  (33, ⟨(.int .u16), 1, 2, some (.int .u16), [.val (.int .u16) (0 : Int)]⟩),
  (34, ⟨(.array 3 33), 3, 6, some (.arr 3 (.int .u16)), [.val (.int .u16) (0 : Int), .val (.int .u16) (0 : Int), .val (.int .u16) (0 : Int)]⟩),
  (36, ⟨(.array 2 3), 2, 16, some (.arr 2 (.int .i64)), [.val (.int .i64) (0 : Int), .val (.int .i64) (0 : Int)]⟩),
  (37, ⟨.other, 1, 0, none, [.und]⟩),
  (47, ⟨(.ptr 51), 1, 8, none, [.nilp]⟩),
  (49, ⟨(.slice 69), 1, 24, some (.sl (.st (.pair (.int .i64) (.pair (.int .i64) .bool)))), [.nils]⟩),
  (51, ⟨(.struct [(3, 0, 1, false), (49, 1, 1, false), (3, 2, 1, false), (3, 3, 1, false), (3, 4, 1, false), (3, 5, 1, false), (22, 6, 1, false), (22, 7, 1, false)]), 8, 112, some (.st (.pair (.int .i64) (.pair (.sl (.st (.pair (.int .i64) (.pair (.int .i64) .bool)))) (.pair (.int .i64) (.pair (.int .i64) (.pair (.int .i64) (.pair (.int .i64) (.pair (.sl (.int .i64)) (.sl (.int .i64)))))))))), [.val (.int .i64) (0 : Int), .nils, .val (.int .i64) (0 : Int), .val (.int .i64) (0 : Int), .val (.int .i64) (0 : Int), .val (.int .i64) (0 : Int), .nils, .nils]⟩),
  (52, ⟨(.ptr 56), 1, 8, none, [.nilp]⟩),
  (54, ⟨(.slice 66), 1, 24, some (.sl (.st (.pair (.int .i64) (.pair (.int .i64) .bool)))), [.nils]⟩),
  (56, ⟨(.struct [(3, 0, 1, false), (54, 1, 1, false), (3, 2, 1, false), (3, 3, 1, false), (3, 4, 1, false), (3, 5, 1, false), (22, 6, 1, false), (22, 7, 1, false), (22, 8, 1, false)]), 9, 136, some (.st (.pair (.int .i64) (.pair (.sl (.st (.pair (.int .i64) (.pair (.int .i64) .bool)))) (.pair (.int .i64) (.pair (.int .i64) (.pair (.int .i64) (.pair (.int .i64) (.pair (.sl (.int .i64)) (.pair (.sl (.int .i64)) (.sl (.int .i64))))))))))), [.val (.int .i64) (0 : Int), .nils, .val (.int .i64) (0 : Int), .val (.int .i64) (0 : Int), .val (.int .i64) (0 : Int), .val (.int .i64) (0 : Int), .nils, .nils, .nils]⟩),
  (57, ⟨(.slice 9), 1, 24, some (.sl .str), [.nils]⟩),
  (59, ⟨(.int .u64), 1, 8, some (.int .u64), [.val (.int .u64) (0 : Int)]⟩),
  (66, ⟨(.struct [(3, 0, 1, false), (3, 1, 1, false), (4, 2, 1, false)]), 3, 24, some (.st (.pair (.int .i64) (.pair (.int .i64) .bool))), [.val (.int .i64) (0 : Int), .val (.int .i64) (0 : Int), .bit false]⟩),
  (69, ⟨(.struct [(3, 0, 1, false), (3, 1, 1, false), (4, 2, 1, false)]), 3, 24, some (.st (.pair (.int .i64) (.pair (.int .i64) .bool))), [.val (.int .i64) (0 : Int), .val (.int .i64) (0 : Int), .bit false]⟩),
  (72, ⟨(.array 23 9), 23, 368, some (.arr 23 .str), [.val .str ByteArray.empty, .val .str ByteArray.empty, .val .str ByteArray.empty, .val .str ByteArray.empty, .val .str ByteArray.empty, .val .str ByteArray.empty, .val .str ByteArray.empty, .val .str ByteArray.empty, .val .str ByteArray.empty, .val .str ByteArray.empty, .val .str ByteArray.empty, .val .str ByteArray.empty, .val .str ByteArray.empty, .val .str ByteArray.empty, .val .str ByteArray.empty, .val .str ByteArray.empty, .val .str ByteArray.empty, .val .str ByteArray.empty, .val .str ByteArray.empty, .val .str ByteArray.empty, .val .str ByteArray.empty, .val .str ByteArray.empty, .val .str ByteArray.empty]⟩)]
noncomputable def G.C : Ctx := ⟨G.TT, [(0, ⟨.arr 23 .str, G.words⟩)], [], [], []⟩
theorem G.Cok : G.C.ok Go.Proofs.Tryd.prog := checkTT_ok (by kernel_rfl)
theorem G.mixed : Go.Proofs.Tryd.prog.follows .mixedOrders = true := by kernel_rfl
def G.f38sig : Sig := ⟨⟨[.hole (.sl (.int .i64))], []⟩, ⟨[.hole (.int .u64)], []⟩⟩
noncomputable def G.f38Γ : List Con := []
def G.f38ann : Ann :=
  (.seq .leaf (.seq (.seq .leaf (.block (.loop ⟨.normal, [(2, .hole (.int .u64)), (7, .hole (.int .i64))], []⟩ [⟨(.exit 0), [(2, .hole (.int .u64))], []⟩] (.seq .leaf (.seq (.cond .leaf .leaf) (.seq (.block (.seq .leaf .leaf)) .leaf)))))) (.seq .leaf .leaf)))
noncomputable def G.f38F : List Int → Option (Int) :=
  fun (x : List Int) =>
  Option.bind
    (Go.Sx.iter
      (fun (s1 : Int × Int) =>
        if Decidable.decide (s1.snd < (↑(List.length x) : Int)) = Bool.true then
          if (0 : Int) ≤ s1.snd ∧ s1.snd < (↑(List.length x) : Int) then
            if List.getD x (Int.toNat s1.snd) (0 : Int) < (0 : Int) then Option.none
            else
              Option.some
                (Sum.inl
                  (Go.IntKind.wrap Go.IntKind.u64
                      (↑(BitVec.toNat
                            (BitVec.ofInt (Go.IntKind.bits Go.IntKind.u64) s1.fst |||
                              BitVec.ofInt (Go.IntKind.bits Go.IntKind.u64)
                                (Go.IntKind.wrap Go.IntKind.u64 ((1 : Int) * (2 : Int) ^ Min.min (Int.toNat (List.getD x (Int.toNat s1.snd) (0 : Int))) (Go.IntKind.bits Go.IntKind.u64))))) :
                        Int),
                    Go.IntKind.wrap Go.IntKind.i64 (s1.snd + (1 : Int))))
          else Option.none
        else Option.some (Sum.inr s1.1))
      ((0 : Int), (0 : Int)))
    fun (v1 : Int) => Option.some v1
theorem G.f38eq : ∀ x, runFn G.C G.f38Γ G.f38sig G.f38ann Go.Proofs.Tryd.f38 x = G.f38F x := by
  intro x
  kernel_rfl
noncomputable def G.f38con : Con := ⟨38, G.f38sig, G.f38F⟩
theorem G.f38ok : Con.Ok Go.Proofs.Tryd.prog G.C G.f38con :=
  runFn_ok (Γ := G.f38Γ) (an := G.f38ann) ⟨G.Cok, (fun _ h => nomatch h), G.mixed⟩ Go.Proofs.Tryd.func38 rfl rfl (fun x y h => (G.f38eq x).trans h) (by decide)
def G.f37sig : Sig := ⟨⟨[.hole (.int .i64), .hole (.int .u64)], []⟩, ⟨[.hole .bool], []⟩⟩
noncomputable def G.f37Γ : List Con := []
def G.f37ann : Ann :=
  (.seq .leaf (.seq .leaf .leaf))
noncomputable def G.f37F : Int × Int → Option (Bool) :=
  fun (x : Int × Int) =>
  if Decidable.decide (x.fst ≥ (0 : Int)) = Bool.true then
    if Decidable.decide (x.fst ≤ (22 : Int)) = Bool.true then
      if x.fst < (0 : Int) then Option.none
      else
        Option.some
          (Go.IntKind.wrap Go.IntKind.u64
              (↑(BitVec.toNat
                    (BitVec.ofInt (Go.IntKind.bits Go.IntKind.u64) (Int.fdiv x.snd ((2 : Int) ^ Min.min (Int.toNat x.fst) (Go.IntKind.bits Go.IntKind.u64))) &&&
                      BitVec.ofInt (Go.IntKind.bits Go.IntKind.u64) (1 : Int))) :
                Int) ==
            (1 : Int))
    else Option.some Bool.false
  else Option.some Bool.false
theorem G.f37eq : ∀ x, runFn G.C G.f37Γ G.f37sig G.f37ann Go.Proofs.Tryd.f37 x = G.f37F x := by
  intro x
  kernel_rfl
noncomputable def G.f37con : Con := ⟨37, G.f37sig, G.f37F⟩
theorem G.f37ok : Con.Ok Go.Proofs.Tryd.prog G.C G.f37con :=
  runFn_ok (Γ := G.f37Γ) (an := G.f37ann) ⟨G.Cok, (fun _ h => nomatch h), G.mixed⟩ Go.Proofs.Tryd.func37 rfl rfl (fun x y h => (G.f37eq x).trans h) (by decide)
def G.f32sig : Sig := ⟨⟨[.hole (.int .i64)], []⟩, ⟨[.hole .bool], []⟩⟩
noncomputable def G.f32Γ : List Con := [G.f38con, G.f37con]
def G.f32ann : Ann :=
  (.seq .leaf (.seq .leaf .leaf))
noncomputable def G.f32F : Int → Option (Bool) :=
  fun (x : Int) => Option.bind (Go.Sx.G.f38F [(19 : Int), (20 : Int), (21 : Int)]) fun (v1 : Int) => Option.bind (Go.Sx.G.f37F (x, v1)) fun (v2 : Bool) => Option.some v2
theorem G.f32eq : ∀ x, runFn G.C G.f32Γ G.f32sig G.f32ann Go.Proofs.Tryd.f32 x = G.f32F x := by
  intro x
  kernel_rfl
noncomputable def G.f32con : Con := ⟨32, G.f32sig, G.f32F⟩
theorem G.f32ok : Con.Ok Go.Proofs.Tryd.prog G.C G.f32con :=
  runFn_ok (Γ := G.f32Γ) (an := G.f32ann) ⟨G.Cok, (List.forall_mem_cons.2 ⟨G.f38ok, (List.forall_mem_cons.2 ⟨G.f37ok, (fun _ h => nomatch h)⟩)⟩), G.mixed⟩ Go.Proofs.Tryd.func32 rfl rfl (fun x y h => (G.f32eq x).trans h) (by decide)
def G.f14sig : Sig := ⟨⟨[.hole (.sl (.int .i64))], []⟩, ⟨[.hole (.sl (.int .i64))], []⟩⟩
noncomputable def G.f14Γ : List Con := [G.f32con]
def G.f14ann : Ann :=
  (.seq .leaf (.seq .leaf (.seq .leaf (.seq (.seq .leaf (.block (.loop ⟨.normal, [(4, .own 1), (13, .hole (.int .i64))], [.arr 3 (.int .i64), .arr 3 (.int .i64)]⟩ [⟨(.exit 0), [], [.arr 3 (.int .i64)]⟩] (.seq .leaf (.seq (.cond .leaf .leaf) (.seq (.block (.seq .leaf (.seq .leaf (.block (.seq .leaf (.cond .leaf (.seq .leaf (.cond .leaf (.seq (.join [⟨.normal, [(31, .hole .bool)], [.arr 3 (.int .i64), .arr 3 (.int .i64)]⟩] .leaf) (.cond (.seq .leaf (.seq .leaf .leaf)) .leaf)))))))))) .leaf)))))) (.seq .leaf .leaf)))))
noncomputable def G.f14F : List Int → Option (List Int) :=
  fun (x : List Int) =>
  if
      (0 : Int) ≤ (↑(List.length x) : Int) ∧
        (↑(List.length x) : Int) ≤ (↑(List.length x) : Int) ∧
          Go.Sx.roomOk (Int.toNat (↑(List.length x) : Int))
            { kind := Go.Sx.TK.int Go.IntKind.i64, size := (1 : Nat), bytes := (8 : Nat), ty := Option.some (Go.Sx.Ty.int Go.IntKind.i64),
                zero := [Go.Sx.SV.val (Go.Sx.Ty.int Go.IntKind.i64) (0 : Int)] : Go.Sx.TI }.bytes then
    Option.bind
      (Go.Sx.iter
        (fun (s1 : Int × List Int × List Int) =>
          if Decidable.decide (s1.fst < (↑(List.length x) : Int)) = Bool.true then
            if (0 : Int) ≤ s1.fst ∧ s1.fst < (↑(List.length x) : Int) then
              if (0 : Int) ≤ s1.fst ∧ s1.fst < (↑(List.length s1.snd.fst) : Int) then
                if (List.getD x (Int.toNat s1.fst) (0 : Int) == (10 : Int)) = Bool.true then
                  Option.some (Sum.inl (Go.IntKind.wrap Go.IntKind.i64 (s1.fst + (1 : Int)), List.set s1.snd.1 (Int.toNat s1.fst) (-1 : Int), []))
                else
                  Option.bind (Go.Sx.G.f32F (List.getD x (Int.toNat s1.fst) (0 : Int))) fun (v2 : Bool) =>
                    if v2 = Bool.true then
                      if
                          Go.Sx.roomOk (List.length s1.snd.snd + List.length [s1.1])
                            { kind := Go.Sx.TK.int Go.IntKind.i64, size := (1 : Nat), bytes := (8 : Nat), ty := Option.some (Go.Sx.Ty.int Go.IntKind.i64),
                                zero := [Go.Sx.SV.val (Go.Sx.Ty.int Go.IntKind.i64) (0 : Int)] : Go.Sx.TI }.bytes then
                        Option.some (Sum.inl (Go.IntKind.wrap Go.IntKind.i64 (s1.fst + (1 : Int)), List.set s1.snd.1 (Int.toNat s1.fst) (-1 : Int), s1.snd.2 ++ [s1.1]))
                      else Option.none
                    else
                      Option.bind
                        (if (List.getD x (Int.toNat s1.fst) (0 : Int) == (22 : Int)) = Bool.true then
                          Option.some (Decidable.decide ((↑(List.length s1.snd.snd) : Int) > (0 : Int)), List.set s1.snd.1 (Int.toNat s1.fst) (-1 : Int), s1.snd.2)
                        else Option.some (Bool.false, List.set s1.snd.1 (Int.toNat s1.fst) (-1 : Int), s1.snd.2))
                        fun (v3 : Bool × List Int × List Int) =>
                        if v3.fst = Bool.true then
                          if
                              (0 : Int) ≤ Go.IntKind.wrap Go.IntKind.i64 ((↑(List.length v3.snd.snd) : Int) - (1 : Int)) ∧
                                Go.IntKind.wrap Go.IntKind.i64 ((↑(List.length v3.snd.snd) : Int) - (1 : Int)) < (↑(List.length v3.snd.snd) : Int) then
                            if
                                (0 : Int) ≤ Go.IntKind.wrap Go.IntKind.i64 ((↑(List.length v3.snd.snd) : Int) - (1 : Int)) ∧
                                  Go.IntKind.wrap Go.IntKind.i64 ((↑(List.length v3.snd.snd) : Int) - (1 : Int)) ≤ (↑(List.length v3.snd.snd) : Int) then
                              if (0 : Int) ≤ s1.fst ∧ s1.fst < (↑(List.length v3.snd.fst) : Int) then
                                if
                                    (0 : Int) ≤ List.getD v3.snd.2 (Int.toNat (Go.IntKind.wrap Go.IntKind.i64 ((↑(List.length v3.snd.snd) : Int) - (1 : Int)))) (0 : Int) ∧
                                      List.getD v3.snd.2 (Int.toNat (Go.IntKind.wrap Go.IntKind.i64 ((↑(List.length v3.snd.snd) : Int) - (1 : Int)))) (0 : Int) <
                                        (↑(List.length
                                              (List.set v3.snd.1 (Int.toNat s1.fst)
                                                (List.getD v3.snd.2 (Int.toNat (Go.IntKind.wrap Go.IntKind.i64 ((↑(List.length v3.snd.snd) : Int) - (1 : Int)))) (0 : Int)))) :
                                          Int) then
                                  Option.some
                                    (Sum.inl
                                      (Go.IntKind.wrap Go.IntKind.i64 (s1.fst + (1 : Int)),
                                        List.set
                                          (List.set v3.snd.1 (Int.toNat s1.fst)
                                            (List.getD v3.snd.2 (Int.toNat (Go.IntKind.wrap Go.IntKind.i64 ((↑(List.length v3.snd.snd) : Int) - (1 : Int)))) (0 : Int)))
                                          (Int.toNat (List.getD v3.snd.2 (Int.toNat (Go.IntKind.wrap Go.IntKind.i64 ((↑(List.length v3.snd.snd) : Int) - (1 : Int)))) (0 : Int))) s1.1,
                                        List.take (Int.toNat (Go.IntKind.wrap Go.IntKind.i64 ((↑(List.length v3.snd.snd) : Int) - (1 : Int)))) v3.snd.2))
                                else Option.none
                              else Option.none
                            else Option.none
                          else Option.none
                        else Option.some (Sum.inl (Go.IntKind.wrap Go.IntKind.i64 (s1.fst + (1 : Int)), v3.snd.1, v3.snd.2))
              else Option.none
            else Option.none
          else Option.some (Sum.inr s1.snd.1))
        ((0 : Int), List.replicate (Int.toNat (↑(List.length x) : Int)) (0 : Int), []))
      fun (v1 : List Int) => Option.some v1
  else Option.none
theorem G.f14eq : ∀ x, runFn G.C G.f14Γ G.f14sig G.f14ann Go.Proofs.Tryd.f14 x = G.f14F x := by
  intro x
  kernel_rfl
noncomputable def G.f14con : Con := ⟨14, G.f14sig, G.f14F⟩
theorem G.f14ok : Con.Ok Go.Proofs.Tryd.prog G.C G.f14con :=
  runFn_ok (Γ := G.f14Γ) (an := G.f14ann) ⟨G.Cok, (List.forall_mem_cons.2 ⟨G.f32ok, (fun _ h => nomatch h)⟩), G.mixed⟩ Go.Proofs.Tryd.func14 rfl rfl (fun x y h => (G.f14eq x).trans h) (by decide)
def G.f13sig : Sig := ⟨⟨[.hole (.sl (.int .i64)), .hole (.sl (.int .i64))], []⟩, ⟨[.hole .bool], []⟩⟩
noncomputable def G.f13Γ : List Con := []
def G.f13ann : Ann :=
  (.seq .leaf (.seq (.seq .leaf (.cond (.seq .leaf .leaf) .leaf)) (.seq (.seq .leaf (.block (.loop ⟨.normal, [(5, .hole (.int .i64))], []⟩ [⟨(.exit 0), [], []⟩, ⟨.ret, [(4, .hole .bool)], []⟩] (.seq (.seq .leaf (.cond .leaf .leaf)) (.seq (.block (.seq .leaf (.cond (.seq .leaf .leaf) .leaf))) .leaf))))) (.seq .leaf .leaf))))
noncomputable def G.f13F : List Int × List Int → Option (Bool) :=
  fun (x : List Int × List Int) =>
  if ((↑(List.length x.fst) : Int) != (↑(List.length x.snd) : Int)) = Bool.true then Option.some Bool.false
  else
    Option.bind
      (Go.Sx.iter
        (fun (s1 : Int) =>
          if Decidable.decide (s1 < (↑(List.length x.fst) : Int)) = Bool.true then
            if (0 : Int) ≤ s1 ∧ s1 < (↑(List.length x.fst) : Int) then
              if (0 : Int) ≤ s1 ∧ s1 < (↑(List.length x.snd) : Int) then
                if (List.getD x.fst (Int.toNat s1) (0 : Int) != List.getD x.snd (Int.toNat s1) (0 : Int)) = Bool.true then Option.some (Sum.inr (Sum.inr Bool.false))
                else Option.some (Sum.inl (Go.IntKind.wrap Go.IntKind.i64 (s1 + (1 : Int))))
              else Option.none
            else Option.none
          else Option.some (Sum.inr (Sum.inl ())))
        (0 : Int))
      fun (v1 : PUnit ⊕ Bool) => Sum.elim (fun (p2 : PUnit) => Option.some Bool.true) (fun (q2 : Bool) => Option.some q2) v1
theorem G.f13eq : ∀ x, runFn G.C G.f13Γ G.f13sig G.f13ann Go.Proofs.Tryd.f13 x = G.f13F x := by
  intro x
  kernel_rfl
noncomputable def G.f13con : Con := ⟨13, G.f13sig, G.f13F⟩
theorem G.f13ok : Con.Ok Go.Proofs.Tryd.prog G.C G.f13con :=
  runFn_ok (Γ := G.f13Γ) (an := G.f13ann) ⟨G.Cok, (fun _ h => nomatch h), G.mixed⟩ Go.Proofs.Tryd.func13 rfl rfl (fun x y h => (G.f13eq x).trans h) (by decide)
def G.f49sig : Sig := ⟨⟨[.hole (.int .i64)], []⟩, ⟨[.hole .str], []⟩⟩
noncomputable def G.f49Γ : List Con := []
def G.f49ann : Ann :=
  (.seq .leaf (.seq (.seq (.join [⟨.normal, [(8, .hole .bool)], []⟩] .leaf) (.cond (.seq .leaf .leaf) .leaf)) (.seq .leaf .leaf)))
noncomputable def G.f49F : Int → Option (ByteArray) :=
  fun (x : Int) =>
  Option.bind (if Decidable.decide (x < (0 : Int)) = Bool.true then Option.some Bool.true else Option.some (Decidable.decide (x ≥ (23 : Int)))) fun (v1 : Bool) =>
    if v1 = Bool.true then Option.some { data := #[] : ByteArray }
    else if (0 : Int) ≤ x ∧ x < (↑(23 : Nat) : Int) then Option.some (List.getD Go.Sx.G.words (Int.toNat x) ByteArray.empty) else Option.none
theorem G.f49eq : ∀ x, runFn G.C G.f49Γ G.f49sig G.f49ann Go.Proofs.Tryd.f49 x = G.f49F x := by
  intro x
  kernel_rfl
noncomputable def G.f49con : Con := ⟨49, G.f49sig, G.f49F⟩
theorem G.f49ok : Con.Ok Go.Proofs.Tryd.prog G.C G.f49con :=
  runFn_ok (Γ := G.f49Γ) (an := G.f49ann) ⟨G.Cok, (fun _ h => nomatch h), G.mixed⟩ Go.Proofs.Tryd.func49 rfl rfl (fun x y h => (G.f49eq x).trans h) (by decide)
def G.f39sig : Sig := ⟨⟨[.hole (.int .i64)], []⟩, ⟨[.hole (.int .i64)], []⟩⟩
noncomputable def G.f39Γ : List Con := [G.f49con]
def G.f39ann : Ann :=
  (.seq .leaf (.seq (.block (.seq (.join [⟨.normal, [(3, .hole .bool)], []⟩] .leaf) (.cond (.seq .leaf .leaf) (.seq (.join [⟨.normal, [(10, .hole .bool)], []⟩] .leaf) (.cond (.seq .leaf .leaf) .leaf))))) (.seq .leaf .leaf)))
noncomputable def G.f39F : Int → Option (Int) :=
  fun (x : Int) =>
  Option.bind (if (x == (1 : Int)) = Bool.true then Option.some Bool.true else Option.some (x == (2 : Int))) fun (v1 : Bool) =>
    if v1 = Bool.true then Option.some (1 : Int)
    else
      Option.bind
        (if (x == (0 : Int)) = Bool.true then Option.some Bool.true
        else Option.bind (Go.Sx.G.f49F x) fun (v2 : ByteArray) => Option.some (ByteArray.toList v2 == ByteArray.toList { data := #[] : ByteArray }))
        fun (v2 : Bool) => if v2 = Bool.true then Option.some (0 : Int) else Option.some (-1 : Int)
theorem G.f39eq : ∀ x, runFn G.C G.f39Γ G.f39sig G.f39ann Go.Proofs.Tryd.f39 x = G.f39F x := by
  intro x
  kernel_rfl
noncomputable def G.f39con : Con := ⟨39, G.f39sig, G.f39F⟩
theorem G.f39ok : Con.Ok Go.Proofs.Tryd.prog G.C G.f39con :=
  runFn_ok (Γ := G.f39Γ) (an := G.f39ann) ⟨G.Cok, (List.forall_mem_cons.2 ⟨G.f49ok, (fun _ h => nomatch h)⟩), G.mixed⟩ Go.Proofs.Tryd.func39 rfl rfl (fun x y h => (G.f39eq x).trans h) (by decide)
def G.f34sig : Sig := ⟨⟨[.hole (.sl (.int .i64)), .hole (.sl (.int .i64)), .hole (.int .i64), .hole (.int .i64)], []⟩, ⟨[.hole (.int .i64)], []⟩⟩
noncomputable def G.f34Γ : List Con := [G.f32con, G.f39con]
def G.f34ann : Ann :=
  (.seq .leaf (.seq .leaf (.seq (.seq .leaf (.block (.loop ⟨.normal, [(9, .hole (.int .i64))], []⟩ [⟨(.exit 0), [], []⟩, ⟨.ret, [(8, .hole (.int .i64))], []⟩] (.seq (.seq (.join [⟨.normal, [(26, .hole .bool)], []⟩] .leaf) (.cond .leaf .leaf)) (.seq (.block (.seq (.seq .leaf (.cond (.seq (.seq .leaf (.seq .leaf (.cond (.seq .leaf .leaf) .leaf))) .leaf) .leaf)) (.seq .leaf (.seq .leaf (.cond (.seq .leaf .leaf) .leaf))))) .leaf))))) (.seq .leaf .leaf))))
noncomputable def G.f34F : List Int × List Int × Int × Int → Option (Int) :=
  fun (x : List Int × List Int × Int × Int) =>
  Option.bind
    (Go.Sx.iter
      (fun (s1 : Int) =>
        Option.bind
          (if Decidable.decide (s1 < Go.Sx.minI x.snd.snd.snd (↑(List.length x.fst) : Int)) = Bool.true then
            if (0 : Int) ≤ s1 ∧ s1 < (↑(List.length x.fst) : Int) then Option.some (List.getD x.fst (Int.toNat s1) (0 : Int) != (10 : Int)) else Option.none
          else Option.some Bool.false)
          fun (v2 : Bool) =>
          if v2 = Bool.true then
            if (0 : Int) ≤ s1 ∧ s1 < (↑(List.length x.fst) : Int) then
              Option.bind (Go.Sx.G.f32F (List.getD x.fst (Int.toNat s1) (0 : Int))) fun (v3 : Bool) =>
                if v3 = Bool.true then
                  if (0 : Int) ≤ s1 ∧ s1 < (↑(List.length x.snd.fst) : Int) then
                    if (List.getD x.snd.fst (Int.toNat s1) (0 : Int) == (-1 : Int)) = Bool.true then Option.some (Sum.inr (Sum.inr (-1 : Int)))
                    else Option.some (Sum.inl (Go.IntKind.wrap Go.IntKind.i64 (List.getD x.snd.fst (Int.toNat s1) (0 : Int) + (1 : Int))))
                  else Option.none
                else
                  if (0 : Int) ≤ s1 ∧ s1 < (↑(List.length x.fst) : Int) then
                    Option.bind (Go.Sx.G.f39F (List.getD x.fst (Int.toNat s1) (0 : Int))) fun (v4 : Int) =>
                      if (v4 != (-1 : Int)) = Bool.true then Option.some (Sum.inr (Sum.inr v4)) else Option.some (Sum.inl (Go.IntKind.wrap Go.IntKind.i64 (s1 + (1 : Int))))
                  else Option.none
            else Option.none
          else Option.some (Sum.inr (Sum.inl ())))
      (if x.snd.snd.fst > (0 : Int) then x.snd.snd.fst else (0 : Int)))
    fun (v1 : PUnit ⊕ Int) => Sum.elim (fun (p2 : PUnit) => Option.some (-1 : Int)) (fun (q2 : Int) => Option.some q2) v1
theorem G.f34eq : ∀ x, runFn G.C G.f34Γ G.f34sig G.f34ann Go.Proofs.Tryd.f34 x = G.f34F x := by
  intro x
  kernel_rfl
noncomputable def G.f34con : Con := ⟨34, G.f34sig, G.f34F⟩
theorem G.f34ok : Con.Ok Go.Proofs.Tryd.prog G.C G.f34con :=
  runFn_ok (Γ := G.f34Γ) (an := G.f34ann) ⟨G.Cok, (List.forall_mem_cons.2 ⟨G.f32ok, (List.forall_mem_cons.2 ⟨G.f39ok, (fun _ h => nomatch h)⟩)⟩), G.mixed⟩ Go.Proofs.Tryd.func34 rfl rfl (fun x y h => (G.f34eq x).trans h) (by decide)
def G.f16sig : Sig := ⟨⟨[.hole (.sl (.int .i64)), .hole (.int .i64), .hole (.int .i64)], []⟩, ⟨[.hole (.int .i64)], []⟩⟩
noncomputable def G.f16Γ : List Con := [G.f14con, G.f34con]
def G.f16ann : Ann :=
  (.seq .leaf (.seq .leaf .leaf))
noncomputable def G.f16F : List Int × Int × Int → Option (Int) :=
  fun (x : List Int × Int × Int) => Option.bind (Go.Sx.G.f14F x.1) fun (v1 : List Int) => Option.bind (Go.Sx.G.f34F (x.1, v1, x.snd.1, x.snd.2)) fun (v2 : Int) => Option.some v2
theorem G.f16eq : ∀ x, runFn G.C G.f16Γ G.f16sig G.f16ann Go.Proofs.Tryd.f16 x = G.f16F x := by
  intro x
  kernel_rfl
noncomputable def G.f16con : Con := ⟨16, G.f16sig, G.f16F⟩
theorem G.f16ok : Con.Ok Go.Proofs.Tryd.prog G.C G.f16con :=
  runFn_ok (Γ := G.f16Γ) (an := G.f16ann) ⟨G.Cok, (List.forall_mem_cons.2 ⟨G.f14ok, (List.forall_mem_cons.2 ⟨G.f34ok, (fun _ h => nomatch h)⟩)⟩), G.mixed⟩ Go.Proofs.Tryd.func16 rfl rfl (fun x y h => (G.f16eq x).trans h) (by decide)
def G.f18sig : Sig := ⟨⟨[.hole (.sl (.int .i64)), .hole (.int .i64)], []⟩, ⟨[.hole (.int .i64)], []⟩⟩
noncomputable def G.f18Γ : List Con := [G.f16con]
def G.f18ann : Ann :=
  (.seq .leaf (.seq (.seq (.join [⟨.normal, [(10, .hole .bool)], []⟩] .leaf) (.cond (.seq .leaf .leaf) .leaf)) (.seq .leaf .leaf)))
noncomputable def G.f18F : List Int × Int → Option (Int) :=
  fun (x : List Int × Int) =>
  Option.bind (if (x.snd == (1 : Int)) = Bool.true then Option.some Bool.true else Option.some (x.snd == (2 : Int))) fun (v1 : Bool) =>
    if v1 = Bool.true then Option.some (Go.IntKind.wrap Go.IntKind.i64 (x.snd - (1 : Int)))
    else Option.bind (Go.Sx.G.f16F (x.1, (0 : Int), (↑(List.length x.fst) : Int))) fun (v2 : Int) => Option.some (if v2 > (0 : Int) then v2 else (0 : Int))
theorem G.f18eq : ∀ x, runFn G.C G.f18Γ G.f18sig G.f18ann Go.Proofs.Tryd.f18 x = G.f18F x := by
  intro x
  kernel_rfl
noncomputable def G.f18con : Con := ⟨18, G.f18sig, G.f18F⟩
theorem G.f18ok : Con.Ok Go.Proofs.Tryd.prog G.C G.f18con :=
  runFn_ok (Γ := G.f18Γ) (an := G.f18ann) ⟨G.Cok, (List.forall_mem_cons.2 ⟨G.f16ok, (fun _ h => nomatch h)⟩), G.mixed⟩ Go.Proofs.Tryd.func18 rfl rfl (fun x y h => (G.f18eq x).trans h) (by decide)
def G.f20sig : Sig := ⟨⟨[.hole (.sl (.int .i64)), .hole (.int .i64)], []⟩, ⟨[.hole (.int .i64)], []⟩⟩
noncomputable def G.f20Γ : List Con := [G.f32con, G.f14con, G.f34con]
def G.f20ann : Ann :=
  (.seq .leaf (.seq (.seq (.join [⟨.normal, [(22, .hole .bool)], []⟩] .leaf) (.cond (.seq .leaf .leaf) .leaf)) (.seq (.seq .leaf (.cond (.seq .leaf .leaf) .leaf)) (.seq .leaf (.seq .leaf (.seq (.join [⟨.normal, [(6, .hole (.int .i64))], []⟩] (.seq .leaf (.cond .leaf .leaf))) (.seq .leaf .leaf)))))))
noncomputable def G.f20F : List Int × Int → Option (Int) :=
  fun (x : List Int × Int) =>
  Option.bind
    (if Decidable.decide (x.snd < (0 : Int)) = Bool.true then Option.some Bool.true
    else
      if Decidable.decide (x.snd ≥ (↑(List.length x.fst) : Int)) = Bool.true then Option.some Bool.true
      else
        if (0 : Int) ≤ x.snd ∧ x.snd < (↑(List.length x.fst) : Int) then Option.bind (Go.Sx.G.f32F (List.getD x.fst (Int.toNat x.snd) (0 : Int))) fun (v1 : Bool) => Option.some !v1 else Option.none)
    fun (v1 : Bool) =>
    if v1 = Bool.true then Option.some (-1 : Int)
    else
      if (0 : Int) ≤ x.snd ∧ x.snd < (↑(List.length x.fst) : Int) then
        if (List.getD x.fst (Int.toNat x.snd) (0 : Int) != (21 : Int)) = Bool.true then
          if (0 : Int) ≤ x.snd ∧ x.snd < (↑(List.length x.fst) : Int) then Option.some (Go.IntKind.wrap Go.IntKind.i64 (List.getD x.fst (Int.toNat x.snd) (0 : Int) - (19 : Int))) else Option.none
        else
          Option.bind (Go.Sx.G.f14F x.1) fun (v2 : List Int) =>
            if (0 : Int) ≤ x.snd ∧ x.snd < (↑(List.length v2) : Int) then
              Option.bind
                (if (List.getD v2 (Int.toNat x.snd) (0 : Int) == (-1 : Int)) = Bool.true then Option.some (↑(List.length x.fst) : Int) else Option.some (List.getD v2 (Int.toNat x.snd) (0 : Int)))
                fun (v3 : Int) => Option.bind (Go.Sx.G.f34F (x.1, v2, Go.IntKind.wrap Go.IntKind.i64 (x.snd + (1 : Int)), v3)) fun (v4 : Int) => Option.some (if v4 > (0 : Int) then v4 else (0 : Int))
            else Option.none
      else Option.none
theorem G.f20eq : ∀ x, runFn G.C G.f20Γ G.f20sig G.f20ann Go.Proofs.Tryd.f20 x = G.f20F x := by
  intro x
  kernel_rfl
noncomputable def G.f20con : Con := ⟨20, G.f20sig, G.f20F⟩
theorem G.f20ok : Con.Ok Go.Proofs.Tryd.prog G.C G.f20con :=
  runFn_ok (Γ := G.f20Γ) (an := G.f20ann) ⟨G.Cok, (List.forall_mem_cons.2 ⟨G.f32ok, (List.forall_mem_cons.2 ⟨G.f14ok, (List.forall_mem_cons.2 ⟨G.f34ok, (fun _ h => nomatch h)⟩)⟩)⟩), G.mixed⟩ Go.Proofs.Tryd.func20 rfl rfl (fun x y h => (G.f20eq x).trans h) (by decide)
def G.f12sig : Sig := ⟨⟨[], []⟩, ⟨[.hole .bool], []⟩⟩
noncomputable def G.f12Γ : List Con := [G.f14con, G.f13con, G.f18con, G.f16con, G.f20con]
def G.f12ann : Ann :=
  (.seq .leaf (.seq .leaf (.seq .leaf .leaf)))
noncomputable def G.f12F : PUnit → Option (Bool) :=
  fun (x : PUnit) =>
  Option.bind (Go.Sx.G.f14F [(20 : Int), (1 : Int), (21 : Int), (2 : Int), (22 : Int), (22 : Int), (0 : Int)]) fun (v1 : List Int) =>
    Option.bind (Go.Sx.G.f13F (v1, [(5 : Int), (-1 : Int), (4 : Int), (-1 : Int), (2 : Int), (0 : Int), (-1 : Int)])) fun (v2 : Bool) =>
      if v2 = Bool.true then
        Option.bind (Go.Sx.G.f18F ([(20 : Int), (1 : Int), (21 : Int), (2 : Int), (22 : Int), (22 : Int), (0 : Int)], (0 : Int))) fun (v3 : Int) =>
          if (v3 == (0 : Int)) = Bool.true then
            Option.bind (Go.Sx.G.f16F ([(20 : Int), (1 : Int), (21 : Int), (2 : Int), (22 : Int), (22 : Int), (0 : Int)], (1 : Int), (7 : Int))) fun (v4 : Int) =>
              if (v4 == (1 : Int)) = Bool.true then
                Option.bind (Go.Sx.G.f20F ([(20 : Int), (1 : Int), (21 : Int), (2 : Int), (22 : Int), (22 : Int), (0 : Int)], (2 : Int))) fun (v5 : Int) =>
                  if (v5 == (1 : Int)) = Bool.true then
                    Option.bind (Go.Sx.G.f20F ([(20 : Int), (1 : Int), (21 : Int), (2 : Int), (22 : Int), (22 : Int), (0 : Int)], (1 : Int))) fun (v6 : Int) =>
                      if (v6 == (-1 : Int)) = Bool.true then
                        Option.bind (Go.Sx.G.f18F ([(20 : Int), (1 : Int), (21 : Int), (2 : Int), (22 : Int), (22 : Int), (0 : Int)], (2 : Int))) fun (v7 : Int) =>
                          if (v7 == (1 : Int)) = Bool.true then Option.bind (Go.Sx.G.f16F ([(10 : Int), (1 : Int)], (0 : Int), (2 : Int))) fun (v8 : Int) => Option.some (v8 == (-1 : Int))
                          else Option.some Bool.false
                      else Option.some Bool.false
                  else Option.some Bool.false
              else Option.some Bool.false
          else Option.some Bool.false
      else Option.some Bool.false
theorem G.f12eq : ∀ x, runFn G.C G.f12Γ G.f12sig G.f12ann Go.Proofs.Tryd.f12 x = G.f12F x := by
  intro x
  kernel_rfl
noncomputable def G.f12con : Con := ⟨12, G.f12sig, G.f12F⟩
theorem G.f12ok : Con.Ok Go.Proofs.Tryd.prog G.C G.f12con :=
  runFn_ok (Γ := G.f12Γ) (an := G.f12ann) ⟨G.Cok, (List.forall_mem_cons.2 ⟨G.f14ok, (List.forall_mem_cons.2 ⟨G.f13ok, (List.forall_mem_cons.2 ⟨G.f18ok, (List.forall_mem_cons.2 ⟨G.f16ok, (List.forall_mem_cons.2 ⟨G.f20ok, (fun _ h => nomatch h)⟩)⟩)⟩)⟩)⟩), G.mixed⟩ Go.Proofs.Tryd.func12 rfl rfl (fun x y h => (G.f12eq x).trans h) (by decide)
def G.f22sig : Sig := ⟨⟨[.hole (.int .i64)], []⟩, ⟨[.hole .bool], []⟩⟩
noncomputable def G.f22Γ : List Con := []
def G.f22ann : Ann :=
  (.seq .leaf (.seq .leaf .leaf))
noncomputable def G.f22F : Int → Option (Bool) :=
  fun (x : Int) => if (x == (19 : Int)) = Bool.true then Option.some Bool.true else if (x == (20 : Int)) = Bool.true then Option.some Bool.true else Option.some (x == (21 : Int))
theorem G.f22eq : ∀ x, runFn G.C G.f22Γ G.f22sig G.f22ann Go.Proofs.Tryd.f22 x = G.f22F x := by
  intro x
  kernel_rfl
noncomputable def G.f22con : Con := ⟨22, G.f22sig, G.f22F⟩
theorem G.f22ok : Con.Ok Go.Proofs.Tryd.prog G.C G.f22con :=
  runFn_ok (Γ := G.f22Γ) (an := G.f22ann) ⟨G.Cok, (fun _ h => nomatch h), G.mixed⟩ Go.Proofs.Tryd.func22 rfl rfl (fun x y h => (G.f22eq x).trans h) (by decide)
end Go.Sx
