import Derived.Test.YtjmdfkcgglidaaaDoorSxP
import Derived.Test.YtjmdfkcgglidaaaDoorProg
import Derived.KernelRfl
set_option linter.unusedVariables false
set_option linter.unusedSimpArgs false
namespace Go.Sx
open Go.Proofs

def G.words : List ByteArray := [⟨#[76]⟩, ⟨#[82]⟩, ⟨#[65, 76]⟩, ⟨#[69, 78]⟩, ⟨#[69, 83]⟩, ⟨#[69, 84]⟩, ⟨#[65, 78]⟩, ⟨#[67, 83]⟩, ⟨#[78, 83, 77]⟩, ⟨#[66, 78]⟩, ⟨#[66]⟩, ⟨#[83]⟩, ⟨#[87, 83]⟩, ⟨#[79, 78]⟩, ⟨#[76, 82, 69]⟩, ⟨#[76, 82, 79]⟩, ⟨#[82, 76, 69]⟩, ⟨#[82, 76, 79]⟩, ⟨#[80, 68, 70]⟩, ⟨#[76, 82, 73]⟩, ⟨#[82, 76, 73]⟩, ⟨#[70, 83, 73]⟩, ⟨#[80, 68, 73]⟩]
def G.TT : List (TypeId × TI) := [
  (3, ⟨(.int .i64), 1, 8, some (.int .i64), [.val (.int .i64) (0 : Int)]⟩),
  (4, ⟨.bool, 1, 1, some .bool, [.bit false]⟩),
  (9, ⟨.str, 1, 16, some .str, [.val .str ByteArray.empty]⟩),
  (22, ⟨(.slice 3), 1, 24, some (.sl (.int .i64)), [.nils]⟩),
  (23, ⟨(.array 3 3), 3, 24, some (.arr 3 (.int .i64)), [.val (.int .i64) (0 : Int), .val (.int .i64) (0 : Int), .val (.int .i64) (0 : Int)]⟩),
  (33, ⟨(.int .u16), 1, 2, some (.int .u16), [.val (.int .u16) (0 : Int)]⟩),
  (34, ⟨(.array 3 33), 3, 6, some (.arr 3 (.int .u16)), [.val (.int .u16) (0 : Int), .val (.int .u16) (0 : Int), .val (.int .u16) (0 : Int)]⟩),
  (57, ⟨(.slice 9), 1, 24, some (.sl .str), [.nils]⟩),
  (59, ⟨(.int .u64), 1, 8, some (.int .u64), [.val (.int .u64) (0 : Int)]⟩),
  (72, ⟨(.array 23 9), 23, 368, some (.arr 23 .str), [.val .str ByteArray.empty, .val .str ByteArray.empty, .val .str ByteArray.empty, .val .str ByteArray.empty, .val .str ByteArray.empty, .val .str ByteArray.empty, .val .str ByteArray.empty, .val .str ByteArray.empty, .val .str ByteArray.empty, .val .str ByteArray.empty, .val .str ByteArray.empty, .val .str ByteArray.empty, .val .str ByteArray.empty, .val .str ByteArray.empty, .val .str ByteArray.empty, .val .str ByteArray.empty, .val .str ByteArray.empty, .val .str ByteArray.empty, .val .str ByteArray.empty, .val .str ByteArray.empty, .val .str ByteArray.empty, .val .str ByteArray.empty, .val .str ByteArray.empty]⟩)]
noncomputable def G.C : Ctx := ⟨G.TT, [(0, ⟨.arr 23 .str, G.words⟩)]⟩
theorem G.Cok : G.C.ok Go.Proofs.Tryd.prog := checkTT_ok (by kernel_rfl)
theorem G.mixed : Go.Proofs.Tryd.prog.follows .mixedOrders = true := by kernel_rfl
def G.f38sig : Sig := ⟨⟨[.hole (.sl (.int .i64))], []⟩, ⟨[.hole (.int .u64)], []⟩⟩
noncomputable def G.f38Γ : List Con := []
def G.f38ann : Ann :=
  (.seq .leaf (.seq (.seq .leaf (.block (.loop ⟨.normal, [(2, .hole (.int .u64)), (7, .hole (.int .i64))], []⟩ [⟨(.exit 0), [(2, .hole (.int .u64))], []⟩] (.seq .leaf (.seq (.cond .leaf .leaf) (.seq (.block (.seq .leaf .leaf)) .leaf)))))) (.seq .leaf .leaf)))
/- ductus/class.set -/
noncomputable def G.f38F : List Int → Option (Int) :=
  fun (x : List Int) =>
  Option.bind
    (Go.Sx.iter
      (fun (s1 : Int × Int) =>
        if Decidable.decide (s1.snd < (↑(List.length x) : Int)) = Bool.true then
          if (0 : Int) ≤ s1.snd ∧ s1.snd < (↑(List.length x) : Int) then
            if List.getD x (Int.toNat s1.snd) (0 : Int) < (0 : Int) then Option.none
            else
              Option.some
                (Sum.inl
                  (Go.IntKind.wrap Go.IntKind.u64
                      (↑(BitVec.toNat
                            (BitVec.ofInt (Go.IntKind.bits Go.IntKind.u64) s1.fst |||
                              BitVec.ofInt (Go.IntKind.bits Go.IntKind.u64)
                                (Go.IntKind.wrap Go.IntKind.u64 ((1 : Int) * (2 : Int) ^ Min.min (Int.toNat (List.getD x (Int.toNat s1.snd) (0 : Int))) (Go.IntKind.bits Go.IntKind.u64))))) :
                        Int),
                    Go.IntKind.wrap Go.IntKind.i64 (s1.snd + (1 : Int))))
          else Option.none
        else Option.some (Sum.inr s1.1))
      ((0 : Int), (0 : Int)))
    fun (v1 : Int) => Option.some v1
theorem G.f38eq : ∀ x, runFn G.C G.f38Γ G.f38sig G.f38ann Go.Proofs.Tryd.f38 x = G.f38F x := by
  intro x
  kernel_rfl
noncomputable def G.f38con : Con := ⟨38, G.f38sig, G.f38F⟩
theorem G.f38ok : Con.Ok Go.Proofs.Tryd.prog G.C G.f38con :=
  runFn_ok (Γ := G.f38Γ) (an := G.f38ann) ⟨G.Cok, (fun _ h => nomatch h), G.mixed⟩ Go.Proofs.Tryd.func38 rfl rfl (fun x y h => (G.f38eq x).trans h) (by decide)
def G.f37sig : Sig := ⟨⟨[.hole (.int .i64), .hole (.int .u64)], []⟩, ⟨[.hole .bool], []⟩⟩
noncomputable def G.f37Γ : List Con := []
def G.f37ann : Ann :=
  (.seq .leaf (.seq .leaf .leaf))
/- ductus/class.in -/
noncomputable def G.f37F : Int × Int → Option (Bool) :=
  fun (x : Int × Int) =>
  if Decidable.decide (x.fst ≥ (0 : Int)) = Bool.true then
    if Decidable.decide (x.fst ≤ (22 : Int)) = Bool.true then
      if x.fst < (0 : Int) then Option.none
      else
        Option.some
          (Go.IntKind.wrap Go.IntKind.u64
              (↑(BitVec.toNat
                    (BitVec.ofInt (Go.IntKind.bits Go.IntKind.u64) (Int.fdiv x.snd ((2 : Int) ^ Min.min (Int.toNat x.fst) (Go.IntKind.bits Go.IntKind.u64))) &&&
                      BitVec.ofInt (Go.IntKind.bits Go.IntKind.u64) (1 : Int))) :
                Int) ==
            (1 : Int))
    else Option.some Bool.false
  else Option.some Bool.false
theorem G.f37eq : ∀ x, runFn G.C G.f37Γ G.f37sig G.f37ann Go.Proofs.Tryd.f37 x = G.f37F x := by
  intro x
  kernel_rfl
noncomputable def G.f37con : Con := ⟨37, G.f37sig, G.f37F⟩
theorem G.f37ok : Con.Ok Go.Proofs.Tryd.prog G.C G.f37con :=
  runFn_ok (Γ := G.f37Γ) (an := G.f37ann) ⟨G.Cok, (fun _ h => nomatch h), G.mixed⟩ Go.Proofs.Tryd.func37 rfl rfl (fun x y h => (G.f37eq x).trans h) (by decide)
def G.f32sig : Sig := ⟨⟨[.hole (.int .i64)], []⟩, ⟨[.hole .bool], []⟩⟩
noncomputable def G.f32Γ : List Con := [G.f38con, G.f37con]
def G.f32ann : Ann :=
  (.seq .leaf (.seq .leaf .leaf))
/- ductus/class.Opens -/
noncomputable def G.f32F : Int → Option (Bool) :=
  fun (x : Int) => Option.bind (Go.Sx.G.f38F [(19 : Int), (20 : Int), (21 : Int)]) fun (v1 : Int) => Option.bind (Go.Sx.G.f37F (x, v1)) fun (v2 : Bool) => Option.some v2
theorem G.f32eq : ∀ x, runFn G.C G.f32Γ G.f32sig G.f32ann Go.Proofs.Tryd.f32 x = G.f32F x := by
  intro x
  kernel_rfl
noncomputable def G.f32con : Con := ⟨32, G.f32sig, G.f32F⟩
theorem G.f32ok : Con.Ok Go.Proofs.Tryd.prog G.C G.f32con :=
  runFn_ok (Γ := G.f32Γ) (an := G.f32ann) ⟨G.Cok, (List.forall_mem_cons.2 ⟨G.f38ok, (List.forall_mem_cons.2 ⟨G.f37ok, (fun _ h => nomatch h)⟩)⟩), G.mixed⟩ Go.Proofs.Tryd.func32 rfl rfl (fun x y h => (G.f32eq x).trans h) (by decide)
def G.f14sig : Sig := ⟨⟨[.hole (.sl (.int .i64))], []⟩, ⟨[.hole (.sl (.int .i64))], []⟩⟩
noncomputable def G.f14Γ : List Con := [G.f32con]
def G.f14ann : Ann :=
  (.seq .leaf (.seq .leaf (.seq .leaf (.seq (.seq .leaf (.block (.loop ⟨.normal, [(4, .own 1), (13, .hole (.int .i64))], [.arr 3 (.int .i64), .arr 3 (.int .i64)]⟩ [⟨(.exit 0), [], [.arr 3 (.int .i64)]⟩] (.seq .leaf (.seq (.cond .leaf .leaf) (.seq (.block (.seq .leaf (.seq .leaf (.block (.seq .leaf (.cond .leaf (.seq .leaf (.cond .leaf (.seq (.join [⟨.normal, [(31, .hole .bool)], [.arr 3 (.int .i64), .arr 3 (.int .i64)]⟩] .leaf) (.cond (.seq .leaf (.seq .leaf .leaf)) .leaf)))))))))) .leaf)))))) (.seq .leaf .leaf)))))
/- ductus/base.Match -/
noncomputable def G.f14F : List Int → Option (List Int) :=
  fun (x : List Int) =>
  if
      (0 : Int) ≤ (↑(List.length x) : Int) ∧
        (↑(List.length x) : Int) ≤ (↑(List.length x) : Int) ∧
          Go.Sx.roomOk (Int.toNat (↑(List.length x) : Int))
            { kind := Go.Sx.TK.int Go.IntKind.i64, size := (1 : Nat), bytes := (8 : Nat), ty := Option.some (Go.Sx.Ty.int Go.IntKind.i64),
                zero := [Go.Sx.SV.val (Go.Sx.Ty.int Go.IntKind.i64) (0 : Int)] : Go.Sx.TI }.bytes then
    Option.bind
      (Go.Sx.iter
        (fun (s1 : Int × List Int × List Int) =>
          if Decidable.decide (s1.fst < (↑(List.length x) : Int)) = Bool.true then
            if (0 : Int) ≤ s1.fst ∧ s1.fst < (↑(List.length x) : Int) then
              if (0 : Int) ≤ s1.fst ∧ s1.fst < (↑(List.length s1.snd.fst) : Int) then
                if (List.getD x (Int.toNat s1.fst) (0 : Int) == (10 : Int)) = Bool.true then
                  Option.some (Sum.inl (Go.IntKind.wrap Go.IntKind.i64 (s1.fst + (1 : Int)), List.set s1.snd.1 (Int.toNat s1.fst) (-1 : Int), []))
                else
                  Option.bind (Go.Sx.G.f32F (List.getD x (Int.toNat s1.fst) (0 : Int))) fun (v2 : Bool) =>
                    if v2 = Bool.true then
                      if
                          Go.Sx.roomOk (List.length s1.snd.snd + List.length [s1.1])
                            { kind := Go.Sx.TK.int Go.IntKind.i64, size := (1 : Nat), bytes := (8 : Nat), ty := Option.some (Go.Sx.Ty.int Go.IntKind.i64),
                                zero := [Go.Sx.SV.val (Go.Sx.Ty.int Go.IntKind.i64) (0 : Int)] : Go.Sx.TI }.bytes then
                        Option.some (Sum.inl (Go.IntKind.wrap Go.IntKind.i64 (s1.fst + (1 : Int)), List.set s1.snd.1 (Int.toNat s1.fst) (-1 : Int), s1.snd.2 ++ [s1.1]))
                      else Option.none
                    else
                      Option.bind
                        (if (List.getD x (Int.toNat s1.fst) (0 : Int) == (22 : Int)) = Bool.true then
                          Option.some (Decidable.decide ((↑(List.length s1.snd.snd) : Int) > (0 : Int)), List.set s1.snd.1 (Int.toNat s1.fst) (-1 : Int), s1.snd.2)
                        else Option.some (Bool.false, List.set s1.snd.1 (Int.toNat s1.fst) (-1 : Int), s1.snd.2))
                        fun (v3 : Bool × List Int × List Int) =>
                        if v3.fst = Bool.true then
                          if
                              (0 : Int) ≤ Go.IntKind.wrap Go.IntKind.i64 ((↑(List.length v3.snd.snd) : Int) - (1 : Int)) ∧
                                Go.IntKind.wrap Go.IntKind.i64 ((↑(List.length v3.snd.snd) : Int) - (1 : Int)) < (↑(List.length v3.snd.snd) : Int) then
                            if
                                (0 : Int) ≤ Go.IntKind.wrap Go.IntKind.i64 ((↑(List.length v3.snd.snd) : Int) - (1 : Int)) ∧
                                  Go.IntKind.wrap Go.IntKind.i64 ((↑(List.length v3.snd.snd) : Int) - (1 : Int)) ≤ (↑(List.length v3.snd.snd) : Int) then
                              if (0 : Int) ≤ s1.fst ∧ s1.fst < (↑(List.length v3.snd.fst) : Int) then
                                if
                                    (0 : Int) ≤ List.getD v3.snd.2 (Int.toNat (Go.IntKind.wrap Go.IntKind.i64 ((↑(List.length v3.snd.snd) : Int) - (1 : Int)))) (0 : Int) ∧
                                      List.getD v3.snd.2 (Int.toNat (Go.IntKind.wrap Go.IntKind.i64 ((↑(List.length v3.snd.snd) : Int) - (1 : Int)))) (0 : Int) <
                                        (↑(List.length
                                              (List.set v3.snd.1 (Int.toNat s1.fst)
                                                (List.getD v3.snd.2 (Int.toNat (Go.IntKind.wrap Go.IntKind.i64 ((↑(List.length v3.snd.snd) : Int) - (1 : Int)))) (0 : Int)))) :
                                          Int) then
                                  Option.some
                                    (Sum.inl
                                      (Go.IntKind.wrap Go.IntKind.i64 (s1.fst + (1 : Int)),
                                        List.set
                                          (List.set v3.snd.1 (Int.toNat s1.fst)
                                            (List.getD v3.snd.2 (Int.toNat (Go.IntKind.wrap Go.IntKind.i64 ((↑(List.length v3.snd.snd) : Int) - (1 : Int)))) (0 : Int)))
                                          (Int.toNat (List.getD v3.snd.2 (Int.toNat (Go.IntKind.wrap Go.IntKind.i64 ((↑(List.length v3.snd.snd) : Int) - (1 : Int)))) (0 : Int))) s1.1,
                                        List.take (Int.toNat (Go.IntKind.wrap Go.IntKind.i64 ((↑(List.length v3.snd.snd) : Int) - (1 : Int)))) v3.snd.2))
                                else Option.none
                              else Option.none
                            else Option.none
                          else Option.none
                        else Option.some (Sum.inl (Go.IntKind.wrap Go.IntKind.i64 (s1.fst + (1 : Int)), v3.snd.1, v3.snd.2))
              else Option.none
            else Option.none
          else Option.some (Sum.inr s1.snd.1))
        ((0 : Int), List.replicate (Int.toNat (↑(List.length x) : Int)) (0 : Int), []))
      fun (v1 : List Int) => Option.some v1
  else Option.none
theorem G.f14eq : ∀ x, runFn G.C G.f14Γ G.f14sig G.f14ann Go.Proofs.Tryd.f14 x = G.f14F x := by
  intro x
  kernel_rfl
noncomputable def G.f14con : Con := ⟨14, G.f14sig, G.f14F⟩
theorem G.f14ok : Con.Ok Go.Proofs.Tryd.prog G.C G.f14con :=
  runFn_ok (Γ := G.f14Γ) (an := G.f14ann) ⟨G.Cok, (List.forall_mem_cons.2 ⟨G.f32ok, (fun _ h => nomatch h)⟩), G.mixed⟩ Go.Proofs.Tryd.func14 rfl rfl (fun x y h => (G.f14eq x).trans h) (by decide)
def G.f13sig : Sig := ⟨⟨[.hole (.sl (.int .i64)), .hole (.sl (.int .i64))], []⟩, ⟨[.hole .bool], []⟩⟩
noncomputable def G.f13Γ : List Con := []
def G.f13ann : Ann :=
  (.seq .leaf (.seq (.seq .leaf (.cond (.seq .leaf .leaf) .leaf)) (.seq (.seq .leaf (.block (.loop ⟨.normal, [(5, .hole (.int .i64))], []⟩ [⟨(.exit 0), [], []⟩, ⟨.ret, [(4, .hole .bool)], []⟩] (.seq (.seq .leaf (.cond .leaf .leaf)) (.seq (.block (.seq .leaf (.cond (.seq .leaf .leaf) .leaf))) .leaf))))) (.seq .leaf .leaf))))
/- ductus/ductusref01.Ints -/
noncomputable def G.f13F : List Int × List Int → Option (Bool) :=
  fun (x : List Int × List Int) =>
  if ((↑(List.length x.fst) : Int) != (↑(List.length x.snd) : Int)) = Bool.true then Option.some Bool.false
  else
    Option.bind
      (Go.Sx.iter
        (fun (s1 : Int) =>
          if Decidable.decide (s1 < (↑(List.length x.fst) : Int)) = Bool.true then
            if (0 : Int) ≤ s1 ∧ s1 < (↑(List.length x.fst) : Int) then
              if (0 : Int) ≤ s1 ∧ s1 < (↑(List.length x.snd) : Int) then
                if (List.getD x.fst (Int.toNat s1) (0 : Int) != List.getD x.snd (Int.toNat s1) (0 : Int)) = Bool.true then Option.some (Sum.inr (Sum.inr Bool.false))
                else Option.some (Sum.inl (Go.IntKind.wrap Go.IntKind.i64 (s1 + (1 : Int))))
              else Option.none
            else Option.none
          else Option.some (Sum.inr (Sum.inl ())))
        (0 : Int))
      fun (v1 : PUnit ⊕ Bool) => Sum.elim (fun (p2 : PUnit) => Option.some Bool.true) (fun (q2 : Bool) => Option.some q2) v1
theorem G.f13eq : ∀ x, runFn G.C G.f13Γ G.f13sig G.f13ann Go.Proofs.Tryd.f13 x = G.f13F x := by
  intro x
  kernel_rfl
noncomputable def G.f13con : Con := ⟨13, G.f13sig, G.f13F⟩
theorem G.f13ok : Con.Ok Go.Proofs.Tryd.prog G.C G.f13con :=
  runFn_ok (Γ := G.f13Γ) (an := G.f13ann) ⟨G.Cok, (fun _ h => nomatch h), G.mixed⟩ Go.Proofs.Tryd.func13 rfl rfl (fun x y h => (G.f13eq x).trans h) (by decide)
def G.f49sig : Sig := ⟨⟨[.hole (.int .i64)], []⟩, ⟨[.hole .str], []⟩⟩
noncomputable def G.f49Γ : List Con := []
def G.f49ann : Ann :=
  (.seq .leaf (.seq (.seq (.join [⟨.normal, [(8, .hole .bool)], []⟩] .leaf) (.cond (.seq .leaf .leaf) .leaf)) (.seq .leaf .leaf)))
/- ductus/class.Word -/
noncomputable def G.f49F : Int → Option (ByteArray) :=
  fun (x : Int) =>
  Option.bind (if Decidable.decide (x < (0 : Int)) = Bool.true then Option.some Bool.true else Option.some (Decidable.decide (x ≥ (23 : Int)))) fun (v1 : Bool) =>
    if v1 = Bool.true then Option.some { data := #[] : ByteArray }
    else if (0 : Int) ≤ x ∧ x < (↑(23 : Nat) : Int) then Option.some (List.getD Go.Sx.G.words (Int.toNat x) ByteArray.empty) else Option.none
theorem G.f49eq : ∀ x, runFn G.C G.f49Γ G.f49sig G.f49ann Go.Proofs.Tryd.f49 x = G.f49F x := by
  intro x
  kernel_rfl
noncomputable def G.f49con : Con := ⟨49, G.f49sig, G.f49F⟩
theorem G.f49ok : Con.Ok Go.Proofs.Tryd.prog G.C G.f49con :=
  runFn_ok (Γ := G.f49Γ) (an := G.f49ann) ⟨G.Cok, (fun _ h => nomatch h), G.mixed⟩ Go.Proofs.Tryd.func49 rfl rfl (fun x y h => (G.f49eq x).trans h) (by decide)
def G.f39sig : Sig := ⟨⟨[.hole (.int .i64)], []⟩, ⟨[.hole (.int .i64)], []⟩⟩
noncomputable def G.f39Γ : List Con := [G.f49con]
def G.f39ann : Ann :=
  (.seq .leaf (.seq (.block (.seq (.join [⟨.normal, [(3, .hole .bool)], []⟩] .leaf) (.cond (.seq .leaf .leaf) (.seq (.join [⟨.normal, [(10, .hole .bool)], []⟩] .leaf) (.cond (.seq .leaf .leaf) .leaf))))) (.seq .leaf .leaf)))
/- ductus/base.strong -/
noncomputable def G.f39F : Int → Option (Int) :=
  fun (x : Int) =>
  Option.bind (if (x == (1 : Int)) = Bool.true then Option.some Bool.true else Option.some (x == (2 : Int))) fun (v1 : Bool) =>
    if v1 = Bool.true then Option.some (1 : Int)
    else
      Option.bind
        (if (x == (0 : Int)) = Bool.true then Option.some Bool.true
        else Option.bind (Go.Sx.G.f49F x) fun (v2 : ByteArray) => Option.some (ByteArray.toList v2 == ByteArray.toList { data := #[] : ByteArray }))
        fun (v2 : Bool) => if v2 = Bool.true then Option.some (0 : Int) else Option.some (-1 : Int)
theorem G.f39eq : ∀ x, runFn G.C G.f39Γ G.f39sig G.f39ann Go.Proofs.Tryd.f39 x = G.f39F x := by
  intro x
  kernel_rfl
noncomputable def G.f39con : Con := ⟨39, G.f39sig, G.f39F⟩
theorem G.f39ok : Con.Ok Go.Proofs.Tryd.prog G.C G.f39con :=
  runFn_ok (Γ := G.f39Γ) (an := G.f39ann) ⟨G.Cok, (List.forall_mem_cons.2 ⟨G.f49ok, (fun _ h => nomatch h)⟩), G.mixed⟩ Go.Proofs.Tryd.func39 rfl rfl (fun x y h => (G.f39eq x).trans h) (by decide)
def G.f34sig : Sig := ⟨⟨[.hole (.sl (.int .i64)), .hole (.sl (.int .i64)), .hole (.int .i64), .hole (.int .i64)], []⟩, ⟨[.hole (.int .i64)], []⟩⟩
noncomputable def G.f34Γ : List Con := [G.f32con, G.f39con]
def G.f34ann : Ann :=
  (.seq .leaf (.seq .leaf (.seq (.seq .leaf (.block (.loop ⟨.normal, [(9, .hole (.int .i64))], []⟩ [⟨(.exit 0), [], []⟩, ⟨.ret, [(8, .hole (.int .i64))], []⟩] (.seq (.seq (.join [⟨.normal, [(26, .hole .bool)], []⟩] .leaf) (.cond .leaf .leaf)) (.seq (.block (.seq (.seq .leaf (.cond (.seq (.seq .leaf (.seq .leaf (.cond (.seq .leaf .leaf) .leaf))) .leaf) .leaf)) (.seq .leaf (.seq .leaf (.cond (.seq .leaf .leaf) .leaf))))) .leaf))))) (.seq .leaf .leaf))))
/- ductus/base.first -/
noncomputable def G.f34F : List Int × List Int × Int × Int → Option (Int) :=
  fun (x : List Int × List Int × Int × Int) =>
  Option.bind
    (Go.Sx.iter
      (fun (s1 : Int) =>
        Option.bind
          (if Decidable.decide (s1 < Go.Sx.minI x.snd.snd.snd (↑(List.length x.fst) : Int)) = Bool.true then
            if (0 : Int) ≤ s1 ∧ s1 < (↑(List.length x.fst) : Int) then Option.some (List.getD x.fst (Int.toNat s1) (0 : Int) != (10 : Int)) else Option.none
          else Option.some Bool.false)
          fun (v2 : Bool) =>
          if v2 = Bool.true then
            if (0 : Int) ≤ s1 ∧ s1 < (↑(List.length x.fst) : Int) then
              Option.bind (Go.Sx.G.f32F (List.getD x.fst (Int.toNat s1) (0 : Int))) fun (v3 : Bool) =>
                if v3 = Bool.true then
                  if (0 : Int) ≤ s1 ∧ s1 < (↑(List.length x.snd.fst) : Int) then
                    if (List.getD x.snd.fst (Int.toNat s1) (0 : Int) == (-1 : Int)) = Bool.true then Option.some (Sum.inr (Sum.inr (-1 : Int)))
                    else Option.some (Sum.inl (Go.IntKind.wrap Go.IntKind.i64 (List.getD x.snd.fst (Int.toNat s1) (0 : Int) + (1 : Int))))
                  else Option.none
                else
                  if (0 : Int) ≤ s1 ∧ s1 < (↑(List.length x.fst) : Int) then
                    Option.bind (Go.Sx.G.f39F (List.getD x.fst (Int.toNat s1) (0 : Int))) fun (v4 : Int) =>
                      if (v4 != (-1 : Int)) = Bool.true then Option.some (Sum.inr (Sum.inr v4)) else Option.some (Sum.inl (Go.IntKind.wrap Go.IntKind.i64 (s1 + (1 : Int))))
                  else Option.none
            else Option.none
          else Option.some (Sum.inr (Sum.inl ())))
      (if x.snd.snd.fst > (0 : Int) then x.snd.snd.fst else (0 : Int)))
    fun (v1 : PUnit ⊕ Int) => Sum.elim (fun (p2 : PUnit) => Option.some (-1 : Int)) (fun (q2 : Int) => Option.some q2) v1
theorem G.f34eq : ∀ x, runFn G.C G.f34Γ G.f34sig G.f34ann Go.Proofs.Tryd.f34 x = G.f34F x := by
  intro x
  kernel_rfl
noncomputable def G.f34con : Con := ⟨34, G.f34sig, G.f34F⟩
theorem G.f34ok : Con.Ok Go.Proofs.Tryd.prog G.C G.f34con :=
  runFn_ok (Γ := G.f34Γ) (an := G.f34ann) ⟨G.Cok, (List.forall_mem_cons.2 ⟨G.f32ok, (List.forall_mem_cons.2 ⟨G.f39ok, (fun _ h => nomatch h)⟩)⟩), G.mixed⟩ Go.Proofs.Tryd.func34 rfl rfl (fun x y h => (G.f34eq x).trans h) (by decide)
def G.f16sig : Sig := ⟨⟨[.hole (.sl (.int .i64)), .hole (.int .i64), .hole (.int .i64)], []⟩, ⟨[.hole (.int .i64)], []⟩⟩
noncomputable def G.f16Γ : List Con := [G.f14con, G.f34con]
def G.f16ann : Ann :=
  (.seq .leaf (.seq .leaf .leaf))
/- ductus/base.First -/
noncomputable def G.f16F : List Int × Int × Int → Option (Int) :=
  fun (x : List Int × Int × Int) => Option.bind (Go.Sx.G.f14F x.1) fun (v1 : List Int) => Option.bind (Go.Sx.G.f34F (x.1, v1, x.snd.1, x.snd.2)) fun (v2 : Int) => Option.some v2
theorem G.f16eq : ∀ x, runFn G.C G.f16Γ G.f16sig G.f16ann Go.Proofs.Tryd.f16 x = G.f16F x := by
  intro x
  kernel_rfl
noncomputable def G.f16con : Con := ⟨16, G.f16sig, G.f16F⟩
theorem G.f16ok : Con.Ok Go.Proofs.Tryd.prog G.C G.f16con :=
  runFn_ok (Γ := G.f16Γ) (an := G.f16ann) ⟨G.Cok, (List.forall_mem_cons.2 ⟨G.f14ok, (List.forall_mem_cons.2 ⟨G.f34ok, (fun _ h => nomatch h)⟩)⟩), G.mixed⟩ Go.Proofs.Tryd.func16 rfl rfl (fun x y h => (G.f16eq x).trans h) (by decide)
def G.f18sig : Sig := ⟨⟨[.hole (.sl (.int .i64)), .hole (.int .i64)], []⟩, ⟨[.hole (.int .i64)], []⟩⟩
noncomputable def G.f18Γ : List Con := [G.f16con]
def G.f18ann : Ann :=
  (.seq .leaf (.seq (.seq (.join [⟨.normal, [(10, .hole .bool)], []⟩] .leaf) (.cond (.seq .leaf .leaf) .leaf)) (.seq .leaf .leaf)))
/- ductus/base.Level -/
noncomputable def G.f18F : List Int × Int → Option (Int) :=
  fun (x : List Int × Int) =>
  Option.bind (if (x.snd == (1 : Int)) = Bool.true then Option.some Bool.true else Option.some (x.snd == (2 : Int))) fun (v1 : Bool) =>
    if v1 = Bool.true then Option.some (Go.IntKind.wrap Go.IntKind.i64 (x.snd - (1 : Int)))
    else Option.bind (Go.Sx.G.f16F (x.1, (0 : Int), (↑(List.length x.fst) : Int))) fun (v2 : Int) => Option.some (if v2 > (0 : Int) then v2 else (0 : Int))
theorem G.f18eq : ∀ x, runFn G.C G.f18Γ G.f18sig G.f18ann Go.Proofs.Tryd.f18 x = G.f18F x := by
  intro x
  kernel_rfl
noncomputable def G.f18con : Con := ⟨18, G.f18sig, G.f18F⟩
theorem G.f18ok : Con.Ok Go.Proofs.Tryd.prog G.C G.f18con :=
  runFn_ok (Γ := G.f18Γ) (an := G.f18ann) ⟨G.Cok, (List.forall_mem_cons.2 ⟨G.f16ok, (fun _ h => nomatch h)⟩), G.mixed⟩ Go.Proofs.Tryd.func18 rfl rfl (fun x y h => (G.f18eq x).trans h) (by decide)
def G.f20sig : Sig := ⟨⟨[.hole (.sl (.int .i64)), .hole (.int .i64)], []⟩, ⟨[.hole (.int .i64)], []⟩⟩
noncomputable def G.f20Γ : List Con := [G.f32con, G.f14con, G.f34con]
def G.f20ann : Ann :=
  (.seq .leaf (.seq (.seq (.join [⟨.normal, [(22, .hole .bool)], []⟩] .leaf) (.cond (.seq .leaf .leaf) .leaf)) (.seq (.seq .leaf (.cond (.seq .leaf .leaf) .leaf)) (.seq .leaf (.seq .leaf (.seq (.join [⟨.normal, [(6, .hole (.int .i64))], []⟩] (.seq .leaf (.cond .leaf .leaf))) (.seq .leaf .leaf)))))))
/- ductus/base.Isolate -/
noncomputable def G.f20F : List Int × Int → Option (Int) :=
  fun (x : List Int × Int) =>
  Option.bind
    (if Decidable.decide (x.snd < (0 : Int)) = Bool.true then Option.some Bool.true
    else
      if Decidable.decide (x.snd ≥ (↑(List.length x.fst) : Int)) = Bool.true then Option.some Bool.true
      else
        if (0 : Int) ≤ x.snd ∧ x.snd < (↑(List.length x.fst) : Int) then Option.bind (Go.Sx.G.f32F (List.getD x.fst (Int.toNat x.snd) (0 : Int))) fun (v1 : Bool) => Option.some !v1 else Option.none)
    fun (v1 : Bool) =>
    if v1 = Bool.true then Option.some (-1 : Int)
    else
      if (0 : Int) ≤ x.snd ∧ x.snd < (↑(List.length x.fst) : Int) then
        if (List.getD x.fst (Int.toNat x.snd) (0 : Int) != (21 : Int)) = Bool.true then
          if (0 : Int) ≤ x.snd ∧ x.snd < (↑(List.length x.fst) : Int) then Option.some (Go.IntKind.wrap Go.IntKind.i64 (List.getD x.fst (Int.toNat x.snd) (0 : Int) - (19 : Int))) else Option.none
        else
          Option.bind (Go.Sx.G.f14F x.1) fun (v2 : List Int) =>
            if (0 : Int) ≤ x.snd ∧ x.snd < (↑(List.length v2) : Int) then
              Option.bind
                (if (List.getD v2 (Int.toNat x.snd) (0 : Int) == (-1 : Int)) = Bool.true then Option.some (↑(List.length x.fst) : Int) else Option.some (List.getD v2 (Int.toNat x.snd) (0 : Int)))
                fun (v3 : Int) => Option.bind (Go.Sx.G.f34F (x.1, v2, Go.IntKind.wrap Go.IntKind.i64 (x.snd + (1 : Int)), v3)) fun (v4 : Int) => Option.some (if v4 > (0 : Int) then v4 else (0 : Int))
            else Option.none
      else Option.none
theorem G.f20eq : ∀ x, runFn G.C G.f20Γ G.f20sig G.f20ann Go.Proofs.Tryd.f20 x = G.f20F x := by
  intro x
  kernel_rfl
noncomputable def G.f20con : Con := ⟨20, G.f20sig, G.f20F⟩
theorem G.f20ok : Con.Ok Go.Proofs.Tryd.prog G.C G.f20con :=
  runFn_ok (Γ := G.f20Γ) (an := G.f20ann) ⟨G.Cok, (List.forall_mem_cons.2 ⟨G.f32ok, (List.forall_mem_cons.2 ⟨G.f14ok, (List.forall_mem_cons.2 ⟨G.f34ok, (fun _ h => nomatch h)⟩)⟩)⟩), G.mixed⟩ Go.Proofs.Tryd.func20 rfl rfl (fun x y h => (G.f20eq x).trans h) (by decide)
def G.f12sig : Sig := ⟨⟨[], []⟩, ⟨[.hole .bool], []⟩⟩
noncomputable def G.f12Γ : List Con := [G.f14con, G.f13con, G.f18con, G.f16con, G.f20con]
def G.f12ann : Ann :=
  (.seq .leaf (.seq .leaf (.seq .leaf .leaf)))
/- ductus/ductuslaw05.alive -/
noncomputable def G.f12F : PUnit → Option (Bool) :=
  fun (x : PUnit) =>
  Option.bind (Go.Sx.G.f14F [(20 : Int), (1 : Int), (21 : Int), (2 : Int), (22 : Int), (22 : Int), (0 : Int)]) fun (v1 : List Int) =>
    Option.bind (Go.Sx.G.f13F (v1, [(5 : Int), (-1 : Int), (4 : Int), (-1 : Int), (2 : Int), (0 : Int), (-1 : Int)])) fun (v2 : Bool) =>
      if v2 = Bool.true then
        Option.bind (Go.Sx.G.f18F ([(20 : Int), (1 : Int), (21 : Int), (2 : Int), (22 : Int), (22 : Int), (0 : Int)], (0 : Int))) fun (v3 : Int) =>
          if (v3 == (0 : Int)) = Bool.true then
            Option.bind (Go.Sx.G.f16F ([(20 : Int), (1 : Int), (21 : Int), (2 : Int), (22 : Int), (22 : Int), (0 : Int)], (1 : Int), (7 : Int))) fun (v4 : Int) =>
              if (v4 == (1 : Int)) = Bool.true then
                Option.bind (Go.Sx.G.f20F ([(20 : Int), (1 : Int), (21 : Int), (2 : Int), (22 : Int), (22 : Int), (0 : Int)], (2 : Int))) fun (v5 : Int) =>
                  if (v5 == (1 : Int)) = Bool.true then
                    Option.bind (Go.Sx.G.f20F ([(20 : Int), (1 : Int), (21 : Int), (2 : Int), (22 : Int), (22 : Int), (0 : Int)], (1 : Int))) fun (v6 : Int) =>
                      if (v6 == (-1 : Int)) = Bool.true then
                        Option.bind (Go.Sx.G.f18F ([(20 : Int), (1 : Int), (21 : Int), (2 : Int), (22 : Int), (22 : Int), (0 : Int)], (2 : Int))) fun (v7 : Int) =>
                          if (v7 == (1 : Int)) = Bool.true then Option.bind (Go.Sx.G.f16F ([(10 : Int), (1 : Int)], (0 : Int), (2 : Int))) fun (v8 : Int) => Option.some (v8 == (-1 : Int))
                          else Option.some Bool.false
                      else Option.some Bool.false
                  else Option.some Bool.false
              else Option.some Bool.false
          else Option.some Bool.false
      else Option.some Bool.false
theorem G.f12eq : ∀ x, runFn G.C G.f12Γ G.f12sig G.f12ann Go.Proofs.Tryd.f12 x = G.f12F x := by
  intro x
  kernel_rfl
noncomputable def G.f12con : Con := ⟨12, G.f12sig, G.f12F⟩
theorem G.f12ok : Con.Ok Go.Proofs.Tryd.prog G.C G.f12con :=
  runFn_ok (Γ := G.f12Γ) (an := G.f12ann) ⟨G.Cok, (List.forall_mem_cons.2 ⟨G.f14ok, (List.forall_mem_cons.2 ⟨G.f13ok, (List.forall_mem_cons.2 ⟨G.f18ok, (List.forall_mem_cons.2 ⟨G.f16ok, (List.forall_mem_cons.2 ⟨G.f20ok, (fun _ h => nomatch h)⟩)⟩)⟩)⟩)⟩), G.mixed⟩ Go.Proofs.Tryd.func12 rfl rfl (fun x y h => (G.f12eq x).trans h) (by decide)
def G.f22sig : Sig := ⟨⟨[.hole (.int .i64)], []⟩, ⟨[.hole .bool], []⟩⟩
noncomputable def G.f22Γ : List Con := []
def G.f22ann : Ann :=
  (.seq .leaf (.seq .leaf .leaf))
/- ductus/ductusref02.Opens -/
noncomputable def G.f22F : Int → Option (Bool) :=
  fun (x : Int) => if (x == (19 : Int)) = Bool.true then Option.some Bool.true else if (x == (20 : Int)) = Bool.true then Option.some Bool.true else Option.some (x == (21 : Int))
theorem G.f22eq : ∀ x, runFn G.C G.f22Γ G.f22sig G.f22ann Go.Proofs.Tryd.f22 x = G.f22F x := by
  intro x
  kernel_rfl
noncomputable def G.f22con : Con := ⟨22, G.f22sig, G.f22F⟩
theorem G.f22ok : Con.Ok Go.Proofs.Tryd.prog G.C G.f22con :=
  runFn_ok (Γ := G.f22Γ) (an := G.f22ann) ⟨G.Cok, (fun _ h => nomatch h), G.mixed⟩ Go.Proofs.Tryd.func22 rfl rfl (fun x y h => (G.f22eq x).trans h) (by decide)
def G.f33sig : Sig := ⟨⟨[.hole (.sl (.int .i64)), .hole (.int .i64)], []⟩, ⟨[.hole (.int .i64)], []⟩⟩
noncomputable def G.f33Γ : List Con := [G.f22con]
def G.f33ann : Ann :=
  (.seq .leaf (.seq .leaf (.seq (.seq .leaf (.block (.loop ⟨.normal, [(5, .hole (.int .i64)), (6, .hole (.int .i64))], []⟩ [⟨(.exit 0), [], []⟩, ⟨.ret, [(4, .hole (.int .i64))], []⟩] (.seq (.seq (.join [⟨.normal, [(19, .hole .bool)], []⟩] .leaf) (.cond .leaf .leaf)) (.seq (.block (.seq (.join [⟨.normal, [(5, .hole (.int .i64))], []⟩] (.seq .leaf (.cond .leaf .leaf))) (.seq .leaf (.cond (.seq .leaf (.seq .leaf (.cond (.seq .leaf .leaf) .leaf))) .leaf)))) .leaf))))) (.seq .leaf .leaf))))
/- ductus/ductusref05.End -/
noncomputable def G.f33F : List Int × Int → Option (Int) :=
  fun (x : List Int × Int) =>
  Option.bind
    (Go.Sx.iter
      (fun (s1 : Int × Int) =>
        Option.bind
          (if Decidable.decide (s1.snd < (↑(List.length x.fst) : Int)) = Bool.true then
            if (0 : Int) ≤ s1.snd ∧ s1.snd < (↑(List.length x.fst) : Int) then Option.some (List.getD x.fst (Int.toNat s1.snd) (0 : Int) != (10 : Int)) else Option.none
          else Option.some Bool.false)
          fun (v2 : Bool) =>
          if v2 = Bool.true then
            Option.bind
              (if (0 : Int) ≤ s1.snd ∧ s1.snd < (↑(List.length x.fst) : Int) then
                Option.bind (Go.Sx.G.f22F (List.getD x.fst (Int.toNat s1.snd) (0 : Int))) fun (v3 : Bool) =>
                  if v3 = Bool.true then Option.some (Go.IntKind.wrap Go.IntKind.i64 (s1.fst + (1 : Int))) else Option.some s1.1
              else Option.none)
              fun (v3 : Int) =>
              if (0 : Int) ≤ s1.snd ∧ s1.snd < (↑(List.length x.fst) : Int) then
                if (List.getD x.fst (Int.toNat s1.snd) (0 : Int) == (22 : Int)) = Bool.true then
                  if (Go.IntKind.wrap Go.IntKind.i64 (v3 - (1 : Int)) == (0 : Int)) = Bool.true then Option.some (Sum.inr (Sum.inr s1.2))
                  else Option.some (Sum.inl (Go.IntKind.wrap Go.IntKind.i64 (v3 - (1 : Int)), Go.IntKind.wrap Go.IntKind.i64 (s1.snd + (1 : Int))))
                else Option.some (Sum.inl (v3, Go.IntKind.wrap Go.IntKind.i64 (s1.snd + (1 : Int))))
              else Option.none
          else Option.some (Sum.inr (Sum.inl ())))
      ((1 : Int), Go.IntKind.wrap Go.IntKind.i64 (x.snd + (1 : Int))))
    fun (v1 : PUnit ⊕ Int) => Sum.elim (fun (p2 : PUnit) => Option.some (-1 : Int)) (fun (q2 : Int) => Option.some q2) v1
theorem G.f33eq : ∀ x, runFn G.C G.f33Γ G.f33sig G.f33ann Go.Proofs.Tryd.f33 x = G.f33F x := by
  intro x
  kernel_rfl
noncomputable def G.f33con : Con := ⟨33, G.f33sig, G.f33F⟩
theorem G.f33ok : Con.Ok Go.Proofs.Tryd.prog G.C G.f33con :=
  runFn_ok (Γ := G.f33Γ) (an := G.f33ann) ⟨G.Cok, (List.forall_mem_cons.2 ⟨G.f22ok, (fun _ h => nomatch h)⟩), G.mixed⟩ Go.Proofs.Tryd.func33 rfl rfl (fun x y h => (G.f33eq x).trans h) (by decide)
def G.f15sig : Sig := ⟨⟨[.hole (.sl (.int .i64))], []⟩, ⟨[.hole (.sl (.int .i64))], []⟩⟩
noncomputable def G.f15Γ : List Con := [G.f22con, G.f33con]
def G.f15ann : Ann :=
  (.seq .leaf (.seq .leaf (.seq (.seq .leaf (.block (.loop ⟨.normal, [(4, .hole (.int .i64))], [.arr 3 (.int .i64)]⟩ [⟨(.exit 0), [], [.arr 3 (.int .i64)]⟩] (.seq (.seq .leaf (.cond .leaf .leaf)) (.seq (.block .leaf) .leaf))))) (.seq (.seq .leaf (.block (.loop ⟨.normal, [(5, .hole (.int .i64))], [.arr 3 (.int .i64)]⟩ [⟨(.exit 2), [], [.arr 3 (.int .i64)]⟩] (.seq (.seq .leaf (.cond .leaf .leaf)) (.seq (.block (.seq .leaf (.cond (.seq .leaf (.seq .leaf (.seq .leaf (.cond .leaf .leaf)))) .leaf))) .leaf))))) (.seq .leaf .leaf)))))
/- ductus/ductusref05.Match -/
noncomputable def G.f15F : List Int → Option (List Int) :=
  fun (x : List Int) =>
  if
      (0 : Int) ≤ (↑(List.length x) : Int) ∧
        (↑(List.length x) : Int) ≤ (↑(List.length x) : Int) ∧
          Go.Sx.roomOk (Int.toNat (↑(List.length x) : Int))
            { kind := Go.Sx.TK.int Go.IntKind.i64, size := (1 : Nat), bytes := (8 : Nat), ty := Option.some (Go.Sx.Ty.int Go.IntKind.i64),
                zero := [Go.Sx.SV.val (Go.Sx.Ty.int Go.IntKind.i64) (0 : Int)] : Go.Sx.TI }.bytes then
    Option.bind
      (Go.Sx.iter
        (fun (s1 : Int × List Int) =>
          if Decidable.decide (s1.fst < (↑(List.length x) : Int)) = Bool.true then
            if (0 : Int) ≤ s1.fst ∧ s1.fst < (↑(List.length s1.snd) : Int) then Option.some (Sum.inl (Go.IntKind.wrap Go.IntKind.i64 (s1.fst + (1 : Int)), List.set s1.2 (Int.toNat s1.fst) (-1 : Int)))
            else Option.none
          else Option.some (Sum.inr s1.2))
        ((0 : Int), List.replicate (Int.toNat (↑(List.length x) : Int)) (0 : Int)))
      fun (v1 : List Int) =>
      Option.bind
        (Go.Sx.iter
          (fun (s2 : Int × List Int) =>
            if Decidable.decide (s2.fst < (↑(List.length x) : Int)) = Bool.true then
              if (0 : Int) ≤ s2.fst ∧ s2.fst < (↑(List.length x) : Int) then
                Option.bind (Go.Sx.G.f22F (List.getD x (Int.toNat s2.fst) (0 : Int))) fun (v3 : Bool) =>
                  if v3 = Bool.true then
                    Option.bind (Go.Sx.G.f33F (x, s2.1)) fun (v4 : Int) =>
                      if (0 : Int) ≤ s2.fst ∧ s2.fst < (↑(List.length s2.snd) : Int) then
                        if Decidable.decide (v4 ≥ (0 : Int)) = Bool.true then
                          if (0 : Int) ≤ v4 ∧ v4 < (↑(List.length (List.set s2.2 (Int.toNat s2.fst) v4)) : Int) then
                            Option.some (Sum.inl (Go.IntKind.wrap Go.IntKind.i64 (s2.fst + (1 : Int)), List.set (List.set s2.2 (Int.toNat s2.fst) v4) (Int.toNat v4) s2.1))
                          else Option.none
                        else Option.some (Sum.inl (Go.IntKind.wrap Go.IntKind.i64 (s2.fst + (1 : Int)), List.set s2.2 (Int.toNat s2.fst) v4))
                      else Option.none
                  else Option.some (Sum.inl (Go.IntKind.wrap Go.IntKind.i64 (s2.fst + (1 : Int)), s2.2))
              else Option.none
            else Option.some (Sum.inr s2.2))
          ((0 : Int), v1))
        fun (v2 : List Int) => Option.some v2
  else Option.none
theorem G.f15eq : ∀ x, runFn G.C G.f15Γ G.f15sig G.f15ann Go.Proofs.Tryd.f15 x = G.f15F x := by
  intro x
  kernel_rfl
noncomputable def G.f15con : Con := ⟨15, G.f15sig, G.f15F⟩
theorem G.f15ok : Con.Ok Go.Proofs.Tryd.prog G.C G.f15con :=
  runFn_ok (Γ := G.f15Γ) (an := G.f15ann) ⟨G.Cok, (List.forall_mem_cons.2 ⟨G.f22ok, (List.forall_mem_cons.2 ⟨G.f33ok, (fun _ h => nomatch h)⟩)⟩), G.mixed⟩ Go.Proofs.Tryd.func15 rfl rfl (fun x y h => (G.f15eq x).trans h) (by decide)
def G.f31sig : Sig := ⟨⟨[.hole (.int .i64)], []⟩, ⟨[.hole .str], []⟩⟩
noncomputable def G.f31Γ : List Con := []
def G.f31ann : Ann :=
  (.seq .leaf (.seq .leaf (.seq (.seq (.join [⟨.normal, [(12, .hole .bool)], [.arr 9 .str]⟩] .leaf) (.cond (.seq .leaf .leaf) .leaf)) (.seq .leaf .leaf))))
/- ductus/ductusref02.Word -/
noncomputable def G.f31F : Int → Option (ByteArray) :=
  fun (x : Int) =>
  Option.bind
    (if Decidable.decide (x < (0 : Int)) = Bool.true then
      Option.some
        (Bool.true,
          [{ data := #[(76 : UInt8)] : ByteArray }, { data := #[(82 : UInt8)] : ByteArray }, { data := #[(65 : UInt8), (76 : UInt8)] : ByteArray },
            { data := #[(69 : UInt8), (78 : UInt8)] : ByteArray }, { data := #[(69 : UInt8), (83 : UInt8)] : ByteArray }, { data := #[(69 : UInt8), (84 : UInt8)] : ByteArray },
            { data := #[(65 : UInt8), (78 : UInt8)] : ByteArray }, { data := #[(67 : UInt8), (83 : UInt8)] : ByteArray }, { data := #[(78 : UInt8), (83 : UInt8), (77 : UInt8)] : ByteArray },
            { data := #[(66 : UInt8), (78 : UInt8)] : ByteArray }, { data := #[(66 : UInt8)] : ByteArray }, { data := #[(83 : UInt8)] : ByteArray },
            { data := #[(87 : UInt8), (83 : UInt8)] : ByteArray }, { data := #[(79 : UInt8), (78 : UInt8)] : ByteArray }, { data := #[(76 : UInt8), (82 : UInt8), (69 : UInt8)] : ByteArray },
            { data := #[(76 : UInt8), (82 : UInt8), (79 : UInt8)] : ByteArray }, { data := #[(82 : UInt8), (76 : UInt8), (69 : UInt8)] : ByteArray },
            { data := #[(82 : UInt8), (76 : UInt8), (79 : UInt8)] : ByteArray }, { data := #[(80 : UInt8), (68 : UInt8), (70 : UInt8)] : ByteArray },
            { data := #[(76 : UInt8), (82 : UInt8), (73 : UInt8)] : ByteArray }, { data := #[(82 : UInt8), (76 : UInt8), (73 : UInt8)] : ByteArray },
            { data := #[(70 : UInt8), (83 : UInt8), (73 : UInt8)] : ByteArray }, { data := #[(80 : UInt8), (68 : UInt8), (73 : UInt8)] : ByteArray }])
    else
      Option.some
        (Decidable.decide (x ≥ (↑((22 : Nat) + (1 : Nat)) : Int)),
          [{ data := #[(76 : UInt8)] : ByteArray }, { data := #[(82 : UInt8)] : ByteArray }, { data := #[(65 : UInt8), (76 : UInt8)] : ByteArray },
            { data := #[(69 : UInt8), (78 : UInt8)] : ByteArray }, { data := #[(69 : UInt8), (83 : UInt8)] : ByteArray }, { data := #[(69 : UInt8), (84 : UInt8)] : ByteArray },
            { data := #[(65 : UInt8), (78 : UInt8)] : ByteArray }, { data := #[(67 : UInt8), (83 : UInt8)] : ByteArray }, { data := #[(78 : UInt8), (83 : UInt8), (77 : UInt8)] : ByteArray },
            { data := #[(66 : UInt8), (78 : UInt8)] : ByteArray }, { data := #[(66 : UInt8)] : ByteArray }, { data := #[(83 : UInt8)] : ByteArray },
            { data := #[(87 : UInt8), (83 : UInt8)] : ByteArray }, { data := #[(79 : UInt8), (78 : UInt8)] : ByteArray }, { data := #[(76 : UInt8), (82 : UInt8), (69 : UInt8)] : ByteArray },
            { data := #[(76 : UInt8), (82 : UInt8), (79 : UInt8)] : ByteArray }, { data := #[(82 : UInt8), (76 : UInt8), (69 : UInt8)] : ByteArray },
            { data := #[(82 : UInt8), (76 : UInt8), (79 : UInt8)] : ByteArray }, { data := #[(80 : UInt8), (68 : UInt8), (70 : UInt8)] : ByteArray },
            { data := #[(76 : UInt8), (82 : UInt8), (73 : UInt8)] : ByteArray }, { data := #[(82 : UInt8), (76 : UInt8), (73 : UInt8)] : ByteArray },
            { data := #[(70 : UInt8), (83 : UInt8), (73 : UInt8)] : ByteArray }, { data := #[(80 : UInt8), (68 : UInt8), (73 : UInt8)] : ByteArray }]))
    fun (v1 : Bool × List ByteArray) =>
    if v1.fst = Bool.true then Option.some { data := #[] : ByteArray }
    else if (0 : Int) ≤ x ∧ x < (↑(List.length v1.snd) : Int) then Option.some (List.getD v1.2 (Int.toNat x) ByteArray.empty) else Option.none
theorem G.f31eq : ∀ x, runFn G.C G.f31Γ G.f31sig G.f31ann Go.Proofs.Tryd.f31 x = G.f31F x := by
  intro x
  kernel_rfl
noncomputable def G.f31con : Con := ⟨31, G.f31sig, G.f31F⟩
theorem G.f31ok : Con.Ok Go.Proofs.Tryd.prog G.C G.f31con :=
  runFn_ok (Γ := G.f31Γ) (an := G.f31ann) ⟨G.Cok, (fun _ h => nomatch h), G.mixed⟩ Go.Proofs.Tryd.func31 rfl rfl (fun x y h => (G.f31eq x).trans h) (by decide)
def G.f17sig : Sig := ⟨⟨[.hole (.sl (.int .i64)), .hole (.int .i64), .hole (.int .i64)], []⟩, ⟨[.hole (.int .i64)], []⟩⟩
noncomputable def G.f17Γ : List Con := [G.f22con, G.f33con, G.f31con]
def G.f17ann : Ann :=
  (.seq .leaf (.seq (.seq .leaf (.block (.loop ⟨.normal, [(7, .hole (.int .i64))], []⟩ [⟨(.exit 0), [], []⟩, ⟨.ret, [(6, .hole (.int .i64))], []⟩] (.seq (.seq .leaf (.cond .leaf .leaf)) (.seq (.block (.block (.seq .leaf (.cond (.seq .leaf .leaf) (.seq .leaf (.cond (.seq .leaf (.seq (.seq (.join [⟨.normal, [(40, .hole .bool)], []⟩] .leaf) (.cond (.seq .leaf .leaf) .leaf)) .leaf)) (.seq (.join [⟨.normal, [(42, .hole .bool)], []⟩] .leaf) (.cond (.seq .leaf .leaf) (.seq (.join [⟨.normal, [(55, .hole .bool)], []⟩] .leaf) (.cond (.seq .leaf .leaf) .leaf)))))))))) .leaf))))) (.seq .leaf .leaf)))
/- ductus/ductusref05.First -/
noncomputable def G.f17F : List Int × Int × Int → Option (Int) :=
  fun (x : List Int × Int × Int) =>
  Option.bind
    (Go.Sx.iter
      (fun (s1 : Int) =>
        if Decidable.decide (s1 < Go.Sx.minI x.snd.snd (↑(List.length x.fst) : Int)) = Bool.true then
          if (0 : Int) ≤ s1 ∧ s1 < (↑(List.length x.fst) : Int) then
            if (List.getD x.fst (Int.toNat s1) (0 : Int) == (10 : Int)) = Bool.true then Option.some (Sum.inr (Sum.inr (-1 : Int)))
            else
              if (0 : Int) ≤ s1 ∧ s1 < (↑(List.length x.fst) : Int) then
                Option.bind (Go.Sx.G.f22F (List.getD x.fst (Int.toNat s1) (0 : Int))) fun (v2 : Bool) =>
                  if v2 = Bool.true then
                    Option.bind (Go.Sx.G.f33F (x.1, s1)) fun (v3 : Int) =>
                      Option.bind (if Decidable.decide (v3 < (0 : Int)) = Bool.true then Option.some Bool.true else Option.some (Decidable.decide (v3 ≥ x.snd.snd))) fun (v4 : Bool) =>
                        if v4 = Bool.true then Option.some (Sum.inr (Sum.inr (-1 : Int))) else Option.some (Sum.inl (Go.IntKind.wrap Go.IntKind.i64 (v3 + (1 : Int))))
                  else
                    Option.bind
                      (if (0 : Int) ≤ s1 ∧ s1 < (↑(List.length x.fst) : Int) then
                        if (List.getD x.fst (Int.toNat s1) (0 : Int) == (1 : Int)) = Bool.true then Option.some Bool.true
                        else if (0 : Int) ≤ s1 ∧ s1 < (↑(List.length x.fst) : Int) then Option.some (List.getD x.fst (Int.toNat s1) (0 : Int) == (2 : Int)) else Option.none
                      else Option.none)
                      fun (v3 : Bool) =>
                      if v3 = Bool.true then Option.some (Sum.inr (Sum.inr (1 : Int)))
                      else
                        Option.bind
                          (if (0 : Int) ≤ s1 ∧ s1 < (↑(List.length x.fst) : Int) then
                            if (List.getD x.fst (Int.toNat s1) (0 : Int) == (0 : Int)) = Bool.true then Option.some Bool.true
                            else
                              if (0 : Int) ≤ s1 ∧ s1 < (↑(List.length x.fst) : Int) then
                                Option.bind (Go.Sx.G.f31F (List.getD x.fst (Int.toNat s1) (0 : Int))) fun (v4 : ByteArray) =>
                                  Option.some (ByteArray.toList v4 == ByteArray.toList { data := #[] : ByteArray })
                              else Option.none
                          else Option.none)
                          fun (v4 : Bool) => if v4 = Bool.true then Option.some (Sum.inr (Sum.inr (0 : Int))) else Option.some (Sum.inl (Go.IntKind.wrap Go.IntKind.i64 (s1 + (1 : Int))))
              else Option.none
          else Option.none
        else Option.some (Sum.inr (Sum.inl ())))
      (if x.snd.fst > (0 : Int) then x.snd.fst else (0 : Int)))
    fun (v1 : PUnit ⊕ Int) => Sum.elim (fun (p2 : PUnit) => Option.some (-1 : Int)) (fun (q2 : Int) => Option.some q2) v1
theorem G.f17eq : ∀ x, runFn G.C G.f17Γ G.f17sig G.f17ann Go.Proofs.Tryd.f17 x = G.f17F x := by
  intro x
  kernel_rfl
noncomputable def G.f17con : Con := ⟨17, G.f17sig, G.f17F⟩
theorem G.f17ok : Con.Ok Go.Proofs.Tryd.prog G.C G.f17con :=
  runFn_ok (Γ := G.f17Γ) (an := G.f17ann) ⟨G.Cok, (List.forall_mem_cons.2 ⟨G.f22ok, (List.forall_mem_cons.2 ⟨G.f33ok, (List.forall_mem_cons.2 ⟨G.f31ok, (fun _ h => nomatch h)⟩)⟩)⟩), G.mixed⟩ Go.Proofs.Tryd.func17 rfl rfl (fun x y h => (G.f17eq x).trans h) (by decide)
def G.f19sig : Sig := ⟨⟨[.hole (.sl (.int .i64)), .hole (.int .i64)], []⟩, ⟨[.hole (.int .i64)], []⟩⟩
noncomputable def G.f19Γ : List Con := [G.f17con]
def G.f19ann : Ann :=
  (.seq .leaf (.seq (.seq .leaf (.block (.seq .leaf (.cond (.seq .leaf .leaf) (.seq .leaf (.cond (.seq .leaf .leaf) .leaf)))))) (.seq .leaf .leaf)))
/- ductus/ductusref05.Level -/
noncomputable def G.f19F : List Int × Int → Option (Int) :=
  fun (x : List Int × Int) =>
  if (x.snd == (1 : Int)) = Bool.true then Option.some (0 : Int)
  else
    if (x.snd == (2 : Int)) = Bool.true then Option.some (1 : Int)
    else Option.bind (Go.Sx.G.f17F (x.1, (0 : Int), (↑(List.length x.fst) : Int))) fun (v1 : Int) => Option.some (if v1 > (0 : Int) then v1 else (0 : Int))
theorem G.f19eq : ∀ x, runFn G.C G.f19Γ G.f19sig G.f19ann Go.Proofs.Tryd.f19 x = G.f19F x := by
  intro x
  kernel_rfl
noncomputable def G.f19con : Con := ⟨19, G.f19sig, G.f19F⟩
theorem G.f19ok : Con.Ok Go.Proofs.Tryd.prog G.C G.f19con :=
  runFn_ok (Γ := G.f19Γ) (an := G.f19ann) ⟨G.Cok, (List.forall_mem_cons.2 ⟨G.f17ok, (fun _ h => nomatch h)⟩), G.mixed⟩ Go.Proofs.Tryd.func19 rfl rfl (fun x y h => (G.f19eq x).trans h) (by decide)
def G.f21sig : Sig := ⟨⟨[.hole (.sl (.int .i64)), .hole (.int .i64)], []⟩, ⟨[.hole (.int .i64)], []⟩⟩
noncomputable def G.f21Γ : List Con := [G.f33con, G.f17con]
def G.f21ann : Ann :=
  (.seq .leaf (.seq (.seq (.join [⟨.normal, [(13, .hole .bool)], []⟩] .leaf) (.cond (.seq .leaf .leaf) .leaf)) (.seq (.seq .leaf (.block (.seq .leaf (.cond (.seq .leaf .leaf) (.seq .leaf (.cond (.seq .leaf .leaf) (.seq .leaf (.cond (.seq .leaf (.seq (.join [⟨.normal, [(5, .hole (.int .i64))], []⟩] (.seq .leaf (.cond .leaf .leaf))) (.seq .leaf .leaf))) .leaf)))))))) (.seq .leaf .leaf))))
/- ductus/ductusref05.Isolate -/
noncomputable def G.f21F : List Int × Int → Option (Int) :=
  fun (x : List Int × Int) =>
  Option.bind (if Decidable.decide (x.snd < (0 : Int)) = Bool.true then Option.some Bool.true else Option.some (Decidable.decide (x.snd ≥ (↑(List.length x.fst) : Int)))) fun (v1 : Bool) =>
    if v1 = Bool.true then Option.some (-1 : Int)
    else
      if (0 : Int) ≤ x.snd ∧ x.snd < (↑(List.length x.fst) : Int) then
        if (List.getD x.fst (Int.toNat x.snd) (0 : Int) == (19 : Int)) = Bool.true then Option.some (0 : Int)
        else
          if (List.getD x.fst (Int.toNat x.snd) (0 : Int) == (20 : Int)) = Bool.true then Option.some (1 : Int)
          else
            if (List.getD x.fst (Int.toNat x.snd) (0 : Int) == (21 : Int)) = Bool.true then
              Option.bind (Go.Sx.G.f33F (x.1, x.2)) fun (v2 : Int) =>
                Option.bind (if Decidable.decide (v2 < (0 : Int)) = Bool.true then Option.some (↑(List.length x.fst) : Int) else Option.some v2) fun (v3 : Int) =>
                  Option.bind (Go.Sx.G.f17F (x.1, Go.IntKind.wrap Go.IntKind.i64 (x.snd + (1 : Int)), v3)) fun (v4 : Int) => Option.some (if v4 > (0 : Int) then v4 else (0 : Int))
            else Option.some (-1 : Int)
      else Option.none
theorem G.f21eq : ∀ x, runFn G.C G.f21Γ G.f21sig G.f21ann Go.Proofs.Tryd.f21 x = G.f21F x := by
  intro x
  kernel_rfl
noncomputable def G.f21con : Con := ⟨21, G.f21sig, G.f21F⟩
theorem G.f21ok : Con.Ok Go.Proofs.Tryd.prog G.C G.f21con :=
  runFn_ok (Γ := G.f21Γ) (an := G.f21ann) ⟨G.Cok, (List.forall_mem_cons.2 ⟨G.f33ok, (List.forall_mem_cons.2 ⟨G.f17ok, (fun _ h => nomatch h)⟩)⟩), G.mixed⟩ Go.Proofs.Tryd.func21 rfl rfl (fun x y h => (G.f21eq x).trans h) (by decide)
def G.f3sig : Sig := ⟨⟨[.hole (.sl (.int .i64)), .hole (.arr 3 (.int .i64))], []⟩, ⟨[.hole .bool], []⟩⟩
noncomputable def G.f3Γ : List Con := [G.f12con, G.f14con, G.f15con, G.f13con, G.f16con, G.f17con, G.f18con, G.f19con, G.f20con, G.f21con]
def G.f3ann : Ann :=
  (.seq .leaf (.seq (.seq .leaf (.cond (.seq .leaf .leaf) .leaf)) (.seq (.seq .leaf (.cond (.seq .leaf .leaf) .leaf)) (.seq .draw .leaf))))
/- ductus/ductuslaw05.BaseAnswers -/
noncomputable def G.f3F : List Int × List Int → Option (Bool) :=
  fun (x : List Int × List Int) =>
  Option.bind (Go.Sx.G.f12F ()) fun (v1 : Bool) =>
    if (!v1) = Bool.true then Option.some Bool.false
    else
      if Decidable.decide ((↑(List.length x.fst) : Int) > (500 : Int)) = Bool.true then Option.some Bool.true
      else
        Option.bind (Go.Sx.G.f14F x.1) fun (v2 : List Int) =>
          Option.bind (Go.Sx.G.f15F x.1) fun (v3 : List Int) =>
            Option.bind (Go.Sx.G.f13F (v2, v3)) fun (v4 : Bool) =>
              if v4 = Bool.true then
                if (0 : Int) ≤ (0 : Int) ∧ (0 : Int) < (↑(3 : Nat) : Int) then
                  if (0 : Int) ≤ (1 : Int) ∧ (1 : Int) < (↑(3 : Nat) : Int) then
                    Option.bind (Go.Sx.G.f16F (x.1, List.getD x.snd (nat_lit 0) (0 : Int), List.getD x.snd (nat_lit 1) (0 : Int))) fun (v5 : Int) =>
                      if (0 : Int) ≤ (0 : Int) ∧ (0 : Int) < (↑(3 : Nat) : Int) then
                        if (0 : Int) ≤ (1 : Int) ∧ (1 : Int) < (↑(3 : Nat) : Int) then
                          Option.bind (Go.Sx.G.f17F (x.1, List.getD x.snd (nat_lit 0) (0 : Int), List.getD x.snd (nat_lit 1) (0 : Int))) fun (v6 : Int) =>
                            if (v5 == v6) = Bool.true then
                              if (0 : Int) ≤ (2 : Int) ∧ (2 : Int) < (↑(3 : Nat) : Int) then
                                Option.bind (Go.Sx.G.f18F (x.1, List.getD x.snd (nat_lit 2) (0 : Int))) fun (v7 : Int) =>
                                  if (0 : Int) ≤ (2 : Int) ∧ (2 : Int) < (↑(3 : Nat) : Int) then
                                    Option.bind (Go.Sx.G.f19F (x.1, List.getD x.snd (nat_lit 2) (0 : Int))) fun (v8 : Int) =>
                                      if (v7 == v8) = Bool.true then
                                        if (0 : Int) ≤ (0 : Int) ∧ (0 : Int) < (↑(3 : Nat) : Int) then
                                          Option.bind (Go.Sx.G.f20F (x.1, List.getD x.snd (nat_lit 0) (0 : Int))) fun (v9 : Int) =>
                                            if (0 : Int) ≤ (0 : Int) ∧ (0 : Int) < (↑(3 : Nat) : Int) then
                                              Option.bind (Go.Sx.G.f21F (x.1, List.getD x.snd (nat_lit 0) (0 : Int))) fun (v10 : Int) => Option.some (v9 == v10)
                                            else Option.none
                                        else Option.none
                                      else Option.some Bool.false
                                  else Option.none
                              else Option.none
                            else Option.some Bool.false
                        else Option.none
                      else Option.none
                  else Option.none
                else Option.none
              else Option.some Bool.false
theorem G.f3eq : ∀ x, runFn G.C G.f3Γ G.f3sig G.f3ann Go.Proofs.Tryd.f3 x = G.f3F x := by
  intro x
  kernel_rfl
noncomputable def G.f3con : Con := ⟨3, G.f3sig, G.f3F⟩
theorem G.f3ok : Con.Ok Go.Proofs.Tryd.prog G.C G.f3con :=
  runFn_ok (Γ := G.f3Γ) (an := G.f3ann) ⟨G.Cok, (List.forall_mem_cons.2 ⟨G.f12ok, (List.forall_mem_cons.2 ⟨G.f14ok, (List.forall_mem_cons.2 ⟨G.f15ok, (List.forall_mem_cons.2 ⟨G.f13ok, (List.forall_mem_cons.2 ⟨G.f16ok, (List.forall_mem_cons.2 ⟨G.f17ok, (List.forall_mem_cons.2 ⟨G.f18ok, (List.forall_mem_cons.2 ⟨G.f19ok, (List.forall_mem_cons.2 ⟨G.f20ok, (List.forall_mem_cons.2 ⟨G.f21ok, (fun _ h => nomatch h)⟩)⟩)⟩)⟩)⟩)⟩)⟩)⟩)⟩)⟩), G.mixed⟩ Go.Proofs.Tryd.func3 rfl rfl (fun x y h => (G.f3eq x).trans h) (by decide)
def G.f4sig : Sig := ⟨⟨[.hole (.sl (.int .i64))], []⟩, ⟨[.hole .bool], []⟩⟩
noncomputable def G.f4Γ : List Con := [G.f12con, G.f14con, G.f22con]
def G.f4ann : Ann :=
  (.seq .leaf (.seq (.seq .leaf (.cond (.seq .leaf .leaf) .leaf)) (.seq (.seq .leaf (.cond (.seq .leaf .leaf) .leaf)) (.seq .leaf (.seq (.seq .leaf (.cond (.seq .leaf .leaf) .leaf)) (.seq (.seq .leaf (.block (.loop ⟨.normal, [(4, .hole (.int .i64))], []⟩ [⟨(.exit 0), [], []⟩, ⟨.ret, [(2, .hole .bool)], []⟩] (.seq (.seq .leaf (.cond .leaf .leaf)) (.seq (.block (.seq .leaf (.seq (.seq .leaf (.cond .leaf .leaf)) (.seq (.seq (.join [⟨.normal, [(72, .hole .bool)], []⟩] .leaf) (.cond (.seq .leaf .leaf) .leaf)) (.seq .leaf (.block (.loop ⟨.normal, [(6, .hole (.int .i64))], []⟩ [⟨(.exit 2), [], []⟩, ⟨.ret, [(2, .hole .bool)], []⟩] (.seq (.seq .leaf (.cond .leaf .leaf)) (.seq (.block (.seq (.join [⟨.normal, [(115, .hole .bool)], []⟩] .leaf) (.cond (.seq .leaf .leaf) .leaf))) .leaf))))))))) .leaf))))) (.seq .leaf .leaf)))))))
/- ductus/ductuslaw05.BasePairs -/
noncomputable def G.f4F : List Int → Option (Bool) :=
  fun (x : List Int) =>
  Option.bind (Go.Sx.G.f12F ()) fun (v1 : Bool) =>
    if (!v1) = Bool.true then Option.some Bool.false
    else
      if Decidable.decide ((↑(List.length x) : Int) > (500 : Int)) = Bool.true then Option.some Bool.true
      else
        Option.bind (Go.Sx.G.f14F x) fun (v2 : List Int) =>
          if ((↑(List.length v2) : Int) != (↑(List.length x) : Int)) = Bool.true then Option.some Bool.false
          else
            Option.bind
              (Go.Sx.iter
                (fun (s3 : Int) =>
                  if Decidable.decide (s3 < (↑(List.length x) : Int)) = Bool.true then
                    if (0 : Int) ≤ s3 ∧ s3 < (↑(List.length v2) : Int) then
                      if Decidable.decide (List.getD v2 (Int.toNat s3) (0 : Int) < (0 : Int)) = Bool.true then Option.some (Sum.inl (Go.IntKind.wrap Go.IntKind.i64 (s3 + (1 : Int))))
                      else
                        Option.bind
                          (if Decidable.decide (List.getD v2 (Int.toNat s3) (0 : Int) ≥ (↑(List.length x) : Int)) = Bool.true then Option.some Bool.true
                          else
                            if (0 : Int) ≤ List.getD v2 (Int.toNat s3) (0 : Int) ∧ List.getD v2 (Int.toNat s3) (0 : Int) < (↑(List.length v2) : Int) then
                              if (List.getD v2 (Int.toNat (List.getD v2 (Int.toNat s3) (0 : Int))) (0 : Int) != s3) = Bool.true then Option.some Bool.true
                              else
                                if (0 : Int) ≤ s3 ∧ s3 < (↑(List.length x) : Int) then
                                  Option.bind (Go.Sx.G.f22F (List.getD x (Int.toNat s3) (0 : Int))) fun (v4 : Bool) =>
                                    if (!v4 == Decidable.decide (List.getD v2 (Int.toNat s3) (0 : Int) > s3)) = Bool.true then Option.some Bool.true
                                    else
                                      if (0 : Int) ≤ Go.Sx.maxI s3 (List.getD v2 (Int.toNat s3) (0 : Int)) ∧ Go.Sx.maxI s3 (List.getD v2 (Int.toNat s3) (0 : Int)) < (↑(List.length x) : Int) then
                                        if (List.getD x (Int.toNat (Go.Sx.maxI s3 (List.getD v2 (Int.toNat s3) (0 : Int)))) (0 : Int) != (22 : Int)) = Bool.true then Option.some Bool.true
                                        else
                                          if (0 : Int) ≤ Go.Sx.minI s3 (List.getD v2 (Int.toNat s3) (0 : Int)) ∧ Go.Sx.minI s3 (List.getD v2 (Int.toNat s3) (0 : Int)) < (↑(List.length x) : Int) then
                                            Option.bind (Go.Sx.G.f22F (List.getD x (Int.toNat (Go.Sx.minI s3 (List.getD v2 (Int.toNat s3) (0 : Int)))) (0 : Int))) fun (v5 : Bool) => Option.some !v5
                                          else Option.none
                                      else Option.none
                                else Option.none
                            else Option.none)
                          fun (v4 : Bool) =>
                          if v4 = Bool.true then Option.some (Sum.inr (Sum.inr Bool.false))
                          else
                            Option.bind
                              (Go.Sx.iter
                                (fun (s5 : Int) =>
                                  if Decidable.decide (s5 < Go.Sx.maxI s3 (List.getD v2 (Int.toNat s3) (0 : Int))) = Bool.true then
                                    Option.bind
                                      (if (0 : Int) ≤ s5 ∧ s5 < (↑(List.length x) : Int) then
                                        if (List.getD x (Int.toNat s5) (0 : Int) == (10 : Int)) = Bool.true then Option.some Bool.true
                                        else
                                          if (0 : Int) ≤ s5 ∧ s5 < (↑(List.length v2) : Int) then
                                            if Decidable.decide (List.getD v2 (Int.toNat s5) (0 : Int) ≥ (0 : Int)) = Bool.true then
                                              if (0 : Int) ≤ s5 ∧ s5 < (↑(List.length v2) : Int) then
                                                if Decidable.decide (List.getD v2 (Int.toNat s5) (0 : Int) < Go.Sx.minI s3 (List.getD v2 (Int.toNat s3) (0 : Int))) = Bool.true then
                                                  Option.some Bool.true
                                                else
                                                  if (0 : Int) ≤ s5 ∧ s5 < (↑(List.length v2) : Int) then
                                                    Option.some (Decidable.decide (List.getD v2 (Int.toNat s5) (0 : Int) > Go.Sx.maxI s3 (List.getD v2 (Int.toNat s3) (0 : Int))))
                                                  else Option.none
                                              else Option.none
                                            else Option.some Bool.false
                                          else Option.none
                                      else Option.none)
                                      fun (v6 : Bool) => if v6 = Bool.true then Option.some (Sum.inr (Sum.inr Bool.false)) else Option.some (Sum.inl (Go.IntKind.wrap Go.IntKind.i64 (s5 + (1 : Int))))
                                  else Option.some (Sum.inr (Sum.inl ())))
                                (Go.IntKind.wrap Go.IntKind.i64 (Go.Sx.minI s3 (List.getD v2 (Int.toNat s3) (0 : Int)) + (1 : Int))))
                              fun (v5 : PUnit ⊕ Bool) =>
                              Sum.elim (fun (p6 : PUnit) => Option.some (Sum.inl (Go.IntKind.wrap Go.IntKind.i64 (s3 + (1 : Int))))) (fun (q6 : Bool) => Option.some (Sum.inr (Sum.inr q6))) v5
                    else Option.none
                  else Option.some (Sum.inr (Sum.inl ())))
                (0 : Int))
              fun (v3 : PUnit ⊕ Bool) => Sum.elim (fun (p4 : PUnit) => Option.some Bool.true) (fun (q4 : Bool) => Option.some q4) v3
theorem G.f4eq : ∀ x, runFn G.C G.f4Γ G.f4sig G.f4ann Go.Proofs.Tryd.f4 x = G.f4F x := by
  intro x
  kernel_rfl
noncomputable def G.f4con : Con := ⟨4, G.f4sig, G.f4F⟩
theorem G.f4ok : Con.Ok Go.Proofs.Tryd.prog G.C G.f4con :=
  runFn_ok (Γ := G.f4Γ) (an := G.f4ann) ⟨G.Cok, (List.forall_mem_cons.2 ⟨G.f12ok, (List.forall_mem_cons.2 ⟨G.f14ok, (List.forall_mem_cons.2 ⟨G.f22ok, (fun _ h => nomatch h)⟩)⟩)⟩), G.mixed⟩ Go.Proofs.Tryd.func4 rfl rfl (fun x y h => (G.f4eq x).trans h) (by decide)
def G.f6sig : Sig := ⟨⟨[.hole (.sl (.int .i64)), .hole (.arr 3 (.int .u16))], []⟩, ⟨[.hole .bool], []⟩⟩
noncomputable def G.f6Γ : List Con := [G.f12con, G.f16con]
def G.f6ann : Ann :=
  (.seq .leaf (.seq (.seq .leaf (.cond (.seq .leaf .leaf) .leaf)) (.seq (.seq .leaf (.cond (.seq .leaf .leaf) .leaf)) (.seq .leaf (.seq .leaf (.seq .leaf (.seq .leaf (.seq (.seq (.join [⟨.normal, [(66, .hole .bool)], [.gone]⟩] .leaf) (.cond (.seq .leaf .leaf) .leaf)) (.seq .leaf .leaf)))))))))
/- ductus/ductuslaw05.BaseFirsts -/
noncomputable def G.f6F : List Int × List Int → Option (Bool) :=
  fun (x : List Int × List Int) =>
  Option.bind (Go.Sx.G.f12F ()) fun (v1 : Bool) =>
    if (!v1) = Bool.true then Option.some Bool.false
    else
      if Decidable.decide ((↑(List.length x.fst) : Int) > (300 : Int)) = Bool.true then Option.some Bool.true
      else
        if (0 : Int) ≤ (0 : Int) ∧ (0 : Int) < (↑(3 : Nat) : Int) then
          if Go.IntKind.wrap Go.IntKind.i64 ((↑(List.length x.fst) : Int) + (1 : Int)) = (0 : Int) then Option.none
          else
            if (0 : Int) ≤ (1 : Int) ∧ (1 : Int) < (↑(3 : Nat) : Int) then
              if Go.IntKind.wrap Go.IntKind.i64 ((↑(List.length x.fst) : Int) + (1 : Int)) = (0 : Int) then Option.none
              else
                if (0 : Int) ≤ (2 : Int) ∧ (2 : Int) < (↑(3 : Nat) : Int) then
                  if Go.IntKind.wrap Go.IntKind.i64 ((↑(List.length x.fst) : Int) + (1 : Int)) = (0 : Int) then Option.none
                  else
                    Option.bind
                      (Go.Sx.G.f16F
                        (x.1, Int.tmod (Go.IntKind.wrap Go.IntKind.i64 (List.getD x.snd (nat_lit 0) (0 : Int))) (Go.IntKind.wrap Go.IntKind.i64 ((↑(List.length x.fst) : Int) + (1 : Int))),
                          if
                              Int.tmod (Go.IntKind.wrap Go.IntKind.i64 (List.getD x.snd (nat_lit 2) (0 : Int))) (Go.IntKind.wrap Go.IntKind.i64 ((↑(List.length x.fst) : Int) + (1 : Int))) <
                                Int.tmod (Go.IntKind.wrap Go.IntKind.i64 (List.getD x.snd (nat_lit 1) (0 : Int))) (Go.IntKind.wrap Go.IntKind.i64 ((↑(List.length x.fst) : Int) + (1 : Int))) then
                            Int.tmod (Go.IntKind.wrap Go.IntKind.i64 (List.getD x.snd (nat_lit 2) (0 : Int))) (Go.IntKind.wrap Go.IntKind.i64 ((↑(List.length x.fst) : Int) + (1 : Int)))
                          else Int.tmod (Go.IntKind.wrap Go.IntKind.i64 (List.getD x.snd (nat_lit 1) (0 : Int))) (Go.IntKind.wrap Go.IntKind.i64 ((↑(List.length x.fst) : Int) + (1 : Int)))))
                      fun (v2 : Int) =>
                      Option.bind
                        (Go.Sx.G.f16F
                          (x.1, Int.tmod (Go.IntKind.wrap Go.IntKind.i64 (List.getD x.snd (nat_lit 0) (0 : Int))) (Go.IntKind.wrap Go.IntKind.i64 ((↑(List.length x.fst) : Int) + (1 : Int))),
                            if
                                Int.tmod (Go.IntKind.wrap Go.IntKind.i64 (List.getD x.snd (nat_lit 2) (0 : Int))) (Go.IntKind.wrap Go.IntKind.i64 ((↑(List.length x.fst) : Int) + (1 : Int))) >
                                  Int.tmod (Go.IntKind.wrap Go.IntKind.i64 (List.getD x.snd (nat_lit 1) (0 : Int))) (Go.IntKind.wrap Go.IntKind.i64 ((↑(List.length x.fst) : Int) + (1 : Int))) then
                              Int.tmod (Go.IntKind.wrap Go.IntKind.i64 (List.getD x.snd (nat_lit 2) (0 : Int))) (Go.IntKind.wrap Go.IntKind.i64 ((↑(List.length x.fst) : Int) + (1 : Int)))
                            else Int.tmod (Go.IntKind.wrap Go.IntKind.i64 (List.getD x.snd (nat_lit 1) (0 : Int))) (Go.IntKind.wrap Go.IntKind.i64 ((↑(List.length x.fst) : Int) + (1 : Int)))))
                        fun (v3 : Int) =>
                        Option.bind
                          (if Decidable.decide (v2 < (-1 : Int)) = Bool.true then Option.some Bool.true
                          else
                            if Decidable.decide (v2 > (1 : Int)) = Bool.true then Option.some Bool.true
                            else
                              if Decidable.decide (v3 < (-1 : Int)) = Bool.true then Option.some Bool.true
                              else
                                if Decidable.decide (v3 > (1 : Int)) = Bool.true then Option.some Bool.true
                                else
                                  Option.bind
                                    (Go.Sx.G.f16F
                                      (x.1,
                                        Int.tmod (Go.IntKind.wrap Go.IntKind.i64 (List.getD x.snd (nat_lit 0) (0 : Int))) (Go.IntKind.wrap Go.IntKind.i64 ((↑(List.length x.fst) : Int) + (1 : Int))),
                                        Int.tmod (Go.IntKind.wrap Go.IntKind.i64 (List.getD x.snd (nat_lit 0) (0 : Int))) (Go.IntKind.wrap Go.IntKind.i64 ((↑(List.length x.fst) : Int) + (1 : Int)))))
                                    fun (v4 : Int) => Option.some (v4 != (-1 : Int)))
                          fun (v4 : Bool) => if v4 = Bool.true then Option.some Bool.false else if (v2 == (-1 : Int)) = Bool.true then Option.some Bool.true else Option.some (v2 == v3)
                else Option.none
            else Option.none
        else Option.none
theorem G.f6eq : ∀ x, runFn G.C G.f6Γ G.f6sig G.f6ann Go.Proofs.Tryd.f6 x = G.f6F x := by
  intro x
  kernel_rfl
noncomputable def G.f6con : Con := ⟨6, G.f6sig, G.f6F⟩
theorem G.f6ok : Con.Ok Go.Proofs.Tryd.prog G.C G.f6con :=
  runFn_ok (Γ := G.f6Γ) (an := G.f6ann) ⟨G.Cok, (List.forall_mem_cons.2 ⟨G.f12ok, (List.forall_mem_cons.2 ⟨G.f16ok, (fun _ h => nomatch h)⟩)⟩), G.mixed⟩ Go.Proofs.Tryd.func6 rfl rfl (fun x y h => (G.f6eq x).trans h) (by decide)
end Go.Sx
