import Derived.Test.YtemngcdlgnconaaSxTKc
set_option maxRecDepth 100000
set_option linter.unusedVariables false
set_option linter.unusedSimpArgs false
namespace Go.Sx
open Go.Proofs
def Z.f17sig : Sig := ⟨⟨[.hole (.sl (.int .i64))], []⟩, ⟨[.hole (.sl (.int .i64))], []⟩⟩
noncomputable def Z.f17Γ : List Con := [Z.f20con]
def Z.f17ann : Ann :=
  (.seq .leaf (.seq .leaf (.seq (.seq .leaf (.block (.loop ⟨.normal, [(3, .own 0), (8, .hole (.int .i64))], [.arr 3 (.int .i64)]⟩ [⟨(.exit 0), [(3, .own 0)], [.arr 3 (.int .i64)]⟩] (.seq .leaf (.seq (.cond .leaf .leaf) (.seq (.block (.seq .leaf (.seq (.seq .leaf (.cond .leaf .leaf)) .leaf))) .leaf)))))) (.seq .leaf .leaf))))
noncomputable def Z.f17F : List Int → Option (List Int) :=
  fun (x : List Int) =>
  Option.bind
    (Go.Sx.iter
      (fun (s1 : Int × List Int) =>
        if Decidable.decide (s1.fst < (↑(List.length x) : Int)) = Bool.true then
          if (0 : Int) ≤ s1.fst ∧ s1.fst < (↑(List.length x) : Int) then
            Option.bind (Go.Sx.Z.f20F (List.getD x (Int.toNat s1.fst) (0 : Int))) fun (v2 : Bool) =>
              if v2 = Bool.true then
                if
                    Go.Sx.roomOk (List.length s1.snd + (1 : Nat))
                      { kind := Go.Sx.TK.int Go.IntKind.i64, size := (1 : Nat), bytes := (8 : Nat), ty := Option.some (Go.Sx.Ty.int Go.IntKind.i64),
                          zero := [Go.Sx.SV.val (Go.Sx.Ty.int Go.IntKind.i64) (0 : Int)] : Go.Sx.TI }.bytes then
                  if
                      Go.Sx.roomOk (List.length (s1.2 ++ [(92 : Int)]) + (1 : Nat))
                        { kind := Go.Sx.TK.int Go.IntKind.i64, size := (1 : Nat), bytes := (8 : Nat), ty := Option.some (Go.Sx.Ty.int Go.IntKind.i64),
                            zero := [Go.Sx.SV.val (Go.Sx.Ty.int Go.IntKind.i64) (0 : Int)] : Go.Sx.TI }.bytes then
                    Option.some (Sum.inl (Go.IntKind.wrap Go.IntKind.i64 (s1.fst + (1 : Int)), s1.2 ++ [(92 : Int)] ++ [List.getD x (Int.toNat s1.fst) (0 : Int)]))
                  else Option.none
                else Option.none
              else
                if
                    Go.Sx.roomOk (List.length s1.snd + (1 : Nat))
                      { kind := Go.Sx.TK.int Go.IntKind.i64, size := (1 : Nat), bytes := (8 : Nat), ty := Option.some (Go.Sx.Ty.int Go.IntKind.i64),
                          zero := [Go.Sx.SV.val (Go.Sx.Ty.int Go.IntKind.i64) (0 : Int)] : Go.Sx.TI }.bytes then
                  Option.some (Sum.inl (Go.IntKind.wrap Go.IntKind.i64 (s1.fst + (1 : Int)), s1.2 ++ [List.getD x (Int.toNat s1.fst) (0 : Int)]))
                else Option.none
          else Option.none
        else Option.some (Sum.inr s1.2))
      ((0 : Int), []))
    fun (v1 : List Int) => Option.some v1
theorem Z.f17eq : ∀ x, runFn Z.C Z.f17Γ Z.f17sig Z.f17ann Go.Proofs.Try.f17 x = Z.f17F x := by
  intro x
  kernel_rfl
noncomputable def Z.f17con : Con := ⟨17, Z.f17sig, Z.f17F⟩
theorem Z.f17ok : Con.Ok Go.Proofs.Try.prog Z.C Z.f17con :=
  runFn_ok (Γ := Z.f17Γ) (an := Z.f17ann) ⟨Z.Cok, (List.forall_mem_cons.2 ⟨Z.f20ok, (fun _ h => nomatch h)⟩), Z.mixed⟩ Go.Proofs.Try.func17 rfl rfl (fun x y h => (Z.f17eq x).trans h) (by decide)
def Z.f24sig : Sig := ⟨⟨[.hole (.sl (.int .i64)), .hole (.sl (.int .i64))], []⟩, ⟨[.hole .bool], []⟩⟩
noncomputable def Z.f24Γ : List Con := []
def Z.f24ann : Ann :=
  (.seq .leaf (.seq (.seq .leaf (.cond (.seq .leaf .leaf) .leaf)) (.seq (.seq .leaf (.block (.loop ⟨.normal, [(5, .hole (.int .i64))], []⟩ [⟨(.exit 0), [], []⟩, ⟨.ret, [(4, .hole .bool)], []⟩] (.seq (.seq .leaf (.cond .leaf .leaf)) (.seq (.block (.seq .leaf (.cond (.seq .leaf .leaf) .leaf))) .leaf))))) (.seq .leaf .leaf))))
noncomputable def Z.f24F : List Int × List Int → Option (Bool) :=
  fun (x : List Int × List Int) =>
  if ((↑(List.length x.fst) : Int) != (↑(List.length x.snd) : Int)) = Bool.true then Option.some Bool.false
  else
    Option.bind
      (Go.Sx.iter
        (fun (s1 : Int) =>
          if Decidable.decide (s1 < (↑(List.length x.fst) : Int)) = Bool.true then
            if (0 : Int) ≤ s1 ∧ s1 < (↑(List.length x.fst) : Int) then
              if (0 : Int) ≤ s1 ∧ s1 < (↑(List.length x.snd) : Int) then
                if (List.getD x.fst (Int.toNat s1) (0 : Int) != List.getD x.snd (Int.toNat s1) (0 : Int)) = Bool.true then Option.some (Sum.inr (Sum.inr Bool.false))
                else Option.some (Sum.inl (Go.IntKind.wrap Go.IntKind.i64 (s1 + (1 : Int))))
              else Option.none
            else Option.none
          else Option.some (Sum.inr (Sum.inl ())))
        (0 : Int))
      fun (v1 : PUnit ⊕ Bool) => Sum.elim (fun (p2 : PUnit) => Option.some Bool.true) (fun (q2 : Bool) => Option.some q2) v1
theorem Z.f24eq : ∀ x, runFn Z.C Z.f24Γ Z.f24sig Z.f24ann Go.Proofs.Try.f24 x = Z.f24F x := by
  intro x
  kernel_rfl
noncomputable def Z.f24con : Con := ⟨24, Z.f24sig, Z.f24F⟩
theorem Z.f24ok : Con.Ok Go.Proofs.Try.prog Z.C Z.f24con :=
  runFn_ok (Γ := Z.f24Γ) (an := Z.f24ann) ⟨Z.Cok, (fun _ h => nomatch h), Z.mixed⟩ Go.Proofs.Try.func24 rfl rfl (fun x y h => (Z.f24eq x).trans h) (by decide)
def Z.f15sig : Sig := ⟨⟨[], []⟩, ⟨[.hole .bool], []⟩⟩
noncomputable def Z.f15Γ : List Con := [Z.tokOf, Z.f17con, Z.f24con, Z.f20con]
def Z.f15ann : Ann :=
  (.seq .leaf (.seq .leaf (.seq .leaf (.seq .leaf (.seq .leaf .leaf)))))
noncomputable def Z.f15F : PUnit → Option (Bool) :=
  fun (x : PUnit) =>
  Option.bind
    (Go.Sx.Z.tokOfF
      [(97 : Int), (123 : Int), (50 : Int), (44 : Int), (51 : Int), (125 : Int), (63 : Int), (91 : Int), (94 : Int), (98 : Int), (45 : Int), (99 : Int), (92 : Int), (100 : Int), (93 : Int)])
    fun (v1 : List (Int × Int × Int × Int × Int) × Int × Int) =>
    Option.bind (Go.Sx.Z.tokOfF [(97 : Int), (123 : Int), (51 : Int), (44 : Int), (50 : Int), (125 : Int)]) fun (v2 : List (Int × Int × Int × Int × Int) × Int × Int) =>
      Option.bind (Go.Sx.Z.tokOfF [(91 : Int), (122 : Int), (45 : Int), (97 : Int), (93 : Int)]) fun (v3 : List (Int × Int × Int × Int × Int) × Int × Int) =>
        if ((↑(List.length v1.fst) : Int) == (7 : Int)) = Bool.true then
          if (v1.snd.snd == (0 : Int)) = Bool.true then
            if (0 : Int) ≤ (1 : Int) ∧ (1 : Int) < (↑(List.length v1.fst) : Int) then
              if
                  Go.Sx.Ty.eqb
                      (Go.Sx.Ty.st
                        (Go.Sx.Ty.pair (Go.Sx.Ty.int Go.IntKind.i64)
                          (Go.Sx.Ty.pair (Go.Sx.Ty.int Go.IntKind.i64) (Go.Sx.Ty.pair (Go.Sx.Ty.int Go.IntKind.i64) (Go.Sx.Ty.pair (Go.Sx.Ty.int Go.IntKind.i64) (Go.Sx.Ty.int Go.IntKind.i64))))))
                      (List.getD v1.fst (Int.toNat (1 : Int)) ((0 : Int), (0 : Int), (0 : Int), (0 : Int), (0 : Int))) ((6 : Int), (0 : Int), (2 : Int), (3 : Int), (1 : Int)) =
                    Bool.true then
                if (0 : Int) ≤ (2 : Int) ∧ (2 : Int) < (↑(List.length v1.fst) : Int) then
                  if ((List.getD v1.fst (Int.toNat (2 : Int)) ((0 : Int), (0 : Int), (0 : Int), (0 : Int), (0 : Int))).fst == (13 : Int)) = Bool.true then
                    if (0 : Int) ≤ (3 : Int) ∧ (3 : Int) < (↑(List.length v1.fst) : Int) then
                      if ((List.getD v1.fst (Int.toNat (3 : Int)) ((0 : Int), (0 : Int), (0 : Int), (0 : Int), (0 : Int))).snd.fst == (1 : Int)) = Bool.true then
                        if (0 : Int) ≤ (4 : Int) ∧ (4 : Int) < (↑(List.length v1.fst) : Int) then
                          if
                              Go.Sx.Ty.eqb
                                  (Go.Sx.Ty.st
                                    (Go.Sx.Ty.pair (Go.Sx.Ty.int Go.IntKind.i64)
                                      (Go.Sx.Ty.pair (Go.Sx.Ty.int Go.IntKind.i64)
                                        (Go.Sx.Ty.pair (Go.Sx.Ty.int Go.IntKind.i64) (Go.Sx.Ty.pair (Go.Sx.Ty.int Go.IntKind.i64) (Go.Sx.Ty.int Go.IntKind.i64))))))
                                  (List.getD v1.fst (Int.toNat (4 : Int)) ((0 : Int), (0 : Int), (0 : Int), (0 : Int), (0 : Int))) ((9 : Int), (0 : Int), (98 : Int), (99 : Int), (9 : Int)) =
                                Bool.true then
                            if (0 : Int) ≤ (5 : Int) ∧ (5 : Int) < (↑(List.length v1.fst) : Int) then
                              if ((List.getD v1.fst (Int.toNat (5 : Int)) ((0 : Int), (0 : Int), (0 : Int), (0 : Int), (0 : Int))).fst == (12 : Int)) = Bool.true then
                                if (v2.snd.fst == (1 : Int)) = Bool.true then
                                  if (v2.snd.snd == (8 : Int)) = Bool.true then
                                    if (v3.snd.fst == (1 : Int)) = Bool.true then
                                      if (v3.snd.snd == (7 : Int)) = Bool.true then
                                        Option.bind (Go.Sx.Z.f17F [(97 : Int), (46 : Int)]) fun (v4 : List Int) =>
                                          Option.bind (Go.Sx.Z.f24F (v4, [(97 : Int), (92 : Int), (46 : Int)])) fun (v5 : Bool) =>
                                            if v5 = Bool.true then Option.bind (Go.Sx.Z.f20F (45 : Int)) fun (v6 : Bool) => Option.some v6 else Option.some Bool.false
                                      else Option.some Bool.false
                                    else Option.some Bool.false
                                  else Option.some Bool.false
                                else Option.some Bool.false
                              else Option.some Bool.false
                            else Option.none
                          else Option.some Bool.false
                        else Option.none
                      else Option.some Bool.false
                    else Option.none
                  else Option.some Bool.false
                else Option.none
              else Option.some Bool.false
            else Option.none
          else Option.some Bool.false
        else Option.some Bool.false
theorem Z.f15eq : ∀ x, runFn Z.C Z.f15Γ Z.f15sig Z.f15ann Go.Proofs.Try.f15 x = Z.f15F x := by
  intro x
  kernel_rfl
noncomputable def Z.f15con : Con := ⟨15, Z.f15sig, Z.f15F⟩
theorem Z.f15ok : Con.Ok Go.Proofs.Try.prog Z.C Z.f15con :=
  runFn_ok (Γ := Z.f15Γ) (an := Z.f15ann) ⟨Z.Cok, (List.forall_mem_cons.2 ⟨Z.tokOfok, (List.forall_mem_cons.2 ⟨Z.f17ok, (List.forall_mem_cons.2 ⟨Z.f24ok, (List.forall_mem_cons.2 ⟨Z.f20ok, (fun _ h => nomatch h)⟩)⟩)⟩)⟩), Z.mixed⟩ Go.Proofs.Try.func15 rfl rfl (fun x y h => (Z.f15eq x).trans h) (by decide)
def Z.f18sig : Sig := ⟨⟨[.hole (.sl (.st (.pair (.int .i64) (.pair (.int .i64) (.pair (.int .i64) (.pair (.int .i64) (.int .i64))))))), .hole (.sl (.st (.pair (.int .i64) (.pair (.int .i64) (.pair (.int .i64) (.pair (.int .i64) (.int .i64)))))))], []⟩, ⟨[.hole .bool], []⟩⟩
noncomputable def Z.f18Γ : List Con := []
def Z.f18ann : Ann :=
  (.seq .leaf (.seq (.seq .leaf (.cond (.seq .leaf .leaf) .leaf)) (.seq (.seq .leaf (.block (.loop ⟨.normal, [(5, .hole (.int .i64))], []⟩ [⟨(.exit 0), [], []⟩, ⟨.ret, [(4, .hole .bool)], []⟩] (.seq (.seq .leaf (.cond .leaf .leaf)) (.seq (.block (.seq .leaf (.cond (.seq .leaf .leaf) .leaf))) .leaf))))) (.seq .leaf .leaf))))
noncomputable def Z.f18F : List (Int × Int × Int × Int × Int) × List (Int × Int × Int × Int × Int) → Option (Bool) :=
  fun (x : List (Int × Int × Int × Int × Int) × List (Int × Int × Int × Int × Int)) =>
  if ((↑(List.length x.fst) : Int) != (↑(List.length x.snd) : Int)) = Bool.true then Option.some Bool.false
  else
    Option.bind
      (Go.Sx.iter
        (fun (s1 : Int) =>
          if Decidable.decide (s1 < (↑(List.length x.fst) : Int)) = Bool.true then
            if (0 : Int) ≤ s1 ∧ s1 < (↑(List.length x.fst) : Int) then
              if (0 : Int) ≤ s1 ∧ s1 < (↑(List.length x.snd) : Int) then
                if
                    (!Go.Sx.Ty.eqb
                          (Go.Sx.Ty.st
                            (Go.Sx.Ty.pair (Go.Sx.Ty.int Go.IntKind.i64)
                              (Go.Sx.Ty.pair (Go.Sx.Ty.int Go.IntKind.i64) (Go.Sx.Ty.pair (Go.Sx.Ty.int Go.IntKind.i64) (Go.Sx.Ty.pair (Go.Sx.Ty.int Go.IntKind.i64) (Go.Sx.Ty.int Go.IntKind.i64))))))
                          (List.getD x.fst (Int.toNat s1) ((0 : Int), (0 : Int), (0 : Int), (0 : Int), (0 : Int)))
                          (List.getD x.snd (Int.toNat s1) ((0 : Int), (0 : Int), (0 : Int), (0 : Int), (0 : Int)))) =
                      Bool.true then
                  Option.some (Sum.inr (Sum.inr Bool.false))
                else Option.some (Sum.inl (Go.IntKind.wrap Go.IntKind.i64 (s1 + (1 : Int))))
              else Option.none
            else Option.none
          else Option.some (Sum.inr (Sum.inl ())))
        (0 : Int))
      fun (v1 : PUnit ⊕ Bool) => Sum.elim (fun (p2 : PUnit) => Option.some Bool.true) (fun (q2 : Bool) => Option.some q2) v1
theorem Z.f18eq : ∀ x, runFn Z.C Z.f18Γ Z.f18sig Z.f18ann Go.Proofs.Try.f18 x = Z.f18F x := by
  intro x
  kernel_rfl
noncomputable def Z.f18con : Con := ⟨18, Z.f18sig, Z.f18F⟩
theorem Z.f18ok : Con.Ok Go.Proofs.Try.prog Z.C Z.f18con :=
  runFn_ok (Γ := Z.f18Γ) (an := Z.f18ann) ⟨Z.Cok, (fun _ h => nomatch h), Z.mixed⟩ Go.Proofs.Try.func18 rfl rfl (fun x y h => (Z.f18eq x).trans h) (by decide)
def Z.f5sig : Sig := ⟨⟨[.hole (.sl (.int .i64)), .hole (.sl (.int .i64))], []⟩, ⟨[.hole .bool], []⟩⟩
noncomputable def Z.f5Γ : List Con := [Z.f15con, Z.tokOf, Z.f18con]
def Z.f5ann : Ann :=
  (.seq .leaf (.seq (.seq .leaf (.cond (.seq .leaf .leaf) .leaf)) (.seq (.seq (.join [⟨.normal, [(36, .hole .bool)], []⟩] .leaf) (.cond (.seq .leaf .leaf) .leaf)) (.seq .leaf (.seq .leaf (.seq .leaf (.seq (.seq .leaf (.cond (.seq .leaf .leaf) .leaf)) (.seq (.seq .leaf (.cond (.seq .leaf .leaf) .leaf)) (.seq (.seq (.join [⟨.normal, [(85, .hole .bool)], [.gone, .gone, .gone]⟩] .leaf) (.cond (.seq .leaf .leaf) .leaf)) (.seq (.seq .leaf (.block (.loop ⟨.normal, [(14, .hole (.int .i64))], [.gone, .gone, .gone]⟩ [⟨(.exit 0), [], [.gone, .gone, .gone]⟩, ⟨.ret, [(4, .hole .bool)], [.gone, .gone, .gone]⟩] (.seq (.seq .leaf (.cond .leaf .leaf)) (.seq (.block (.seq .leaf (.seq .leaf (.seq .leaf (.cond (.seq .leaf .leaf) .leaf))))) .leaf))))) (.seq .leaf .leaf)))))))))))
noncomputable def Z.f5F : List Int × List Int → Option (Bool) :=
  fun (x : List Int × List Int) =>
  Option.bind (Go.Sx.Z.f15F ()) fun (v1 : Bool) =>
    if (!v1) = Bool.true then Option.some Bool.false
    else
      Option.bind
        (if Decidable.decide ((↑(List.length x.fst) : Int) > (100 : Int)) = Bool.true then Option.some Bool.true
        else
          if Decidable.decide ((↑(List.length x.snd) : Int) > (100 : Int)) = Bool.true then Option.some Bool.true
          else
            if Decidable.decide ((↑(List.length x.snd) : Int) > (0 : Int)) = Bool.true then
              if (0 : Int) ≤ (0 : Int) ∧ (0 : Int) < (↑(List.length x.snd) : Int) then Option.some (List.getD x.snd (Int.toNat (0 : Int)) (0 : Int) == (63 : Int)) else Option.none
            else Option.some Bool.false)
        fun (v2 : Bool) =>
        if v2 = Bool.true then Option.some Bool.true
        else
          Option.bind (Go.Sx.Z.tokOfF x.1) fun (v3 : List (Int × Int × Int × Int × Int) × Int × Int) =>
            Option.bind (Go.Sx.Z.tokOfF x.2) fun (v4 : List (Int × Int × Int × Int × Int) × Int × Int) =>
              if
                  Go.Sx.roomOk ((0 : Nat) + List.length x.1)
                    { kind := Go.Sx.TK.int Go.IntKind.i64, size := (1 : Nat), bytes := (8 : Nat), ty := Option.some (Go.Sx.Ty.int Go.IntKind.i64),
                        zero := [Go.Sx.SV.val (Go.Sx.Ty.int Go.IntKind.i64) (0 : Int)] : Go.Sx.TI }.bytes then
                if
                    Go.Sx.roomOk (List.length ([] ++ x.1) + List.length x.2)
                      { kind := Go.Sx.TK.int Go.IntKind.i64, size := (1 : Nat), bytes := (8 : Nat), ty := Option.some (Go.Sx.Ty.int Go.IntKind.i64),
                          zero := [Go.Sx.SV.val (Go.Sx.Ty.int Go.IntKind.i64) (0 : Int)] : Go.Sx.TI }.bytes then
                  Option.bind (Go.Sx.Z.tokOfF ([] ++ x.1 ++ x.2)) fun (v5 : List (Int × Int × Int × Int × Int) × Int × Int) =>
                    if (v3.snd.snd != (0 : Int)) = Bool.true then Option.some Bool.true
                    else
                      if (v4.snd.snd != (0 : Int)) = Bool.true then
                        if (v5.snd.snd == v4.snd.snd) = Bool.true then Option.some (v5.snd.fst == Go.IntKind.wrap Go.IntKind.i64 (v4.snd.fst + (↑(List.length x.fst) : Int)))
                        else Option.some Bool.false
                      else
                        Option.bind
                          (if (v5.snd.snd != (0 : Int)) = Bool.true then Option.some Bool.true
                          else Option.some ((↑(List.length v5.fst) : Int) != Go.IntKind.wrap Go.IntKind.i64 ((↑(List.length v3.fst) : Int) + (↑(List.length v4.fst) : Int))))
                          fun (v6 : Bool) =>
                          if v6 = Bool.true then Option.some Bool.false
                          else
                            Option.bind
                              (Go.Sx.iter
                                (fun (s7 : Int) =>
                                  if Decidable.decide (s7 < (↑(List.length v4.fst) : Int)) = Bool.true then
                                    if (0 : Int) ≤ s7 ∧ s7 < (↑(List.length v4.fst) : Int) then
                                      if
                                          (0 : Int) ≤ Go.IntKind.wrap Go.IntKind.i64 ((↑(List.length v3.fst) : Int) + s7) ∧
                                            Go.IntKind.wrap Go.IntKind.i64 ((↑(List.length v3.fst) : Int) + s7) < (↑(List.length v5.fst) : Int) then
                                        if
                                            (!Go.Sx.Ty.eqb
                                                  (Go.Sx.Ty.st
                                                    (Go.Sx.Ty.pair (Go.Sx.Ty.int Go.IntKind.i64)
                                                      (Go.Sx.Ty.pair (Go.Sx.Ty.int Go.IntKind.i64)
                                                        (Go.Sx.Ty.pair (Go.Sx.Ty.int Go.IntKind.i64) (Go.Sx.Ty.pair (Go.Sx.Ty.int Go.IntKind.i64) (Go.Sx.Ty.int Go.IntKind.i64))))))
                                                  (List.getD v5.fst (Int.toNat (Go.IntKind.wrap Go.IntKind.i64 ((↑(List.length v3.fst) : Int) + s7)))
                                                    ((0 : Int), (0 : Int), (0 : Int), (0 : Int), (0 : Int)))
                                                  ((List.getD v4.fst (Int.toNat s7) ((0 : Int), (0 : Int), (0 : Int), (0 : Int), (0 : Int))).fst,
                                                    (List.getD v4.fst (Int.toNat s7) ((0 : Int), (0 : Int), (0 : Int), (0 : Int), (0 : Int))).snd.fst,
                                                    (List.getD v4.fst (Int.toNat s7) ((0 : Int), (0 : Int), (0 : Int), (0 : Int), (0 : Int))).snd.snd.fst,
                                                    (List.getD v4.fst (Int.toNat s7) ((0 : Int), (0 : Int), (0 : Int), (0 : Int), (0 : Int))).snd.snd.snd.fst,
                                                    Go.IntKind.wrap Go.IntKind.i64
                                                      ((List.getD v4.fst (Int.toNat s7) ((0 : Int), (0 : Int), (0 : Int), (0 : Int), (0 : Int))).snd.snd.snd.snd + (↑(List.length x.fst) : Int)))) =
                                              Bool.true then
                                          Option.some (Sum.inr (Sum.inr Bool.false))
                                        else Option.some (Sum.inl (Go.IntKind.wrap Go.IntKind.i64 (s7 + (1 : Int))))
                                      else Option.none
                                    else Option.none
                                  else Option.some (Sum.inr (Sum.inl ())))
                                (0 : Int))
                              fun (v7 : PUnit ⊕ Bool) =>
                              Sum.elim
                                (fun (p8 : PUnit) =>
                                  if (0 : Int) ≤ (↑(List.length v3.fst) : Int) ∧ (↑(List.length v3.fst) : Int) ≤ (↑(List.length v5.fst) : Int) then
                                    Option.bind (Go.Sx.Z.f18F (List.take (Int.toNat (↑(List.length v3.fst) : Int)) v5.fst, v3.1)) fun (v9 : Bool) => Option.some v9
                                  else Option.none)
                                (fun (q8 : Bool) => Option.some q8) v7
                else Option.none
              else Option.none
theorem Z.f5eq : ∀ x, runFn Z.C Z.f5Γ Z.f5sig Z.f5ann Go.Proofs.Try.f5 x = Z.f5F x := by
  intro x
  kernel_rfl
noncomputable def Z.f5con : Con := ⟨5, Z.f5sig, Z.f5F⟩
theorem Z.f5ok : Con.Ok Go.Proofs.Try.prog Z.C Z.f5con :=
  runFn_ok (Γ := Z.f5Γ) (an := Z.f5ann) ⟨Z.Cok, (List.forall_mem_cons.2 ⟨Z.f15ok, (List.forall_mem_cons.2 ⟨Z.tokOfok, (List.forall_mem_cons.2 ⟨Z.f18ok, (fun _ h => nomatch h)⟩)⟩)⟩), Z.mixed⟩ Go.Proofs.Try.func5 rfl rfl (fun x y h => (Z.f5eq x).trans h) (by decide)
end Go.Sx
