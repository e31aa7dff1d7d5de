import Derived.Test.YtemngcdlgnconaaSxTKc
set_option maxRecDepth 100000
set_option linter.unusedVariables false
set_option linter.unusedSimpArgs false
namespace Go.Sx
open Go.Proofs
def Z.f17sig : Sig := ⟨⟨[.hole (.sl (.int .i64))], []⟩, ⟨[.hole (.sl (.int .i64))], []⟩⟩
noncomputable def Z.f17Γ : List Con := [Z.f20con]
def Z.f17ann : Ann :=
  (.seq .leaf (.seq .leaf (.seq (.seq .leaf (.block (.loop ⟨.normal, [(3, .own 0), (8, .hole (.int .i64))], [.arr 3 (.int .i64)]⟩ [⟨(.exit 0), [(3, .own 0)], [.arr 3 (.int .i64)]⟩] (.seq .leaf (.seq (.cond .leaf .leaf) (.seq (.block (.seq .leaf (.seq (.seq .leaf (.cond .leaf .leaf)) .leaf))) .leaf)))))) (.seq .leaf .leaf))))
noncomputable def Z.f17F : List Int → Option (List Int) :=
  fun (x : List Int) =>
  Option.bind
    (Go.Sx.iter
      (fun (s1 : Int × List Int) =>
        if Decidable.decide (s1.fst < (↑(List.length x) : Int)) = Bool.true then
          if (0 : Int) ≤ s1.fst ∧ s1.fst < (↑(List.length x) : Int) then
            Option.bind (Go.Sx.Z.f20F (List.getD x (Int.toNat s1.fst) (0 : Int))) fun (v2 : Bool) =>
              if v2 = Bool.true then
                if
                    Go.Sx.roomOk (List.length s1.snd + (1 : Nat))
                      { kind := Go.Sx.TK.int Go.IntKind.i64, size := (1 : Nat), bytes := (8 : Nat), ty := Option.some (Go.Sx.Ty.int Go.IntKind.i64),
                          zero := [Go.Sx.SV.val (Go.Sx.Ty.int Go.IntKind.i64) (0 : Int)] : Go.Sx.TI }.bytes then
                  if
                      Go.Sx.roomOk (List.length (s1.2 ++ [(92 : Int)]) + (1 : Nat))
                        { kind := Go.Sx.TK.int Go.IntKind.i64, size := (1 : Nat), bytes := (8 : Nat), ty := Option.some (Go.Sx.Ty.int Go.IntKind.i64),
                            zero := [Go.Sx.SV.val (Go.Sx.Ty.int Go.IntKind.i64) (0 : Int)] : Go.Sx.TI }.bytes then
                    Option.some (Sum.inl (Go.IntKind.wrap Go.IntKind.i64 (s1.fst + (1 : Int)), s1.2 ++ [(92 : Int)] ++ [List.getD x (Int.toNat s1.fst) (0 : Int)]))
                  else Option.none
                else Option.none
              else
                if
                    Go.Sx.roomOk (List.length s1.snd + (1 : Nat))
                      { kind := Go.Sx.TK.int Go.IntKind.i64, size := (1 : Nat), bytes := (8 : Nat), ty := Option.some (Go.Sx.Ty.int Go.IntKind.i64),
                          zero := [Go.Sx.SV.val (Go.Sx.Ty.int Go.IntKind.i64) (0 : Int)] : Go.Sx.TI }.bytes then
                  Option.some (Sum.inl (Go.IntKind.wrap Go.IntKind.i64 (s1.fst + (1 : Int)), s1.2 ++ [List.getD x (Int.toNat s1.fst) (0 : Int)]))
                else Option.none
          else Option.none
        else Option.some (Sum.inr s1.2))
      ((0 : Int), []))
    fun (v1 : List Int) => Option.some v1
theorem Z.f17eq : ∀ x, runFn Z.C Z.f17Γ Z.f17sig Z.f17ann Go.Proofs.Try.f17 x = Z.f17F x := by
  intro x
  kernel_rfl
noncomputable def Z.f17con : Con := ⟨17, Z.f17sig, Z.f17F⟩
theorem Z.f17ok : Con.Ok Go.Proofs.Try.prog Z.C Z.f17con :=
  runFn_ok (Γ := Z.f17Γ) (an := Z.f17ann) ⟨Z.Cok, (List.forall_mem_cons.2 ⟨Z.f20ok, (fun _ h => nomatch h)⟩), Z.mixed⟩ Go.Proofs.Try.func17 rfl rfl (fun x y h => (Z.f17eq x).trans h) (by decide)
def Z.f24sig : Sig := ⟨⟨[.hole (.sl (.int .i64)), .hole (.sl (.int .i64))], []⟩, ⟨[.hole .bool], []⟩⟩
noncomputable def Z.f24Γ : List Con := []
def Z.f24ann : Ann :=
  (.seq .leaf (.seq (.seq .leaf (.cond (.seq .leaf .leaf) .leaf)) (.seq (.seq .leaf (.block (.loop ⟨.normal, [(5, .hole (.int .i64))], []⟩ [⟨(.exit 0), [], []⟩, ⟨.ret, [(4, .hole .bool)], []⟩] (.seq (.seq .leaf (.cond .leaf .leaf)) (.seq (.block (.seq .leaf (.cond (.seq .leaf .leaf) .leaf))) .leaf))))) (.seq .leaf .leaf))))
noncomputable def Z.f24F : List Int × List Int → Option (Bool) :=
  fun (x : List Int × List Int) =>
  if ((↑(List.length x.fst) : Int) != (↑(List.length x.snd) : Int)) = Bool.true then Option.some Bool.false
  else
    Option.bind
      (Go.Sx.iter
        (fun (s1 : Int) =>
          if Decidable.decide (s1 < (↑(List.length x.fst) : Int)) = Bool.true then
            if (0 : Int) ≤ s1 ∧ s1 < (↑(List.length x.fst) : Int) then
              if (0 : Int) ≤ s1 ∧ s1 < (↑(List.length x.snd) : Int) then
                if (List.getD x.fst (Int.toNat s1) (0 : Int) != List.getD x.snd (Int.toNat s1) (0 : Int)) = Bool.true then Option.some (Sum.inr (Sum.inr Bool.false))
                else Option.some (Sum.inl (Go.IntKind.wrap Go.IntKind.i64 (s1 + (1 : Int))))
              else Option.none
            else Option.none
          else Option.some (Sum.inr (Sum.inl ())))
        (0 : Int))
      fun (v1 : PUnit ⊕ Bool) => Sum.elim (fun (p2 : PUnit) => Option.some Bool.true) (fun (q2 : Bool) => Option.some q2) v1
theorem Z.f24eq : ∀ x, runFn Z.C Z.f24Γ Z.f24sig Z.f24ann Go.Proofs.Try.f24 x = Z.f24F x := by
  intro x
  kernel_rfl
noncomputable def Z.f24con : Con := ⟨24, Z.f24sig, Z.f24F⟩
theorem Z.f24ok : Con.Ok Go.Proofs.Try.prog Z.C Z.f24con :=
  runFn_ok (Γ := Z.f24Γ) (an := Z.f24ann) ⟨Z.Cok, (fun _ h => nomatch h), Z.mixed⟩ Go.Proofs.Try.func24 rfl rfl (fun x y h => (Z.f24eq x).trans h) (by decide)
def Z.f15sig : Sig := ⟨⟨[], []⟩, ⟨[.hole .bool], []⟩⟩
noncomputable def Z.f15Γ : List Con := [Z.tokOf, Z.f17con, Z.f24con, Z.f20con]
def Z.f15ann : Ann :=
  (.seq .leaf (.seq .leaf (.seq .leaf (.seq .leaf (.seq .leaf .leaf)))))
noncomputable def Z.f15F : PUnit → Option (Bool) :=
  fun (x : PUnit) =>
  Option.bind
    (Go.Sx.Z.tokOfF
      [(97 : Int), (123 : Int), (50 : Int), (44 : Int), (51 : Int), (125 : Int), (63 : Int), (91 : Int), (94 : Int), (98 : Int), (45 : Int), (99 : Int), (92 : Int), (100 : Int), (93 : Int)])
    fun (v1 : List (Int × Int × Int × Int × Int) × Int × Int) =>
    Option.bind (Go.Sx.Z.tokOfF [(97 : Int), (123 : Int), (51 : Int), (44 : Int), (50 : Int), (125 : Int)]) fun (v2 : List (Int × Int × Int × Int × Int) × Int × Int) =>
      Option.bind (Go.Sx.Z.tokOfF [(91 : Int), (122 : Int), (45 : Int), (97 : Int), (93 : Int)]) fun (v3 : List (Int × Int × Int × Int × Int) × Int × Int) =>
        if ((↑(List.length v1.fst) : Int) == (7 : Int)) = Bool.true then
          if (v1.snd.snd == (0 : Int)) = Bool.true then
            if (0 : Int) ≤ (1 : Int) ∧ (1 : Int) < (↑(List.length v1.fst) : Int) then
              if
                  Go.Sx.Ty.eqb
                      (Go.Sx.Ty.st
                        (Go.Sx.Ty.pair (Go.Sx.Ty.int Go.IntKind.i64)
                          (Go.Sx.Ty.pair (Go.Sx.Ty.int Go.IntKind.i64) (Go.Sx.Ty.pair (Go.Sx.Ty.int Go.IntKind.i64) (Go.Sx.Ty.pair (Go.Sx.Ty.int Go.IntKind.i64) (Go.Sx.Ty.int Go.IntKind.i64))))))
                      (List.getD v1.fst (Int.toNat (1 : Int)) ((0 : Int), (0 : Int), (0 : Int), (0 : Int), (0 : Int))) ((6 : Int), (0 : Int), (2 : Int), (3 : Int), (1 : Int)) =
                    Bool.true then
                if (0 : Int) ≤ (2 : Int) ∧ (2 : Int) < (↑(List.length v1.fst) : Int) then
                  if ((List.getD v1.fst (Int.toNat (2 : Int)) ((0 : Int), (0 : Int), (0 : Int), (0 : Int), (0 : Int))).fst == (13 : Int)) = Bool.true then
                    if (0 : Int) ≤ (3 : Int) ∧ (3 : Int) < (↑(List.length v1.fst) : Int) then
                      if ((List.getD v1.fst (Int.toNat (3 : Int)) ((0 : Int), (0 : Int), (0 : Int), (0 : Int), (0 : Int))).snd.fst == (1 : Int)) = Bool.true then
                        if (0 : Int) ≤ (4 : Int) ∧ (4 : Int) < (↑(List.length v1.fst) : Int) then
                          if
                              Go.Sx.Ty.eqb
                                  (Go.Sx.Ty.st
                                    (Go.Sx.Ty.pair (Go.Sx.Ty.int Go.IntKind.i64)
                                      (Go.Sx.Ty.pair (Go.Sx.Ty.int Go.IntKind.i64)
                                        (Go.Sx.Ty.pair (Go.Sx.Ty.int Go.IntKind.i64) (Go.Sx.Ty.pair (Go.Sx.Ty.int Go.IntKind.i64) (Go.Sx.Ty.int Go.IntKind.i64))))))
                                  (List.getD v1.fst (Int.toNat (4 : Int)) ((0 : Int), (0 : Int), (0 : Int), (0 : Int), (0 : Int))) ((9 : Int), (0 : Int), (98 : Int), (99 : Int), (9 : Int)) =
                                Bool.true then
                            if (0 : Int) ≤ (5 : Int) ∧ (5 : Int) < (↑(List.length v1.fst) : Int) then
                              if ((List.getD v1.fst (Int.toNat (5 : Int)) ((0 : Int), (0 : Int), (0 : Int), (0 : Int), (0 : Int))).fst == (12 : Int)) = Bool.true then
                                if (v2.snd.fst == (1 : Int)) = Bool.true then
                                  if (v2.snd.snd == (8 : Int)) = Bool.true then
                                    if (v3.snd.fst == (1 : Int)) = Bool.true then
                                      if (v3.snd.snd == (7 : Int)) = Bool.true then
                                        Option.bind (Go.Sx.Z.f17F [(97 : Int), (46 : Int)]) fun (v4 : List Int) =>
                                          Option.bind (Go.Sx.Z.f24F (v4, [(97 : Int), (92 : Int), (46 : Int)])) fun (v5 : Bool) =>
                                            if v5 = Bool.true then Option.bind (Go.Sx.Z.f20F (45 : Int)) fun (v6 : Bool) => Option.some v6 else Option.some Bool.false
                                      else Option.some Bool.false
                                    else Option.some Bool.false
                                  else Option.some Bool.false
                                else Option.some Bool.false
                              else Option.some Bool.false
                            else Option.none
                          else Option.some Bool.false
                        else Option.none
                      else Option.some Bool.false
                    else Option.none
                  else Option.some Bool.false
                else Option.none
              else Option.some Bool.false
            else Option.none
          else Option.some Bool.false
        else Option.some Bool.false
theorem Z.f15eq : ∀ x, runFn Z.C Z.f15Γ Z.f15sig Z.f15ann Go.Proofs.Try.f15 x = Z.f15F x := by
  intro x
  kernel_rfl
noncomputable def Z.f15con : Con := ⟨15, Z.f15sig, Z.f15F⟩
theorem Z.f15ok : Con.Ok Go.Proofs.Try.prog Z.C Z.f15con :=
  runFn_ok (Γ := Z.f15Γ) (an := Z.f15ann) ⟨Z.Cok, (List.forall_mem_cons.2 ⟨Z.tokOfok, (List.forall_mem_cons.2 ⟨Z.f17ok, (List.forall_mem_cons.2 ⟨Z.f24ok, (List.forall_mem_cons.2 ⟨Z.f20ok, (fun _ h => nomatch h)⟩)⟩)⟩)⟩), Z.mixed⟩ Go.Proofs.Try.func15 rfl rfl (fun x y h => (Z.f15eq x).trans h) (by decide)
def Z.f4sig : Sig := ⟨⟨[.hole (.sl (.int .i64))], []⟩, ⟨[.hole .bool], []⟩⟩
noncomputable def Z.f4Γ : List Con := [Z.f15con, Z.tokOf]
def Z.f4ann : Ann :=
  (.seq .leaf (.seq (.seq .leaf (.cond (.seq .leaf .leaf) .leaf)) (.seq (.seq .leaf (.cond (.seq .leaf .leaf) .leaf)) (.seq .leaf (.seq (.seq .leaf (.cond (.seq .leaf .leaf) .leaf)) (.seq .leaf (.seq (.seq .leaf (.block (.loop ⟨.normal, [(6, .hole .bool), (7, .hole (.int .i64))], []⟩ [⟨(.exit 0), [(6, .hole .bool)], []⟩, ⟨.ret, [(2, .hole .bool)], []⟩] (.seq (.seq .leaf (.cond .leaf .leaf)) (.seq (.block (.seq .leaf (.seq (.seq (.join [⟨.normal, [(105, .hole .bool)], []⟩] .leaf) (.cond (.seq .leaf .leaf) .leaf)) (.block (.seq .leaf (.cond (.seq (.seq .leaf (.cond (.seq .leaf .leaf) .leaf)) .leaf) (.seq .leaf (.cond (.seq (.seq .leaf (.cond (.seq .leaf .leaf) .leaf)) .leaf) (.seq (.join [⟨.normal, [(115, .hole .bool)], []⟩] (.seq (.join [⟨.normal, [(115, .hole .bool)], []⟩] .leaf) (.cond .leaf .leaf))) (.cond (.seq .leaf .leaf) (.seq (.join [⟨.normal, [(148, .hole .bool)], []⟩] (.seq (.join [⟨.normal, [(148, .hole .bool)], []⟩] .leaf) (.cond .leaf .leaf))) (.cond (.seq .leaf .leaf) .leaf)))))))))))) .leaf))))) (.seq .leaf .leaf))))))))
noncomputable def Z.f4F : List Int → Option (Bool) :=
  fun (x : List Int) =>
  Option.bind (Go.Sx.Z.f15F ()) fun (v1 : Bool) =>
    if (!v1) = Bool.true then Option.some Bool.false
    else
      if Decidable.decide ((↑(List.length x) : Int) > (300 : Int)) = Bool.true then Option.some Bool.true
      else
        Option.bind (Go.Sx.Z.tokOfF x) fun (v2 : List (Int × Int × Int × Int × Int) × Int × Int) =>
          if (v2.snd.snd != (0 : Int)) = Bool.true then
            if ((↑(List.length v2.fst) : Int) == (0 : Int)) = Bool.true then
              if Decidable.decide (v2.snd.fst ≥ (0 : Int)) = Bool.true then
                if Decidable.decide (v2.snd.fst ≤ (↑(List.length x) : Int)) = Bool.true then
                  if (v2.snd.snd != (4 : Int)) = Bool.true then Option.some (Decidable.decide ((↑(List.length x) : Int) > (200 : Int)) == (v2.snd.snd == (10 : Int)))
                  else
                    if (v2.snd.fst == (↑(List.length x) : Int)) = Bool.true then Option.some (Decidable.decide ((↑(List.length x) : Int) > (200 : Int)) == (v2.snd.snd == (10 : Int)))
                    else Option.some Bool.false
                else Option.some Bool.false
              else Option.some Bool.false
            else Option.some Bool.false
          else
            Option.bind
              (Go.Sx.iter
                (fun (s3 : Bool × Int) =>
                  if Decidable.decide (s3.snd < (↑(List.length v2.fst) : Int)) = Bool.true then
                    if (0 : Int) ≤ s3.snd ∧ s3.snd < (↑(List.length v2.fst) : Int) then
                      Option.bind
                        (if (0 : Int) ≤ s3.snd ∧ s3.snd < (↑(List.length v2.fst) : Int) then
                          if Decidable.decide ((List.getD v2.fst (Int.toNat s3.snd) ((0 : Int), (0 : Int), (0 : Int), (0 : Int), (0 : Int))).snd.snd.snd.snd < (0 : Int)) = Bool.true then
                            Option.some Bool.true
                          else
                            if (0 : Int) ≤ s3.snd ∧ s3.snd < (↑(List.length v2.fst) : Int) then
                              if
                                  Decidable.decide ((List.getD v2.fst (Int.toNat s3.snd) ((0 : Int), (0 : Int), (0 : Int), (0 : Int), (0 : Int))).snd.snd.snd.snd ≥ (↑(List.length x) : Int)) =
                                    Bool.true then
                                Option.some Bool.true
                              else
                                if Decidable.decide (s3.snd > (0 : Int)) = Bool.true then
                                  if (0 : Int) ≤ Go.IntKind.wrap Go.IntKind.i64 (s3.snd - (1 : Int)) ∧ Go.IntKind.wrap Go.IntKind.i64 (s3.snd - (1 : Int)) < (↑(List.length v2.fst) : Int) then
                                    if (0 : Int) ≤ s3.snd ∧ s3.snd < (↑(List.length v2.fst) : Int) then
                                      if
                                          Decidable.decide
                                              ((List.getD v2.fst (Int.toNat (Go.IntKind.wrap Go.IntKind.i64 (s3.snd - (1 : Int))))
                                                          ((0 : Int), (0 : Int), (0 : Int), (0 : Int), (0 : Int))).snd.snd.snd.snd ≥
                                                (List.getD v2.fst (Int.toNat s3.snd) ((0 : Int), (0 : Int), (0 : Int), (0 : Int), (0 : Int))).snd.snd.snd.snd) =
                                            Bool.true then
                                        Option.some Bool.true
                                      else
                                        if Decidable.decide ((List.getD v2.fst (Int.toNat s3.snd) ((0 : Int), (0 : Int), (0 : Int), (0 : Int), (0 : Int))).fst < (1 : Int)) = Bool.true then
                                          Option.some Bool.true
                                        else Option.some (Decidable.decide ((List.getD v2.fst (Int.toNat s3.snd) ((0 : Int), (0 : Int), (0 : Int), (0 : Int), (0 : Int))).fst > (13 : Int)))
                                    else Option.none
                                  else Option.none
                                else
                                  if Decidable.decide ((List.getD v2.fst (Int.toNat s3.snd) ((0 : Int), (0 : Int), (0 : Int), (0 : Int), (0 : Int))).fst < (1 : Int)) = Bool.true then
                                    Option.some Bool.true
                                  else Option.some (Decidable.decide ((List.getD v2.fst (Int.toNat s3.snd) ((0 : Int), (0 : Int), (0 : Int), (0 : Int), (0 : Int))).fst > (13 : Int)))
                            else Option.none
                        else Option.none)
                        fun (v4 : Bool) =>
                        if v4 = Bool.true then Option.some (Sum.inr (Sum.inr Bool.false))
                        else
                          if ((List.getD v2.fst (Int.toNat s3.snd) ((0 : Int), (0 : Int), (0 : Int), (0 : Int), (0 : Int))).fst == (7 : Int)) = Bool.true then
                            if s3.fst = Bool.true then Option.some (Sum.inr (Sum.inr Bool.false)) else Option.some (Sum.inl (Bool.true, Go.IntKind.wrap Go.IntKind.i64 (s3.snd + (1 : Int))))
                          else
                            if ((List.getD v2.fst (Int.toNat s3.snd) ((0 : Int), (0 : Int), (0 : Int), (0 : Int), (0 : Int))).fst == (8 : Int)) = Bool.true then
                              if (!s3.fst) = Bool.true then Option.some (Sum.inr (Sum.inr Bool.false)) else Option.some (Sum.inl (Bool.false, Go.IntKind.wrap Go.IntKind.i64 (s3.snd + (1 : Int))))
                            else
                              Option.bind
                                (Option.bind
                                  (if ((List.getD v2.fst (Int.toNat s3.snd) ((0 : Int), (0 : Int), (0 : Int), (0 : Int), (0 : Int))).fst == (9 : Int)) = Bool.true then
                                    if (!s3.fst) = Bool.true then Option.some Bool.true
                                    else
                                      if (0 : Int) ≤ s3.snd ∧ s3.snd < (↑(List.length v2.fst) : Int) then
                                        if (0 : Int) ≤ s3.snd ∧ s3.snd < (↑(List.length v2.fst) : Int) then
                                          Option.some
                                            (Decidable.decide
                                              ((List.getD v2.fst (Int.toNat s3.snd) ((0 : Int), (0 : Int), (0 : Int), (0 : Int), (0 : Int))).snd.snd.fst >
                                                (List.getD v2.fst (Int.toNat s3.snd) ((0 : Int), (0 : Int), (0 : Int), (0 : Int), (0 : Int))).snd.snd.snd.fst))
                                        else Option.none
                                      else Option.none
                                  else Option.some Bool.false)
                                  fun (v5 : Bool) =>
                                  if v5 = Bool.true then Option.some Bool.true
                                  else
                                    if s3.fst = Bool.true then
                                      if ((List.getD v2.fst (Int.toNat s3.snd) ((0 : Int), (0 : Int), (0 : Int), (0 : Int), (0 : Int))).fst != (1 : Int)) = Bool.true then
                                        if ((List.getD v2.fst (Int.toNat s3.snd) ((0 : Int), (0 : Int), (0 : Int), (0 : Int), (0 : Int))).fst != (12 : Int)) = Bool.true then
                                          Option.some ((List.getD v2.fst (Int.toNat s3.snd) ((0 : Int), (0 : Int), (0 : Int), (0 : Int), (0 : Int))).fst != (9 : Int))
                                        else Option.some Bool.false
                                      else Option.some Bool.false
                                    else Option.some Bool.false)
                                fun (v5 : Bool) =>
                                if v5 = Bool.true then Option.some (Sum.inr (Sum.inr Bool.false))
                                else
                                  Option.bind
                                    (Option.bind
                                      (if ((List.getD v2.fst (Int.toNat s3.snd) ((0 : Int), (0 : Int), (0 : Int), (0 : Int), (0 : Int))).fst == (13 : Int)) = Bool.true then
                                        if (s3.snd == (0 : Int)) = Bool.true then Option.some Bool.true
                                        else
                                          if (0 : Int) ≤ Go.IntKind.wrap Go.IntKind.i64 (s3.snd - (1 : Int)) ∧ Go.IntKind.wrap Go.IntKind.i64 (s3.snd - (1 : Int)) < (↑(List.length v2.fst) : Int) then
                                            Option.some
                                              ((List.getD v2.fst (Int.toNat (Go.IntKind.wrap Go.IntKind.i64 (s3.snd - (1 : Int)))) ((0 : Int), (0 : Int), (0 : Int), (0 : Int), (0 : Int))).fst !=
                                                (6 : Int))
                                          else Option.none
                                      else Option.some Bool.false)
                                      fun (v6 : Bool) =>
                                      if v6 = Bool.true then Option.some Bool.true
                                      else
                                        if ((List.getD v2.fst (Int.toNat s3.snd) ((0 : Int), (0 : Int), (0 : Int), (0 : Int), (0 : Int))).fst == (6 : Int)) = Bool.true then
                                          if (0 : Int) ≤ s3.snd ∧ s3.snd < (↑(List.length v2.fst) : Int) then
                                            if Decidable.decide ((List.getD v2.fst (Int.toNat s3.snd) ((0 : Int), (0 : Int), (0 : Int), (0 : Int), (0 : Int))).snd.snd.fst < (0 : Int)) = Bool.true then
                                              Option.some Bool.true
                                            else
                                              if (0 : Int) ≤ s3.snd ∧ s3.snd < (↑(List.length v2.fst) : Int) then
                                                if
                                                    Decidable.decide ((List.getD v2.fst (Int.toNat s3.snd) ((0 : Int), (0 : Int), (0 : Int), (0 : Int), (0 : Int))).snd.snd.fst > (20 : Int)) =
                                                      Bool.true then
                                                  Option.some Bool.true
                                                else
                                                  if (0 : Int) ≤ s3.snd ∧ s3.snd < (↑(List.length v2.fst) : Int) then
                                                    if
                                                        Decidable.decide ((List.getD v2.fst (Int.toNat s3.snd) ((0 : Int), (0 : Int), (0 : Int), (0 : Int), (0 : Int))).snd.snd.snd.fst > (20 : Int)) =
                                                          Bool.true then
                                                      Option.some Bool.true
                                                    else
                                                      if (0 : Int) ≤ s3.snd ∧ s3.snd < (↑(List.length v2.fst) : Int) then
                                                        if
                                                            Decidable.decide
                                                                ((List.getD v2.fst (Int.toNat s3.snd) ((0 : Int), (0 : Int), (0 : Int), (0 : Int), (0 : Int))).snd.snd.snd.fst ≥ (0 : Int)) =
                                                              Bool.true then
                                                          if (0 : Int) ≤ s3.snd ∧ s3.snd < (↑(List.length v2.fst) : Int) then
                                                            if (0 : Int) ≤ s3.snd ∧ s3.snd < (↑(List.length v2.fst) : Int) then
                                                              Option.some
                                                                (Decidable.decide
                                                                  ((List.getD v2.fst (Int.toNat s3.snd) ((0 : Int), (0 : Int), (0 : Int), (0 : Int), (0 : Int))).snd.snd.snd.fst <
                                                                    (List.getD v2.fst (Int.toNat s3.snd) ((0 : Int), (0 : Int), (0 : Int), (0 : Int), (0 : Int))).snd.snd.fst))
                                                            else Option.none
                                                          else Option.none
                                                        else Option.some Bool.false
                                                      else Option.none
                                                  else Option.none
                                              else Option.none
                                          else Option.none
                                        else Option.some Bool.false)
                                    fun (v6 : Bool) =>
                                    if v6 = Bool.true then Option.some (Sum.inr (Sum.inr Bool.false)) else Option.some (Sum.inl (s3.1, Go.IntKind.wrap Go.IntKind.i64 (s3.snd + (1 : Int))))
                    else Option.none
                  else Option.some (Sum.inr (Sum.inl s3.1)))
                (Bool.false, (0 : Int)))
              fun (v3 : Bool ⊕ Bool) => Sum.elim (fun (p4 : Bool) => Option.some !p4) (fun (q4 : Bool) => Option.some q4) v3
theorem Z.f4eq : ∀ x, runFn Z.C Z.f4Γ Z.f4sig Z.f4ann Go.Proofs.Try.f4 x = Z.f4F x := by
  intro x
  kernel_rfl
noncomputable def Z.f4con : Con := ⟨4, Z.f4sig, Z.f4F⟩
theorem Z.f4ok : Con.Ok Go.Proofs.Try.prog Z.C Z.f4con :=
  runFn_ok (Γ := Z.f4Γ) (an := Z.f4ann) ⟨Z.Cok, (List.forall_mem_cons.2 ⟨Z.f15ok, (List.forall_mem_cons.2 ⟨Z.tokOfok, (fun _ h => nomatch h)⟩)⟩), Z.mixed⟩ Go.Proofs.Try.func4 rfl rfl (fun x y h => (Z.f4eq x).trans h) (by decide)
end Go.Sx
