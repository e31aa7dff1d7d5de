import Derived.Test.YtjmdfkcgglidaaaDoorSxT2
set_option maxRecDepth 100000
set_option maxHeartbeats 0
set_option linter.unusedVariables false
set_option linter.unusedSimpArgs false
namespace Go.Sx
open Go.Proofs
def G.f5sig : Sig := ⟨⟨[.hole (.sl (.int .i64)), .hole (.sl (.int .i64)), .hole (.int .i64)], []⟩, ⟨[.hole .bool], []⟩⟩
noncomputable def G.f5Γ : List Con := [G.f12con, G.f22con, G.f18con, G.f20con]
def G.f5ann : Ann :=
  (.seq .leaf (.seq (.seq .leaf (.cond (.seq .leaf .leaf) .leaf)) (.seq (.seq (.join [⟨.normal, [(19, .hole .bool)], []⟩] .leaf) (.cond (.seq .leaf .leaf) .leaf)) (.seq .leaf (.seq (.seq .leaf (.block (.loop ⟨.normal, [(7, .hole (.int .i64)), (8, .hole (.int .i64))], []⟩ [⟨(.exit 0), [(7, .hole (.int .i64))], []⟩, ⟨.ret, [(6, .hole .bool)], []⟩] (.seq (.seq .leaf (.cond .leaf .leaf)) (.seq (.block (.seq (.join [⟨.normal, [(7, .hole (.int .i64))], []⟩] (.seq .leaf (.cond .leaf .leaf))) (.seq (.join [⟨.normal, [(7, .hole (.int .i64))], []⟩] (.seq .leaf (.cond .leaf .leaf))) (.seq (.join [⟨.normal, [(48, .hole .bool)], []⟩] .leaf) (.cond (.seq .leaf .leaf) .leaf))))) .leaf))))) (.seq (.seq .leaf (.cond (.seq .leaf .leaf) .leaf)) (.seq .leaf (.seq (.fro [1000003] .leaf) .leaf))))))))
noncomputable def G.f5F : List Int × List Int × Int → Option (Bool) :=
  fun (x : List Int × List Int × Int) =>
  Option.bind (Go.Sx.G.f12F ()) fun (v1 : Bool) =>
    if (!v1) = Bool.true then Option.some Bool.false
    else
      Option.bind
        (if Decidable.decide ((↑(List.length x.fst) : Int) > (300 : Int)) = Bool.true then Option.some Bool.true else Option.some (Decidable.decide ((↑(List.length x.snd.fst) : Int) > (300 : Int))))
        fun (v2 : Bool) =>
        if v2 = Bool.true then Option.some Bool.true
        else
          Option.bind
            (Go.Sx.iter
              (fun (s3 : Int × Int) =>
                if Decidable.decide (s3.snd < (↑(List.length x.snd.fst) : Int)) = Bool.true then
                  Option.bind
                    (if (0 : Int) ≤ s3.snd ∧ s3.snd < (↑(List.length x.snd.fst) : Int) then
                      Option.bind (Go.Sx.G.f22F (List.getD x.snd.fst (Int.toNat s3.snd) (0 : Int))) fun (v4 : Bool) =>
                        if v4 = Bool.true then Option.some (Go.IntKind.wrap Go.IntKind.i64 (s3.fst + (1 : Int))) else Option.some s3.1
                    else Option.none)
                    fun (v4 : Int) =>
                    Option.bind
                      (if (0 : Int) ≤ s3.snd ∧ s3.snd < (↑(List.length x.snd.fst) : Int) then
                        if (List.getD x.snd.fst (Int.toNat s3.snd) (0 : Int) == (22 : Int)) = Bool.true then Option.some (Go.IntKind.wrap Go.IntKind.i64 (v4 - (1 : Int))) else Option.some v4
                      else Option.none)
                      fun (v5 : Int) =>
                      Option.bind
                        (if Decidable.decide (v5 < (0 : Int)) = Bool.true then Option.some Bool.true
                        else if (0 : Int) ≤ s3.snd ∧ s3.snd < (↑(List.length x.snd.fst) : Int) then Option.some (List.getD x.snd.fst (Int.toNat s3.snd) (0 : Int) == (10 : Int)) else Option.none)
                        fun (v6 : Bool) => if v6 = Bool.true then Option.some (Sum.inr (Sum.inr Bool.true)) else Option.some (Sum.inl (v5, Go.IntKind.wrap Go.IntKind.i64 (s3.snd + (1 : Int))))
                else Option.some (Sum.inr (Sum.inl s3.1)))
              ((0 : Int), (0 : Int)))
            fun (v3 : Int ⊕ Bool) =>
            Sum.elim
              (fun (p4 : Int) =>
                if (p4 != (0 : Int)) = Bool.true then Option.some Bool.true
                else
                  if
                      Go.Sx.roomOk ((0 : Nat) + (1 : Nat) + List.length x.snd.1)
                        { kind := Go.Sx.TK.int Go.IntKind.i64, size := (1 : Nat), bytes := (8 : Nat), ty := Option.some (Go.Sx.Ty.int Go.IntKind.i64),
                            zero := [Go.Sx.SV.val (Go.Sx.Ty.int Go.IntKind.i64) (0 : Int)] : Go.Sx.TI }.bytes then
                    if
                        Go.Sx.roomOk (List.length ([(21 : Int)] ++ x.snd.1) + (1 : Nat))
                          { kind := Go.Sx.TK.int Go.IntKind.i64, size := (1 : Nat), bytes := (8 : Nat), ty := Option.some (Go.Sx.Ty.int Go.IntKind.i64),
                              zero := [Go.Sx.SV.val (Go.Sx.Ty.int Go.IntKind.i64) (0 : Int)] : Go.Sx.TI }.bytes then
                      if
                          Go.Sx.roomOk (List.length ([(21 : Int)] ++ x.snd.1 ++ [(22 : Int)]) + List.length x.1)
                            { kind := Go.Sx.TK.int Go.IntKind.i64, size := (1 : Nat), bytes := (8 : Nat), ty := Option.some (Go.Sx.Ty.int Go.IntKind.i64),
                                zero := [Go.Sx.SV.val (Go.Sx.Ty.int Go.IntKind.i64) (0 : Int)] : Go.Sx.TI }.bytes then
                        Option.bind (Go.Sx.G.f18F ([(21 : Int)] ++ x.snd.1 ++ [(22 : Int)] ++ x.1, x.snd.2)) fun (v5 : Int) =>
                          Option.bind (Go.Sx.G.f18F (x.1, x.snd.2)) fun (v6 : Int) =>
                            if (v5 == v6) = Bool.true then
                              Option.bind (Go.Sx.G.f20F ([(21 : Int)] ++ x.snd.1 ++ [(22 : Int)], (0 : Int))) fun (v7 : Int) =>
                                Option.bind (Go.Sx.G.f18F (x.snd.1, (0 : Int))) fun (v8 : Int) => Option.some (v7 == v8)
                            else Option.some Bool.false
                      else Option.none
                    else Option.none
                  else Option.none)
              (fun (q4 : Bool) => Option.some q4) v3
theorem G.f5eq : ∀ x, runFn G.C G.f5Γ G.f5sig G.f5ann Go.Proofs.Tryd.f5 x = G.f5F x := by
  intro x
  kernel_rfl
noncomputable def G.f5con : Con := ⟨5, G.f5sig, G.f5F⟩
theorem G.f5ok : Con.Ok Go.Proofs.Tryd.prog G.C G.f5con :=
  runFn_ok (Γ := G.f5Γ) (an := G.f5ann) ⟨G.Cok, (List.forall_mem_cons.2 ⟨G.f12ok, (List.forall_mem_cons.2 ⟨G.f22ok, (List.forall_mem_cons.2 ⟨G.f18ok, (List.forall_mem_cons.2 ⟨G.f20ok, (fun _ h => nomatch h)⟩)⟩)⟩)⟩), G.mixed⟩ Go.Proofs.Tryd.func5 rfl rfl (fun x y h => (G.f5eq x).trans h) (by decide)
end Go.Sx
