/- The functions, with a bound on rounds: to be run. -/
import Derived.Test.YtjmmbgjdfmceeaaSxT5
import Derived.Test.YtjmmbgjdfmceeaaSxEv
set_option linter.unusedVariables false
set_option linter.unusedSimpArgs false
namespace Go.Sx

def S.f69E (n : Nat) : Int × Int → Option (Bool × Int) :=
  fun (x : Int × Int) => if Decidable.decide (x.fst ≥ (0 : Int)) = Bool.true then Option.some (Decidable.decide (x.fst < x.snd), x.2) else Option.some (Bool.false, x.2)
theorem S.f69E_le (n : Nat) (h : n ≤ S.fuel) : ∀ x, Le (S.f69E n x) (S.f69F x) := by
  intro x
  unfold S.f69E S.f69F
  repeat' (first | with_reducible exact Le.rfl | with_reducible apply Le.bind | with_reducible apply Le.iter | with_reducible apply Le.ite | with_reducible apply Le.elim | intro _)
def S.f71E (n : Nat) : (Int × List (Int × Int) × Int × Int) × Int → Option (Bool × Int) :=
  fun (x : (Int × List (Int × Int) × Int × Int) × Int) =>
  Option.bind
    (if (x.fst.fst == (0 : Int)) = Bool.true then Option.some (Bool.true, x.2, x.fst.1, x.fst.snd.1, x.fst.snd.snd.1, x.fst.snd.snd.2)
    else
      if (x.fst.fst == (1 : Int)) = Bool.true then Option.some (Bool.true, x.2, x.fst.1, x.fst.snd.1, x.fst.snd.snd.1, x.fst.snd.snd.2)
      else
        if (x.fst.fst == (4 : Int)) = Bool.true then Option.some (Bool.true, x.2, x.fst.1, x.fst.snd.1, x.fst.snd.snd.1, x.fst.snd.snd.2)
        else Option.some (x.fst.fst == (5 : Int), x.2, x.fst.1, x.fst.snd.1, x.fst.snd.snd.1, x.fst.snd.snd.2))
    fun (v1 : Bool × Int × Int × List (Int × Int) × Int × Int) =>
    if v1.fst = Bool.true then Option.some (Bool.false, v1.snd.1)
    else
      if (x.fst.fst == (2 : Int)) = Bool.true then
        Option.bind (S.f69E n (v1.snd.snd.snd.snd.1, v1.snd.1)) fun (v2 : Bool × Int) =>
          if (!v2.fst) = Bool.true then Option.some (Bool.true, v2.2) else Option.bind (S.f69E n (v1.snd.snd.snd.snd.2, v2.2)) fun (v3 : Bool × Int) => Option.some (!v3.fst, v3.2)
      else
        if (x.fst.fst == (3 : Int)) = Bool.true then Option.bind (S.f69E n (v1.snd.snd.snd.snd.1, v1.snd.1)) fun (v2 : Bool × Int) => Option.some (!v2.fst, v2.2)
        else Option.some (Bool.true, v1.snd.1)
theorem S.f71E_le (n : Nat) (h : n ≤ S.fuel) : ∀ x, Le (S.f71E n x) (S.f71F x) := by
  intro x
  unfold S.f71E S.f71F
  repeat' (first | with_reducible exact Le.rfl | with_reducible exact S.f69E_le n h _ | with_reducible apply Le.bind | with_reducible apply Le.iter | with_reducible apply Le.ite | with_reducible apply Le.elim | intro _)
def S.s0E (n : Nat) : List (Int × List (Int × Int) × Int × Int) × Int → Option (Int × Int) :=
  fun (x : List (Int × List (Int × Int) × Int × Int) × Int) =>
  Option.bind
    (Go.Sx.iterE n
      (fun (s1 : Int × Int) =>
        if Decidable.decide (s1.fst < (↑(List.length x.fst) : Int)) = Bool.true then
          if (0 : Int) ≤ s1.fst ∧ s1.fst < (↑(List.length x.fst) : Int) then
            Option.bind (S.f71E n (List.getD x.fst (Int.toNat s1.fst) ((0 : Int), [], (0 : Int), (0 : Int)), s1.2)) fun (v2 : Bool × Int) =>
              if v2.fst = Bool.true then Option.some (Sum.inr (Sum.inr (s1.1, v2.2))) else Option.some (Sum.inl (Go.IntKind.wrap Go.IntKind.i64 (s1.fst + (1 : Int)), v2.2))
          else Option.none
        else Option.some (Sum.inr (Sum.inl s1.2)))
      ((0 : Int), x.2))
    fun (v1 : Int ⊕ Int × Int) => Sum.elim (fun (p2 : Int) => Option.some ((-1 : Int), p2)) (fun (q2 : Int × Int) => Option.some (q2.1, q2.2)) v1
theorem S.s0E_le (n : Nat) (h : n ≤ S.fuel) : ∀ x, Le (S.s0E n x) (S.s0F x) := by
  intro x
  unfold S.s0E S.s0F
  repeat' (first | with_reducible exact Le.rfl | with_reducible exact S.f71E_le n h _ | with_reducible apply Le.bind | with_reducible apply Le.iter | with_reducible apply Le.ite | with_reducible apply Le.elim | intro _)
def S.s1E (n : Nat) : List (Int × List (Int × Int) × Int × Int) × Int → Option (Bool × Int) :=
  fun (x : List (Int × List (Int × Int) × Int × Int) × Int) => Option.bind (S.s0E n (x.1, x.2)) fun (v1 : Int × Int) => Option.some (Decidable.decide (v1.fst ≥ (0 : Int)), v1.2)
theorem S.s1E_le (n : Nat) (h : n ≤ S.fuel) : ∀ x, Le (S.s1E n x) (S.s1F x) := by
  intro x
  unfold S.s1E S.s1F
  repeat' (first | with_reducible exact Le.rfl | with_reducible exact S.s0E_le n h _ | with_reducible apply Le.bind | with_reducible apply Le.iter | with_reducible apply Le.ite | with_reducible apply Le.elim | intro _)
def S.f42E (n : Nat) : List (Int × List (Int × Int) × Int × Int) → Option (Bool) :=
  fun (x : List (Int × List (Int × Int) × Int × Int)) =>
  Option.bind
    (if ((↑(List.length x) : Int) == (0 : Int)) = Bool.true then Option.some (Bool.true, (↑(List.length x) : Int))
    else
      if Decidable.decide ((↑(List.length x) : Int) > (1000 : Int)) = Bool.true then Option.some (Bool.true, (↑(List.length x) : Int))
      else
        if (0 : Int) ≤ Go.IntKind.wrap Go.IntKind.i64 ((↑(List.length x) : Int) - (1 : Int)) ∧ Go.IntKind.wrap Go.IntKind.i64 ((↑(List.length x) : Int) - (1 : Int)) < (↑(List.length x) : Int) then
          Option.some
            ((List.getD x (Int.toNat (Go.IntKind.wrap Go.IntKind.i64 ((↑(List.length x) : Int) - (1 : Int)))) ((0 : Int), [], (0 : Int), (0 : Int))).fst != (0 : Int), (↑(List.length x) : Int))
        else Option.none)
    fun (v1 : Bool × Int) => if v1.fst = Bool.true then Option.some Bool.false else Option.bind (S.s1E n (x, v1.2)) fun (v2 : Bool × Int) => Option.some !v2.fst
theorem S.f42E_le (n : Nat) (h : n ≤ S.fuel) : ∀ x, Le (S.f42E n x) (S.f42F x) := by
  intro x
  unfold S.f42E S.f42F
  repeat' (first | with_reducible exact Le.rfl | with_reducible exact S.s1E_le n h _ | with_reducible apply Le.bind | with_reducible apply Le.iter | with_reducible apply Le.ite | with_reducible apply Le.elim | intro _)
def S.f72SE (n : Nat) (r72 : Int × List (Int × List (Int × Int) × Int × Int) × Bool × Bool × Int × List Bool → Option (List (Int × List (Int × Int) × Int × Int) × Bool × Bool × Int × List Bool)) : Int × List (Int × List (Int × Int) × Int × Int) × Bool × Bool × Int × List Bool → Option (List (Int × List (Int × Int) × Int × Int) × Bool × Bool × Int × List Bool) :=
  fun (x : Int × List (Int × List (Int × Int) × Int × Int) × Bool × Bool × Int × List Bool) =>
  Option.bind
    (Go.Sx.iterE n
      (fun (s1 : Int × List (Int × List (Int × Int) × Int × Int) × Bool × Bool × Int × List Bool) =>
        Option.bind
          (if Decidable.decide (s1.fst ≥ (0 : Int)) = Bool.true then
            if Decidable.decide (s1.fst < (↑(List.length s1.snd.fst) : Int)) = Bool.true then
              if (0 : Int) ≤ s1.fst ∧ s1.fst < (↑(List.length s1.snd.snd.snd.snd.snd) : Int) then
                Option.some (!List.getD s1.snd.snd.snd.snd.2 (Int.toNat s1.fst) Bool.false, s1.snd.1, s1.snd.snd.1, s1.snd.snd.snd.1, s1.snd.snd.snd.snd.1, s1.snd.snd.snd.snd.2)
              else Option.none
            else Option.some (Bool.false, s1.snd.1, s1.snd.snd.1, s1.snd.snd.snd.1, s1.snd.snd.snd.snd.1, s1.snd.snd.snd.snd.2)
          else Option.some (Bool.false, s1.snd.1, s1.snd.snd.1, s1.snd.snd.snd.1, s1.snd.snd.snd.snd.1, s1.snd.snd.snd.snd.2))
          fun (v2 : Bool × List (Int × List (Int × Int) × Int × Int) × Bool × Bool × Int × List Bool) =>
          if v2.fst = Bool.true then
            if (0 : Int) ≤ s1.fst ∧ s1.fst < (↑(List.length v2.snd.snd.snd.snd.snd) : Int) then
              if (0 : Int) ≤ s1.fst ∧ s1.fst < (↑(List.length v2.snd.fst) : Int) then
                if ((List.getD v2.snd.fst (Int.toNat s1.fst) ((0 : Int), [], (0 : Int), (0 : Int))).fst == (2 : Int)) = Bool.true then
                  Option.bind
                    (r72
                      ((List.getD v2.snd.fst (Int.toNat s1.fst) ((0 : Int), [], (0 : Int), (0 : Int))).snd.snd.1, v2.snd.1, v2.snd.snd.1, v2.snd.snd.snd.1,
                        Go.IntKind.wrap Go.IntKind.i64 (v2.snd.snd.snd.snd.fst + (1 : Int)), List.set v2.snd.snd.snd.snd.2 (Int.toNat s1.fst) Bool.true))
                    fun (v3 : List (Int × List (Int × Int) × Int × Int) × Bool × Bool × Int × List Bool) =>
                    Option.some (Sum.inl ((List.getD v2.snd.fst (Int.toNat s1.fst) ((0 : Int), [], (0 : Int), (0 : Int))).snd.snd.2, v3.1, v3.snd.1, v3.snd.snd.1, v3.snd.snd.snd.1, v3.snd.snd.snd.2))
                else
                  if ((List.getD v2.snd.fst (Int.toNat s1.fst) ((0 : Int), [], (0 : Int), (0 : Int))).fst == (3 : Int)) = Bool.true then
                    Option.some
                      (Sum.inl
                        ((List.getD v2.snd.fst (Int.toNat s1.fst) ((0 : Int), [], (0 : Int), (0 : Int))).snd.snd.1, v2.snd.1, v2.snd.snd.1, v2.snd.snd.snd.1,
                          Go.IntKind.wrap Go.IntKind.i64 (v2.snd.snd.snd.snd.fst + (1 : Int)), List.set v2.snd.snd.snd.snd.2 (Int.toNat s1.fst) Bool.true))
                  else
                    Option.bind
                      (Option.bind
                        (if ((List.getD v2.snd.fst (Int.toNat s1.fst) ((0 : Int), [], (0 : Int), (0 : Int))).fst == (4 : Int)) = Bool.true then
                          Option.some
                            (v2.snd.snd.1, v2.snd.1, v2.snd.snd.1, v2.snd.snd.snd.1, Go.IntKind.wrap Go.IntKind.i64 (v2.snd.snd.snd.snd.fst + (1 : Int)),
                              List.set v2.snd.snd.snd.snd.2 (Int.toNat s1.fst) Bool.true, (List.getD v2.snd.fst (Int.toNat s1.fst) ((0 : Int), [], (0 : Int), (0 : Int))).1,
                              (List.getD v2.snd.fst (Int.toNat s1.fst) ((0 : Int), [], (0 : Int), (0 : Int))).snd.1,
                              (List.getD v2.snd.fst (Int.toNat s1.fst) ((0 : Int), [], (0 : Int), (0 : Int))).snd.snd.1,
                              (List.getD v2.snd.fst (Int.toNat s1.fst) ((0 : Int), [], (0 : Int), (0 : Int))).snd.snd.2)
                        else
                          Option.some
                            (Bool.false, v2.snd.1, v2.snd.snd.1, v2.snd.snd.snd.1, Go.IntKind.wrap Go.IntKind.i64 (v2.snd.snd.snd.snd.fst + (1 : Int)),
                              List.set v2.snd.snd.snd.snd.2 (Int.toNat s1.fst) Bool.true, (List.getD v2.snd.fst (Int.toNat s1.fst) ((0 : Int), [], (0 : Int), (0 : Int))).1,
                              (List.getD v2.snd.fst (Int.toNat s1.fst) ((0 : Int), [], (0 : Int), (0 : Int))).snd.1,
                              (List.getD v2.snd.fst (Int.toNat s1.fst) ((0 : Int), [], (0 : Int), (0 : Int))).snd.snd.1,
                              (List.getD v2.snd.fst (Int.toNat s1.fst) ((0 : Int), [], (0 : Int), (0 : Int))).snd.snd.2))
                        fun (v3 : Bool × List (Int × List (Int × Int) × Int × Int) × Bool × Bool × Int × List Bool × Int × List (Int × Int) × Int × Int) =>
                        if v3.fst = Bool.true then Option.some (Bool.true, v3.snd.1, v3.snd.snd.1, v3.snd.snd.snd.1, v3.snd.snd.snd.snd.1, v3.snd.snd.snd.snd.snd.1)
                        else
                          if (v3.snd.snd.snd.snd.snd.snd.fst == (5 : Int)) = Bool.true then
                            Option.some (v3.snd.snd.snd.1, v3.snd.1, v3.snd.snd.1, v3.snd.snd.snd.1, v3.snd.snd.snd.snd.1, v3.snd.snd.snd.snd.snd.1)
                          else Option.some (Bool.false, v3.snd.1, v3.snd.snd.1, v3.snd.snd.snd.1, v3.snd.snd.snd.snd.1, v3.snd.snd.snd.snd.snd.1))
                      fun (v3 : Bool × List (Int × List (Int × Int) × Int × Int) × Bool × Bool × Int × List Bool) =>
                      if v3.fst = Bool.true then
                        Option.some (Sum.inl (Go.IntKind.wrap Go.IntKind.i64 (s1.fst + (1 : Int)), v3.snd.1, v3.snd.snd.1, v3.snd.snd.snd.1, v3.snd.snd.snd.snd.1, v3.snd.snd.snd.snd.2))
                      else Option.some (Sum.inl (s1.1, v3.snd.1, v3.snd.snd.1, v3.snd.snd.snd.1, v3.snd.snd.snd.snd.1, v3.snd.snd.snd.snd.2))
              else Option.none
            else Option.none
          else Option.some (Sum.inr (v2.snd.1, v2.snd.snd.1, v2.snd.snd.snd.1, v2.snd.snd.snd.snd.1, v2.snd.snd.snd.snd.2)))
      (x.1, x.snd.1, x.snd.snd.1, x.snd.snd.snd.1, x.snd.snd.snd.snd.1, x.snd.snd.snd.snd.2))
    fun (v1 : List (Int × List (Int × Int) × Int × Int) × Bool × Bool × Int × List Bool) => Option.some (v1.1, v1.snd.1, v1.snd.snd.1, v1.snd.snd.snd.1, v1.snd.snd.snd.2)
theorem S.f72SE_le (n : Nat) (h : n ≤ S.fuel) {r r'} (hr : ∀ x, Le (r x) (r' x)) : ∀ x, Le (S.f72SE n r x) (S.f72S r' x) := by
  intro x
  unfold S.f72SE S.f72S
  repeat' (first | with_reducible exact Le.rfl | with_reducible exact hr _ | with_reducible apply Le.bind | with_reducible apply Le.iter | with_reducible apply Le.ite | with_reducible apply Le.elim | intro _)
def S.f72NE (n : Nat) (k : Nat) : Int × List (Int × List (Int × Int) × Int × Int) × Bool × Bool × Int × List Bool → Option (List (Int × List (Int × Int) × Int × Int) × Bool × Bool × Int × List Bool) := Nat.rec (fun _ => none) (fun _ r => S.f72SE n r) k
theorem S.f72NE_le (n : Nat) (h : n ≤ S.fuel) : ∀ k, k ≤ S.fuel → ∀ x, Le (S.f72NE n k x) (S.f72F x) := by
  suffices hh : ∀ k m, k ≤ m → ∀ x, Le (S.f72NE n k x) (S.f72N m x) from fun k hk x => hh k _ hk x
  intro k
  induction k with
  | zero => intro m _ x y hy; cases hy
  | succ k ih =>
    intro m hm x
    cases m with
    | zero => omega
    | succ m => exact S.f72SE_le n h (ih m (by omega)) x
def S.f72E (n : Nat) : Int × List (Int × List (Int × Int) × Int × Int) × Bool × Bool × Int × List Bool → Option (List (Int × List (Int × Int) × Int × Int) × Bool × Bool × Int × List Bool) := S.f72NE n n
theorem S.f72E_le (n : Nat) (h : n ≤ S.fuel) : ∀ x, Le (S.f72E n x) (S.f72F x) := fun x => S.f72NE_le n h n h x
def S.f43E (n : Nat) : List (Int × List (Int × Int) × Int × Int) × List Int × Bool × Bool → Option (List (Int × List (Int × Int) × Int × Int) × Bool × Bool × Int × List Bool) :=
  fun (x : List (Int × List (Int × Int) × Int × Int) × List Int × Bool × Bool) =>
  if
      (0 : Int) ≤ (↑(List.length x.fst) : Int) ∧
        (↑(List.length x.fst) : Int) ≤ (↑(List.length x.fst) : Int) ∧
          Go.Sx.roomOk (Int.toNat (↑(List.length x.fst) : Int))
            { kind := Go.Sx.TK.bool, size := (1 : Nat), bytes := (1 : Nat), ty := Option.some Go.Sx.Ty.bool, zero := [Go.Sx.SV.bit Bool.false] : Go.Sx.TI }.bytes then
    Option.bind
      (Go.Sx.iterE n
        (fun (s1 : Int × List (Int × List (Int × Int) × Int × Int) × Bool × Bool × Int × List Bool) =>
          if Decidable.decide (s1.fst < (↑(List.length x.snd.fst) : Int)) = Bool.true then
            if (0 : Int) ≤ s1.fst ∧ s1.fst < (↑(List.length x.snd.fst) : Int) then
              Option.bind (S.f72E n (List.getD x.snd.fst (Int.toNat s1.fst) (0 : Int), s1.snd.1, s1.snd.snd.1, s1.snd.snd.snd.1, s1.snd.snd.snd.snd.1, s1.snd.snd.snd.snd.2))
                fun (v2 : List (Int × List (Int × Int) × Int × Int) × Bool × Bool × Int × List Bool) =>
                Option.some (Sum.inl (Go.IntKind.wrap Go.IntKind.i64 (s1.fst + (1 : Int)), v2.1, v2.snd.1, v2.snd.snd.1, v2.snd.snd.snd.1, v2.snd.snd.snd.2))
            else Option.none
          else Option.some (Sum.inr (s1.snd.1, s1.snd.snd.1, s1.snd.snd.snd.1, s1.snd.snd.snd.snd.1, s1.snd.snd.snd.snd.2)))
        ((0 : Int), x.1, x.snd.snd.1, x.snd.snd.2, (0 : Int), List.replicate (Int.toNat (↑(List.length x.fst) : Int)) Bool.false))
      fun (v1 : List (Int × List (Int × Int) × Int × Int) × Bool × Bool × Int × List Bool) => Option.some (v1.1, v1.snd.1, v1.snd.snd.1, v1.snd.snd.snd.1, v1.snd.snd.snd.2)
  else Option.none
theorem S.f43E_le (n : Nat) (h : n ≤ S.fuel) : ∀ x, Le (S.f43E n x) (S.f43F x) := by
  intro x
  unfold S.f43E S.f43F
  repeat' (first | with_reducible exact Le.rfl | with_reducible exact S.f72E_le n h _ | with_reducible apply Le.bind | with_reducible apply Le.iter | with_reducible apply Le.ite | with_reducible apply Le.elim | intro _)
def S.f44E (n : Nat) : List (Int × List (Int × Int) × Int × Int) × Bool × Bool × Int × List Bool → Option (List Int × List (Int × List (Int × Int) × Int × Int) × Bool × Bool × Int × List Bool) :=
  fun (x : List (Int × List (Int × Int) × Int × Int) × Bool × Bool × Int × List Bool) =>
  Option.bind
    (Go.Sx.iterE n
      (fun (s1 : Int × List (Int × List (Int × Int) × Int × Int) × Bool × Bool × Int × List Bool × List Int) =>
        if Decidable.decide (s1.fst < (↑(List.length x.snd.snd.snd.snd) : Int)) = Bool.true then
          if (0 : Int) ≤ s1.fst ∧ s1.fst < (↑(List.length s1.snd.snd.snd.snd.snd.fst) : Int) then
            if List.getD s1.snd.snd.snd.snd.snd.1 (Int.toNat s1.fst) Bool.false = Bool.true then
              if
                  Go.Sx.roomOk (List.length s1.snd.snd.snd.snd.snd.snd + List.length [s1.1])
                    { kind := Go.Sx.TK.int Go.IntKind.i64, size := (1 : Nat), bytes := (8 : Nat), ty := Option.some (Go.Sx.Ty.int Go.IntKind.i64),
                        zero := [Go.Sx.SV.val (Go.Sx.Ty.int Go.IntKind.i64) (0 : Int)] : Go.Sx.TI }.bytes then
                Option.some
                  (Sum.inl
                    (Go.IntKind.wrap Go.IntKind.i64 (s1.fst + (1 : Int)), s1.snd.1, s1.snd.snd.1, s1.snd.snd.snd.1, s1.snd.snd.snd.snd.1, s1.snd.snd.snd.snd.snd.1, s1.snd.snd.snd.snd.snd.2 ++ [s1.1]))
              else Option.none
            else
              Option.some
                (Sum.inl (Go.IntKind.wrap Go.IntKind.i64 (s1.fst + (1 : Int)), s1.snd.1, s1.snd.snd.1, s1.snd.snd.snd.1, s1.snd.snd.snd.snd.1, s1.snd.snd.snd.snd.snd.1, s1.snd.snd.snd.snd.snd.2))
          else Option.none
        else Option.some (Sum.inr (s1.snd.1, s1.snd.snd.1, s1.snd.snd.snd.1, s1.snd.snd.snd.snd.1, s1.snd.snd.snd.snd.snd.1, s1.snd.snd.snd.snd.snd.2)))
      ((0 : Int), x.1, x.snd.1, x.snd.snd.1, x.snd.snd.snd.1, x.snd.snd.snd.2, []))
    fun (v1 : List (Int × List (Int × Int) × Int × Int) × Bool × Bool × Int × List Bool × List Int) =>
    Option.some (v1.snd.snd.snd.snd.2, v1.1, v1.snd.1, v1.snd.snd.1, v1.snd.snd.snd.1, v1.snd.snd.snd.snd.1)
theorem S.f44E_le (n : Nat) (h : n ≤ S.fuel) : ∀ x, Le (S.f44E n x) (S.f44F x) := by
  intro x
  unfold S.f44E S.f44F
  repeat' (first | with_reducible exact Le.rfl | with_reducible apply Le.bind | with_reducible apply Le.iter | with_reducible apply Le.ite | with_reducible apply Le.elim | intro _)
def S.f76E (n : Nat) : Int × List (Int × List (Int × Int) × Int × Int) → Option (Bool × List (Int × List (Int × Int) × Int × Int)) :=
  fun (x : Int × List (Int × List (Int × Int) × Int × Int)) =>
  if (0 : Int) ≤ x.fst ∧ x.fst < (↑(List.length x.snd) : Int) then Option.some ((List.getD x.snd (Int.toNat x.fst) ((0 : Int), [], (0 : Int), (0 : Int))).fst == (0 : Int), x.2) else Option.none
theorem S.f76E_le (n : Nat) (h : n ≤ S.fuel) : ∀ x, Le (S.f76E n x) (S.f76F x) := by
  intro x
  unfold S.f76E S.f76F
  repeat' (first | with_reducible exact Le.rfl | with_reducible apply Le.bind | with_reducible apply Le.iter | with_reducible apply Le.ite | with_reducible apply Le.elim | intro _)
def S.s4E (n : Nat) : List Int × List (Int × List (Int × Int) × Int × Int) → Option (Int × List (Int × List (Int × Int) × Int × Int)) :=
  fun (x : List Int × List (Int × List (Int × Int) × Int × Int)) =>
  Option.bind
    (Go.Sx.iterE n
      (fun (s1 : Int × List (Int × List (Int × Int) × Int × Int)) =>
        if Decidable.decide (s1.fst < (↑(List.length x.fst) : Int)) = Bool.true then
          if (0 : Int) ≤ s1.fst ∧ s1.fst < (↑(List.length x.fst) : Int) then
            Option.bind (S.f76E n (List.getD x.fst (Int.toNat s1.fst) (0 : Int), s1.2)) fun (v2 : Bool × List (Int × List (Int × Int) × Int × Int)) =>
              if v2.fst = Bool.true then Option.some (Sum.inr (Sum.inr (s1.1, v2.2))) else Option.some (Sum.inl (Go.IntKind.wrap Go.IntKind.i64 (s1.fst + (1 : Int)), v2.2))
          else Option.none
        else Option.some (Sum.inr (Sum.inl s1.2)))
      ((0 : Int), x.2))
    fun (v1 : List (Int × List (Int × Int) × Int × Int) ⊕ Int × List (Int × List (Int × Int) × Int × Int)) =>
    Sum.elim (fun (p2 : List (Int × List (Int × Int) × Int × Int)) => Option.some ((-1 : Int), p2)) (fun (q2 : Int × List (Int × List (Int × Int) × Int × Int)) => Option.some (q2.1, q2.2)) v1
theorem S.s4E_le (n : Nat) (h : n ≤ S.fuel) : ∀ x, Le (S.s4E n x) (S.s4F x) := by
  intro x
  unfold S.s4E S.s4F
  repeat' (first | with_reducible exact Le.rfl | with_reducible exact S.f76E_le n h _ | with_reducible apply Le.bind | with_reducible apply Le.iter | with_reducible apply Le.ite | with_reducible apply Le.elim | intro _)
def S.s5E (n : Nat) : List Int × List (Int × List (Int × Int) × Int × Int) → Option (Bool × List (Int × List (Int × Int) × Int × Int)) :=
  fun (x : List Int × List (Int × List (Int × Int) × Int × Int)) =>
  Option.bind (S.s4E n (x.1, x.2)) fun (v1 : Int × List (Int × List (Int × Int) × Int × Int)) => Option.some (Decidable.decide (v1.fst ≥ (0 : Int)), v1.2)
theorem S.s5E_le (n : Nat) (h : n ≤ S.fuel) : ∀ x, Le (S.s5E n x) (S.s5F x) := by
  intro x
  unfold S.s5E S.s5F
  repeat' (first | with_reducible exact Le.rfl | with_reducible exact S.s4E_le n h _ | with_reducible apply Le.bind | with_reducible apply Le.iter | with_reducible apply Le.ite | with_reducible apply Le.elim | intro _)
def S.f99E (n : Nat) : (Int × Int) × Int → Option (Bool × Int) :=
  fun (x : (Int × Int) × Int) => if Decidable.decide (x.fst.fst ≤ x.snd) = Bool.true then Option.some (Decidable.decide (x.snd ≤ x.fst.snd), x.2) else Option.some (Bool.false, x.2)
theorem S.f99E_le (n : Nat) (h : n ≤ S.fuel) : ∀ x, Le (S.f99E n x) (S.f99F x) := by
  intro x
  unfold S.f99E S.f99F
  repeat' (first | with_reducible exact Le.rfl | with_reducible apply Le.bind | with_reducible apply Le.iter | with_reducible apply Le.ite | with_reducible apply Le.elim | intro _)
def S.s2E (n : Nat) : List (Int × Int) × Int → Option (Int × Int) :=
  fun (x : List (Int × Int) × Int) =>
  Option.bind
    (Go.Sx.iterE n
      (fun (s1 : Int × Int) =>
        if Decidable.decide (s1.fst < (↑(List.length x.fst) : Int)) = Bool.true then
          if (0 : Int) ≤ s1.fst ∧ s1.fst < (↑(List.length x.fst) : Int) then
            Option.bind (S.f99E n (List.getD x.fst (Int.toNat s1.fst) ((0 : Int), (0 : Int)), s1.2)) fun (v2 : Bool × Int) =>
              if v2.fst = Bool.true then Option.some (Sum.inr (Sum.inr (s1.1, v2.2))) else Option.some (Sum.inl (Go.IntKind.wrap Go.IntKind.i64 (s1.fst + (1 : Int)), v2.2))
          else Option.none
        else Option.some (Sum.inr (Sum.inl s1.2)))
      ((0 : Int), x.2))
    fun (v1 : Int ⊕ Int × Int) => Sum.elim (fun (p2 : Int) => Option.some ((-1 : Int), p2)) (fun (q2 : Int × Int) => Option.some (q2.1, q2.2)) v1
theorem S.s2E_le (n : Nat) (h : n ≤ S.fuel) : ∀ x, Le (S.s2E n x) (S.s2F x) := by
  intro x
  unfold S.s2E S.s2F
  repeat' (first | with_reducible exact Le.rfl | with_reducible exact S.f99E_le n h _ | with_reducible apply Le.bind | with_reducible apply Le.iter | with_reducible apply Le.ite | with_reducible apply Le.elim | intro _)
def S.s3E (n : Nat) : List (Int × Int) × Int → Option (Bool × Int) :=
  fun (x : List (Int × Int) × Int) => Option.bind (S.s2E n (x.1, x.2)) fun (v1 : Int × Int) => Option.some (Decidable.decide (v1.fst ≥ (0 : Int)), v1.2)
theorem S.s3E_le (n : Nat) (h : n ≤ S.fuel) : ∀ x, Le (S.s3E n x) (S.s3F x) := by
  intro x
  unfold S.s3E S.s3F
  repeat' (first | with_reducible exact Le.rfl | with_reducible exact S.s2E_le n h _ | with_reducible apply Le.bind | with_reducible apply Le.iter | with_reducible apply Le.ite | with_reducible apply Le.elim | intro _)
def S.f73E (n : Nat) : List (Int × Int) × Int → Option (Bool) :=
  fun (x : List (Int × Int) × Int) => Option.bind (S.s3E n (x.1, x.2)) fun (v1 : Bool × Int) => Option.some v1.1
theorem S.f73E_le (n : Nat) (h : n ≤ S.fuel) : ∀ x, Le (S.f73E n x) (S.f73F x) := by
  intro x
  unfold S.f73E S.f73F
  repeat' (first | with_reducible exact Le.rfl | with_reducible exact S.s3E_le n h _ | with_reducible apply Le.bind | with_reducible apply Le.iter | with_reducible apply Le.ite | with_reducible apply Le.elim | intro _)
def S.f118E (n : Nat) : Int → Option (Int) :=
  fun (x : Int) =>
  Option.bind
    (if Decidable.decide (x ≥ (65536 : Int)) = Bool.true then Option.some (Int.fdiv x ((2 : Int) ^ Min.min (Int.toNat (16 : Int)) (Go.IntKind.bits Go.IntKind.u32)), (16 : Int))
    else Option.some (x, (0 : Int)))
    fun (v1 : Int × Int) =>
    Option.bind
      (if Decidable.decide (v1.fst ≥ (256 : Int)) = Bool.true then
        Option.some (Int.fdiv v1.fst ((2 : Int) ^ Min.min (Int.toNat (8 : Int)) (Go.IntKind.bits Go.IntKind.u32)), Go.IntKind.wrap Go.IntKind.i64 (v1.snd + (8 : Int)))
      else Option.some (v1.1, v1.2))
      fun (v2 : Int × Int) =>
      if
          (0 : Int) ≤ Go.IntKind.wrap Go.IntKind.u8 v2.fst ∧
            Go.IntKind.wrap Go.IntKind.u8 v2.fst <
              (↑(ByteArray.size
                    {
                      data :=
                        List.toArray
                          (List.append
                            (List.append
                              [(0 : UInt8), (1 : UInt8), (2 : UInt8), (2 : UInt8), (3 : UInt8), (3 : UInt8), (3 : UInt8), (3 : UInt8), (4 : UInt8), (4 : UInt8), (4 : UInt8), (4 : UInt8), (4 : UInt8),
                                (4 : UInt8), (4 : UInt8), (4 : UInt8), (5 : UInt8), (5 : UInt8), (5 : UInt8), (5 : UInt8), (5 : UInt8), (5 : UInt8), (5 : UInt8), (5 : UInt8), (5 : UInt8), (5 : UInt8),
                                (5 : UInt8), (5 : UInt8), (5 : UInt8), (5 : UInt8), (5 : UInt8), (5 : UInt8), (6 : UInt8), (6 : UInt8), (6 : UInt8), (6 : UInt8), (6 : UInt8), (6 : UInt8), (6 : UInt8),
                                (6 : UInt8), (6 : UInt8), (6 : UInt8), (6 : UInt8), (6 : UInt8), (6 : UInt8), (6 : UInt8), (6 : UInt8), (6 : UInt8), (6 : UInt8), (6 : UInt8), (6 : UInt8), (6 : UInt8),
                                (6 : UInt8), (6 : UInt8), (6 : UInt8), (6 : UInt8), (6 : UInt8), (6 : UInt8), (6 : UInt8), (6 : UInt8), (6 : UInt8), (6 : UInt8), (6 : UInt8), (6 : UInt8)]
                              [(7 : UInt8), (7 : UInt8), (7 : UInt8), (7 : UInt8), (7 : UInt8), (7 : UInt8), (7 : UInt8), (7 : UInt8), (7 : UInt8), (7 : UInt8), (7 : UInt8), (7 : UInt8), (7 : UInt8),
                                (7 : UInt8), (7 : UInt8), (7 : UInt8), (7 : UInt8), (7 : UInt8), (7 : UInt8), (7 : UInt8), (7 : UInt8), (7 : UInt8), (7 : UInt8), (7 : UInt8), (7 : UInt8), (7 : UInt8),
                                (7 : UInt8), (7 : UInt8), (7 : UInt8), (7 : UInt8), (7 : UInt8), (7 : UInt8), (7 : UInt8), (7 : UInt8), (7 : UInt8), (7 : UInt8), (7 : UInt8), (7 : UInt8), (7 : UInt8),
                                (7 : UInt8), (7 : UInt8), (7 : UInt8), (7 : UInt8), (7 : UInt8), (7 : UInt8), (7 : UInt8), (7 : UInt8), (7 : UInt8), (7 : UInt8), (7 : UInt8), (7 : UInt8), (7 : UInt8),
                                (7 : UInt8), (7 : UInt8), (7 : UInt8), (7 : UInt8), (7 : UInt8), (7 : UInt8), (7 : UInt8), (7 : UInt8), (7 : UInt8), (7 : UInt8), (7 : UInt8), (7 : UInt8)])
                            (List.append
                              [(8 : UInt8), (8 : UInt8), (8 : UInt8), (8 : UInt8), (8 : UInt8), (8 : UInt8), (8 : UInt8), (8 : UInt8), (8 : UInt8), (8 : UInt8), (8 : UInt8), (8 : UInt8), (8 : UInt8),
                                (8 : UInt8), (8 : UInt8), (8 : UInt8), (8 : UInt8), (8 : UInt8), (8 : UInt8), (8 : UInt8), (8 : UInt8), (8 : UInt8), (8 : UInt8), (8 : UInt8), (8 : UInt8), (8 : UInt8),
                                (8 : UInt8), (8 : UInt8), (8 : UInt8), (8 : UInt8), (8 : UInt8), (8 : UInt8), (8 : UInt8), (8 : UInt8), (8 : UInt8), (8 : UInt8), (8 : UInt8), (8 : UInt8), (8 : UInt8),
                                (8 : UInt8), (8 : UInt8), (8 : UInt8), (8 : UInt8), (8 : UInt8), (8 : UInt8), (8 : UInt8), (8 : UInt8), (8 : UInt8), (8 : UInt8), (8 : UInt8), (8 : UInt8), (8 : UInt8),
                                (8 : UInt8), (8 : UInt8), (8 : UInt8), (8 : UInt8), (8 : UInt8), (8 : UInt8), (8 : UInt8), (8 : UInt8), (8 : UInt8), (8 : UInt8), (8 : UInt8), (8 : UInt8)]
                              [(8 : UInt8), (8 : UInt8), (8 : UInt8), (8 : UInt8), (8 : UInt8), (8 : UInt8), (8 : UInt8), (8 : UInt8), (8 : UInt8), (8 : UInt8), (8 : UInt8), (8 : UInt8), (8 : UInt8),
                                (8 : UInt8), (8 : UInt8), (8 : UInt8), (8 : UInt8), (8 : UInt8), (8 : UInt8), (8 : UInt8), (8 : UInt8), (8 : UInt8), (8 : UInt8), (8 : UInt8), (8 : UInt8), (8 : UInt8),
                                (8 : UInt8), (8 : UInt8), (8 : UInt8), (8 : UInt8), (8 : UInt8), (8 : UInt8), (8 : UInt8), (8 : UInt8), (8 : UInt8), (8 : UInt8), (8 : UInt8), (8 : UInt8), (8 : UInt8),
                                (8 : UInt8), (8 : UInt8), (8 : UInt8), (8 : UInt8), (8 : UInt8), (8 : UInt8), (8 : UInt8), (8 : UInt8), (8 : UInt8), (8 : UInt8), (8 : UInt8), (8 : UInt8), (8 : UInt8),
                                (8 : UInt8), (8 : UInt8), (8 : UInt8), (8 : UInt8), (8 : UInt8), (8 : UInt8), (8 : UInt8), (8 : UInt8), (8 : UInt8), (8 : UInt8), (8 : UInt8), (8 : UInt8)])) :
                      ByteArray }) :
                Int) then
        Option.some
          (Go.IntKind.wrap Go.IntKind.i64
            (v2.snd +
              Go.IntKind.wrap Go.IntKind.i64
                (↑(UInt8.toNat
                      (List.getD
                        {
                              data :=
                                List.toArray
                                  (List.append
                                    (List.append
                                      [(0 : UInt8), (1 : UInt8), (2 : UInt8), (2 : UInt8), (3 : UInt8), (3 : UInt8), (3 : UInt8), (3 : UInt8), (4 : UInt8), (4 : UInt8), (4 : UInt8), (4 : UInt8),
                                        (4 : UInt8), (4 : UInt8), (4 : UInt8), (4 : UInt8), (5 : UInt8), (5 : UInt8), (5 : UInt8), (5 : UInt8), (5 : UInt8), (5 : UInt8), (5 : UInt8), (5 : UInt8),
                                        (5 : UInt8), (5 : UInt8), (5 : UInt8), (5 : UInt8), (5 : UInt8), (5 : UInt8), (5 : UInt8), (5 : UInt8), (6 : UInt8), (6 : UInt8), (6 : UInt8), (6 : UInt8),
                                        (6 : UInt8), (6 : UInt8), (6 : UInt8), (6 : UInt8), (6 : UInt8), (6 : UInt8), (6 : UInt8), (6 : UInt8), (6 : UInt8), (6 : UInt8), (6 : UInt8), (6 : UInt8),
                                        (6 : UInt8), (6 : UInt8), (6 : UInt8), (6 : UInt8), (6 : UInt8), (6 : UInt8), (6 : UInt8), (6 : UInt8), (6 : UInt8), (6 : UInt8), (6 : UInt8), (6 : UInt8),
                                        (6 : UInt8), (6 : UInt8), (6 : UInt8), (6 : UInt8)]
                                      [(7 : UInt8), (7 : UInt8), (7 : UInt8), (7 : UInt8), (7 : UInt8), (7 : UInt8), (7 : UInt8), (7 : UInt8), (7 : UInt8), (7 : UInt8), (7 : UInt8), (7 : UInt8),
                                        (7 : UInt8), (7 : UInt8), (7 : UInt8), (7 : UInt8), (7 : UInt8), (7 : UInt8), (7 : UInt8), (7 : UInt8), (7 : UInt8), (7 : UInt8), (7 : UInt8), (7 : UInt8),
                                        (7 : UInt8), (7 : UInt8), (7 : UInt8), (7 : UInt8), (7 : UInt8), (7 : UInt8), (7 : UInt8), (7 : UInt8), (7 : UInt8), (7 : UInt8), (7 : UInt8), (7 : UInt8),
                                        (7 : UInt8), (7 : UInt8), (7 : UInt8), (7 : UInt8), (7 : UInt8), (7 : UInt8), (7 : UInt8), (7 : UInt8), (7 : UInt8), (7 : UInt8), (7 : UInt8), (7 : UInt8),
                                        (7 : UInt8), (7 : UInt8), (7 : UInt8), (7 : UInt8), (7 : UInt8), (7 : UInt8), (7 : UInt8), (7 : UInt8), (7 : UInt8), (7 : UInt8), (7 : UInt8), (7 : UInt8),
                                        (7 : UInt8), (7 : UInt8), (7 : UInt8), (7 : UInt8)])
                                    (List.append
                                      [(8 : UInt8), (8 : UInt8), (8 : UInt8), (8 : UInt8), (8 : UInt8), (8 : UInt8), (8 : UInt8), (8 : UInt8), (8 : UInt8), (8 : UInt8), (8 : UInt8), (8 : UInt8),
                                        (8 : UInt8), (8 : UInt8), (8 : UInt8), (8 : UInt8), (8 : UInt8), (8 : UInt8), (8 : UInt8), (8 : UInt8), (8 : UInt8), (8 : UInt8), (8 : UInt8), (8 : UInt8),
                                        (8 : UInt8), (8 : UInt8), (8 : UInt8), (8 : UInt8), (8 : UInt8), (8 : UInt8), (8 : UInt8), (8 : UInt8), (8 : UInt8), (8 : UInt8), (8 : UInt8), (8 : UInt8),
                                        (8 : UInt8), (8 : UInt8), (8 : UInt8), (8 : UInt8), (8 : UInt8), (8 : UInt8), (8 : UInt8), (8 : UInt8), (8 : UInt8), (8 : UInt8), (8 : UInt8), (8 : UInt8),
                                        (8 : UInt8), (8 : UInt8), (8 : UInt8), (8 : UInt8), (8 : UInt8), (8 : UInt8), (8 : UInt8), (8 : UInt8), (8 : UInt8), (8 : UInt8), (8 : UInt8), (8 : UInt8),
                                        (8 : UInt8), (8 : UInt8), (8 : UInt8), (8 : UInt8)]
                                      [(8 : UInt8), (8 : UInt8), (8 : UInt8), (8 : UInt8), (8 : UInt8), (8 : UInt8), (8 : UInt8), (8 : UInt8), (8 : UInt8), (8 : UInt8), (8 : UInt8), (8 : UInt8),
                                        (8 : UInt8), (8 : UInt8), (8 : UInt8), (8 : UInt8), (8 : UInt8), (8 : UInt8), (8 : UInt8), (8 : UInt8), (8 : UInt8), (8 : UInt8), (8 : UInt8), (8 : UInt8),
                                        (8 : UInt8), (8 : UInt8), (8 : UInt8), (8 : UInt8), (8 : UInt8), (8 : UInt8), (8 : UInt8), (8 : UInt8), (8 : UInt8), (8 : UInt8), (8 : UInt8), (8 : UInt8),
                                        (8 : UInt8), (8 : UInt8), (8 : UInt8), (8 : UInt8), (8 : UInt8), (8 : UInt8), (8 : UInt8), (8 : UInt8), (8 : UInt8), (8 : UInt8), (8 : UInt8), (8 : UInt8),
                                        (8 : UInt8), (8 : UInt8), (8 : UInt8), (8 : UInt8), (8 : UInt8), (8 : UInt8), (8 : UInt8), (8 : UInt8), (8 : UInt8), (8 : UInt8), (8 : UInt8), (8 : UInt8),
                                        (8 : UInt8), (8 : UInt8), (8 : UInt8), (8 : UInt8)])) :
                              ByteArray }.data.toList
                        (Int.toNat (Go.IntKind.wrap Go.IntKind.u8 v2.fst)) (0 : UInt8))) :
                  Int)))
      else Option.none
theorem S.f118E_le (n : Nat) (h : n ≤ S.fuel) : ∀ x, Le (S.f118E n x) (S.f118F x) := by
  intro x
  unfold S.f118E S.f118F
  repeat' (first | with_reducible exact Le.rfl | with_reducible apply Le.bind | with_reducible apply Le.iter | with_reducible apply Le.ite | with_reducible apply Le.elim | intro _)
def S.f119E (n : Nat) : Int → Option (Int) :=
  fun (x : Int) =>
  Option.bind
    (if Decidable.decide (x ≥ (4294967296 : Int)) = Bool.true then Option.some (Int.fdiv x ((2 : Int) ^ Min.min (Int.toNat (32 : Int)) (Go.IntKind.bits Go.IntKind.u64)), (32 : Int))
    else Option.some (x, (0 : Int)))
    fun (v1 : Int × Int) =>
    Option.bind
      (if Decidable.decide (v1.fst ≥ (65536 : Int)) = Bool.true then
        Option.some (Int.fdiv v1.fst ((2 : Int) ^ Min.min (Int.toNat (16 : Int)) (Go.IntKind.bits Go.IntKind.u64)), Go.IntKind.wrap Go.IntKind.i64 (v1.snd + (16 : Int)))
      else Option.some (v1.1, v1.2))
      fun (v2 : Int × Int) =>
      Option.bind
        (if Decidable.decide (v2.fst ≥ (256 : Int)) = Bool.true then
          Option.some (Int.fdiv v2.fst ((2 : Int) ^ Min.min (Int.toNat (8 : Int)) (Go.IntKind.bits Go.IntKind.u64)), Go.IntKind.wrap Go.IntKind.i64 (v2.snd + (8 : Int)))
        else Option.some (v2.1, v2.2))
        fun (v3 : Int × Int) =>
        if
            (0 : Int) ≤ Go.IntKind.wrap Go.IntKind.u8 v3.fst ∧
              Go.IntKind.wrap Go.IntKind.u8 v3.fst <
                (↑(ByteArray.size
                      {
                        data :=
                          List.toArray
                            (List.append
                              (List.append
                                [(0 : UInt8), (1 : UInt8), (2 : UInt8), (2 : UInt8), (3 : UInt8), (3 : UInt8), (3 : UInt8), (3 : UInt8), (4 : UInt8), (4 : UInt8), (4 : UInt8), (4 : UInt8),
                                  (4 : UInt8), (4 : UInt8), (4 : UInt8), (4 : UInt8), (5 : UInt8), (5 : UInt8), (5 : UInt8), (5 : UInt8), (5 : UInt8), (5 : UInt8), (5 : UInt8), (5 : UInt8),
                                  (5 : UInt8), (5 : UInt8), (5 : UInt8), (5 : UInt8), (5 : UInt8), (5 : UInt8), (5 : UInt8), (5 : UInt8), (6 : UInt8), (6 : UInt8), (6 : UInt8), (6 : UInt8),
                                  (6 : UInt8), (6 : UInt8), (6 : UInt8), (6 : UInt8), (6 : UInt8), (6 : UInt8), (6 : UInt8), (6 : UInt8), (6 : UInt8), (6 : UInt8), (6 : UInt8), (6 : UInt8),
                                  (6 : UInt8), (6 : UInt8), (6 : UInt8), (6 : UInt8), (6 : UInt8), (6 : UInt8), (6 : UInt8), (6 : UInt8), (6 : UInt8), (6 : UInt8), (6 : UInt8), (6 : UInt8),
                                  (6 : UInt8), (6 : UInt8), (6 : UInt8), (6 : UInt8)]
                                [(7 : UInt8), (7 : UInt8), (7 : UInt8), (7 : UInt8), (7 : UInt8), (7 : UInt8), (7 : UInt8), (7 : UInt8), (7 : UInt8), (7 : UInt8), (7 : UInt8), (7 : UInt8),
                                  (7 : UInt8), (7 : UInt8), (7 : UInt8), (7 : UInt8), (7 : UInt8), (7 : UInt8), (7 : UInt8), (7 : UInt8), (7 : UInt8), (7 : UInt8), (7 : UInt8), (7 : UInt8),
                                  (7 : UInt8), (7 : UInt8), (7 : UInt8), (7 : UInt8), (7 : UInt8), (7 : UInt8), (7 : UInt8), (7 : UInt8), (7 : UInt8), (7 : UInt8), (7 : UInt8), (7 : UInt8),
                                  (7 : UInt8), (7 : UInt8), (7 : UInt8), (7 : UInt8), (7 : UInt8), (7 : UInt8), (7 : UInt8), (7 : UInt8), (7 : UInt8), (7 : UInt8), (7 : UInt8), (7 : UInt8),
                                  (7 : UInt8), (7 : UInt8), (7 : UInt8), (7 : UInt8), (7 : UInt8), (7 : UInt8), (7 : UInt8), (7 : UInt8), (7 : UInt8), (7 : UInt8), (7 : UInt8), (7 : UInt8),
                                  (7 : UInt8), (7 : UInt8), (7 : UInt8), (7 : UInt8)])
                              (List.append
                                [(8 : UInt8), (8 : UInt8), (8 : UInt8), (8 : UInt8), (8 : UInt8), (8 : UInt8), (8 : UInt8), (8 : UInt8), (8 : UInt8), (8 : UInt8), (8 : UInt8), (8 : UInt8),
                                  (8 : UInt8), (8 : UInt8), (8 : UInt8), (8 : UInt8), (8 : UInt8), (8 : UInt8), (8 : UInt8), (8 : UInt8), (8 : UInt8), (8 : UInt8), (8 : UInt8), (8 : UInt8),
                                  (8 : UInt8), (8 : UInt8), (8 : UInt8), (8 : UInt8), (8 : UInt8), (8 : UInt8), (8 : UInt8), (8 : UInt8), (8 : UInt8), (8 : UInt8), (8 : UInt8), (8 : UInt8),
                                  (8 : UInt8), (8 : UInt8), (8 : UInt8), (8 : UInt8), (8 : UInt8), (8 : UInt8), (8 : UInt8), (8 : UInt8), (8 : UInt8), (8 : UInt8), (8 : UInt8), (8 : UInt8),
                                  (8 : UInt8), (8 : UInt8), (8 : UInt8), (8 : UInt8), (8 : UInt8), (8 : UInt8), (8 : UInt8), (8 : UInt8), (8 : UInt8), (8 : UInt8), (8 : UInt8), (8 : UInt8),
                                  (8 : UInt8), (8 : UInt8), (8 : UInt8), (8 : UInt8)]
                                [(8 : UInt8), (8 : UInt8), (8 : UInt8), (8 : UInt8), (8 : UInt8), (8 : UInt8), (8 : UInt8), (8 : UInt8), (8 : UInt8), (8 : UInt8), (8 : UInt8), (8 : UInt8),
                                  (8 : UInt8), (8 : UInt8), (8 : UInt8), (8 : UInt8), (8 : UInt8), (8 : UInt8), (8 : UInt8), (8 : UInt8), (8 : UInt8), (8 : UInt8), (8 : UInt8), (8 : UInt8),
                                  (8 : UInt8), (8 : UInt8), (8 : UInt8), (8 : UInt8), (8 : UInt8), (8 : UInt8), (8 : UInt8), (8 : UInt8), (8 : UInt8), (8 : UInt8), (8 : UInt8), (8 : UInt8),
                                  (8 : UInt8), (8 : UInt8), (8 : UInt8), (8 : UInt8), (8 : UInt8), (8 : UInt8), (8 : UInt8), (8 : UInt8), (8 : UInt8), (8 : UInt8), (8 : UInt8), (8 : UInt8),
                                  (8 : UInt8), (8 : UInt8), (8 : UInt8), (8 : UInt8), (8 : UInt8), (8 : UInt8), (8 : UInt8), (8 : UInt8), (8 : UInt8), (8 : UInt8), (8 : UInt8), (8 : UInt8),
                                  (8 : UInt8), (8 : UInt8), (8 : UInt8), (8 : UInt8)])) :
                        ByteArray }) :
                  Int) then
          Option.some
            (Go.IntKind.wrap Go.IntKind.i64
              (v3.snd +
                Go.IntKind.wrap Go.IntKind.i64
                  (↑(UInt8.toNat
                        (List.getD
                          {
                                data :=
                                  List.toArray
                                    (List.append
                                      (List.append
                                        [(0 : UInt8), (1 : UInt8), (2 : UInt8), (2 : UInt8), (3 : UInt8), (3 : UInt8), (3 : UInt8), (3 : UInt8), (4 : UInt8), (4 : UInt8), (4 : UInt8), (4 : UInt8),
                                          (4 : UInt8), (4 : UInt8), (4 : UInt8), (4 : UInt8), (5 : UInt8), (5 : UInt8), (5 : UInt8), (5 : UInt8), (5 : UInt8), (5 : UInt8), (5 : UInt8), (5 : UInt8),
                                          (5 : UInt8), (5 : UInt8), (5 : UInt8), (5 : UInt8), (5 : UInt8), (5 : UInt8), (5 : UInt8), (5 : UInt8), (6 : UInt8), (6 : UInt8), (6 : UInt8), (6 : UInt8),
                                          (6 : UInt8), (6 : UInt8), (6 : UInt8), (6 : UInt8), (6 : UInt8), (6 : UInt8), (6 : UInt8), (6 : UInt8), (6 : UInt8), (6 : UInt8), (6 : UInt8), (6 : UInt8),
                                          (6 : UInt8), (6 : UInt8), (6 : UInt8), (6 : UInt8), (6 : UInt8), (6 : UInt8), (6 : UInt8), (6 : UInt8), (6 : UInt8), (6 : UInt8), (6 : UInt8), (6 : UInt8),
                                          (6 : UInt8), (6 : UInt8), (6 : UInt8), (6 : UInt8)]
                                        [(7 : UInt8), (7 : UInt8), (7 : UInt8), (7 : UInt8), (7 : UInt8), (7 : UInt8), (7 : UInt8), (7 : UInt8), (7 : UInt8), (7 : UInt8), (7 : UInt8), (7 : UInt8),
                                          (7 : UInt8), (7 : UInt8), (7 : UInt8), (7 : UInt8), (7 : UInt8), (7 : UInt8), (7 : UInt8), (7 : UInt8), (7 : UInt8), (7 : UInt8), (7 : UInt8), (7 : UInt8),
                                          (7 : UInt8), (7 : UInt8), (7 : UInt8), (7 : UInt8), (7 : UInt8), (7 : UInt8), (7 : UInt8), (7 : UInt8), (7 : UInt8), (7 : UInt8), (7 : UInt8), (7 : UInt8),
                                          (7 : UInt8), (7 : UInt8), (7 : UInt8), (7 : UInt8), (7 : UInt8), (7 : UInt8), (7 : UInt8), (7 : UInt8), (7 : UInt8), (7 : UInt8), (7 : UInt8), (7 : UInt8),
                                          (7 : UInt8), (7 : UInt8), (7 : UInt8), (7 : UInt8), (7 : UInt8), (7 : UInt8), (7 : UInt8), (7 : UInt8), (7 : UInt8), (7 : UInt8), (7 : UInt8), (7 : UInt8),
                                          (7 : UInt8), (7 : UInt8), (7 : UInt8), (7 : UInt8)])
                                      (List.append
                                        [(8 : UInt8), (8 : UInt8), (8 : UInt8), (8 : UInt8), (8 : UInt8), (8 : UInt8), (8 : UInt8), (8 : UInt8), (8 : UInt8), (8 : UInt8), (8 : UInt8), (8 : UInt8),
                                          (8 : UInt8), (8 : UInt8), (8 : UInt8), (8 : UInt8), (8 : UInt8), (8 : UInt8), (8 : UInt8), (8 : UInt8), (8 : UInt8), (8 : UInt8), (8 : UInt8), (8 : UInt8),
                                          (8 : UInt8), (8 : UInt8), (8 : UInt8), (8 : UInt8), (8 : UInt8), (8 : UInt8), (8 : UInt8), (8 : UInt8), (8 : UInt8), (8 : UInt8), (8 : UInt8), (8 : UInt8),
                                          (8 : UInt8), (8 : UInt8), (8 : UInt8), (8 : UInt8), (8 : UInt8), (8 : UInt8), (8 : UInt8), (8 : UInt8), (8 : UInt8), (8 : UInt8), (8 : UInt8), (8 : UInt8),
                                          (8 : UInt8), (8 : UInt8), (8 : UInt8), (8 : UInt8), (8 : UInt8), (8 : UInt8), (8 : UInt8), (8 : UInt8), (8 : UInt8), (8 : UInt8), (8 : UInt8), (8 : UInt8),
                                          (8 : UInt8), (8 : UInt8), (8 : UInt8), (8 : UInt8)]
                                        [(8 : UInt8), (8 : UInt8), (8 : UInt8), (8 : UInt8), (8 : UInt8), (8 : UInt8), (8 : UInt8), (8 : UInt8), (8 : UInt8), (8 : UInt8), (8 : UInt8), (8 : UInt8),
                                          (8 : UInt8), (8 : UInt8), (8 : UInt8), (8 : UInt8), (8 : UInt8), (8 : UInt8), (8 : UInt8), (8 : UInt8), (8 : UInt8), (8 : UInt8), (8 : UInt8), (8 : UInt8),
                                          (8 : UInt8), (8 : UInt8), (8 : UInt8), (8 : UInt8), (8 : UInt8), (8 : UInt8), (8 : UInt8), (8 : UInt8), (8 : UInt8), (8 : UInt8), (8 : UInt8), (8 : UInt8),
                                          (8 : UInt8), (8 : UInt8), (8 : UInt8), (8 : UInt8), (8 : UInt8), (8 : UInt8), (8 : UInt8), (8 : UInt8), (8 : UInt8), (8 : UInt8), (8 : UInt8), (8 : UInt8),
                                          (8 : UInt8), (8 : UInt8), (8 : UInt8), (8 : UInt8), (8 : UInt8), (8 : UInt8), (8 : UInt8), (8 : UInt8), (8 : UInt8), (8 : UInt8), (8 : UInt8), (8 : UInt8),
                                          (8 : UInt8), (8 : UInt8), (8 : UInt8), (8 : UInt8)])) :
                                ByteArray }.data.toList
                          (Int.toNat (Go.IntKind.wrap Go.IntKind.u8 v3.fst)) (0 : UInt8))) :
                    Int)))
        else Option.none
theorem S.f119E_le (n : Nat) (h : n ≤ S.fuel) : ∀ x, Le (S.f119E n x) (S.f119F x) := by
  intro x
  unfold S.f119E S.f119F
  repeat' (first | with_reducible exact Le.rfl | with_reducible apply Le.bind | with_reducible apply Le.iter | with_reducible apply Le.ite | with_reducible apply Le.elim | intro _)
def S.f101E (n : Nat) : Int → Option (Int) :=
  fun (x : Int) => Option.bind (S.f119E n x) fun (v1 : Int) => Option.some v1
theorem S.f101E_le (n : Nat) (h : n ≤ S.fuel) : ∀ x, Le (S.f101E n x) (S.f101F x) := by
  intro x
  unfold S.f101E S.f101F
  repeat' (first | with_reducible exact Le.rfl | with_reducible exact S.f119E_le n h _ | with_reducible apply Le.bind | with_reducible apply Le.iter | with_reducible apply Le.ite | with_reducible apply Le.elim | intro _)
def S.f120E (n : Nat) : Int → Option (Bool) :=
  fun (x : Int) => Option.some (x != x)
theorem S.f120E_le (n : Nat) (h : n ≤ S.fuel) : ∀ x, Le (S.f120E n x) (S.f120F x) := by
  intro x
  unfold S.f120E S.f120F
  repeat' (first | with_reducible exact Le.rfl | with_reducible apply Le.bind | with_reducible apply Le.iter | with_reducible apply Le.ite | with_reducible apply Le.elim | intro _)
def S.f105E (n : Nat) : Int × Int → Option (Bool) :=
  fun (x : Int × Int) =>
  Option.bind (S.f120E n x.1) fun (v1 : Bool) =>
    if v1 = Bool.true then Option.bind (S.f120E n x.2) fun (v2 : Bool) => if (!v2) = Bool.true then Option.some Bool.true else Option.some (Decidable.decide (x.fst < x.snd))
    else Option.some (Decidable.decide (x.fst < x.snd))
theorem S.f105E_le (n : Nat) (h : n ≤ S.fuel) : ∀ x, Le (S.f105E n x) (S.f105F x) := by
  intro x
  unfold S.f105E S.f105F
  repeat' (first | with_reducible exact Le.rfl | with_reducible exact S.f120E_le n h _ | with_reducible apply Le.bind | with_reducible apply Le.iter | with_reducible apply Le.ite | with_reducible apply Le.elim | intro _)
def S.f110E (n : Nat) : Int × Int × List Int → Option (List Int) :=
  fun (x : Int × Int × List Int) =>
  Option.bind
    (Go.Sx.iterE n
      (fun (s1 : Int × List Int) =>
        if Decidable.decide (s1.fst < x.snd.fst) = Bool.true then
          Option.bind
            (Go.Sx.iterE n
              (fun (s2 : Int × List Int) =>
                Option.bind
                  (if Decidable.decide (s2.fst > x.fst) = Bool.true then
                    if (0 : Int) ≤ s2.fst ∧ s2.fst < (↑(List.length s2.snd) : Int) then
                      if (0 : Int) ≤ Go.IntKind.wrap Go.IntKind.i64 (s2.fst - (1 : Int)) ∧ Go.IntKind.wrap Go.IntKind.i64 (s2.fst - (1 : Int)) < (↑(List.length s2.snd) : Int) then
                        Option.bind (S.f105E n (List.getD s2.2 (Int.toNat s2.fst) (0 : Int), List.getD s2.2 (Int.toNat (Go.IntKind.wrap Go.IntKind.i64 (s2.fst - (1 : Int)))) (0 : Int)))
                          fun (v3 : Bool) => Option.some (v3, s2.2)
                      else Option.none
                    else Option.none
                  else Option.some (Bool.false, s2.2))
                  fun (v3 : Bool × List Int) =>
                  if v3.fst = Bool.true then
                    if (0 : Int) ≤ Go.IntKind.wrap Go.IntKind.i64 (s2.fst - (1 : Int)) ∧ Go.IntKind.wrap Go.IntKind.i64 (s2.fst - (1 : Int)) < (↑(List.length v3.snd) : Int) then
                      if (0 : Int) ≤ s2.fst ∧ s2.fst < (↑(List.length v3.snd) : Int) then
                        if (0 : Int) ≤ s2.fst ∧ s2.fst < (↑(List.length v3.snd) : Int) then
                          if
                              (0 : Int) ≤ Go.IntKind.wrap Go.IntKind.i64 (s2.fst - (1 : Int)) ∧
                                Go.IntKind.wrap Go.IntKind.i64 (s2.fst - (1 : Int)) <
                                  (↑(List.length (List.set v3.2 (Int.toNat s2.fst) (List.getD v3.2 (Int.toNat (Go.IntKind.wrap Go.IntKind.i64 (s2.fst - (1 : Int)))) (0 : Int)))) : Int) then
                            Option.some
                              (Sum.inl
                                (Go.IntKind.wrap Go.IntKind.i64 (s2.fst - (1 : Int)),
                                  List.set (List.set v3.2 (Int.toNat s2.fst) (List.getD v3.2 (Int.toNat (Go.IntKind.wrap Go.IntKind.i64 (s2.fst - (1 : Int)))) (0 : Int)))
                                    (Int.toNat (Go.IntKind.wrap Go.IntKind.i64 (s2.fst - (1 : Int)))) (List.getD v3.2 (Int.toNat s2.fst) (0 : Int))))
                          else Option.none
                        else Option.none
                      else Option.none
                    else Option.none
                  else Option.some (Sum.inr v3.2))
              (s1.1, s1.2))
            fun (v2 : List Int) => Option.some (Sum.inl (Go.IntKind.wrap Go.IntKind.i64 (s1.fst + (1 : Int)), v2))
        else Option.some (Sum.inr s1.2))
      (Go.IntKind.wrap Go.IntKind.i64 (x.fst + (1 : Int)), x.snd.2))
    fun (v1 : List Int) => Option.some v1
theorem S.f110E_le (n : Nat) (h : n ≤ S.fuel) : ∀ x, Le (S.f110E n x) (S.f110F x) := by
  intro x
  unfold S.f110E S.f110F
  repeat' (first | with_reducible exact Le.rfl | with_reducible exact S.f105E_le n h _ | with_reducible apply Le.bind | with_reducible apply Le.iter | with_reducible apply Le.ite | with_reducible apply Le.elim | intro _)
def S.f121E (n : Nat) : Int × Int × Int × List Int → Option (List Int) :=
  fun (x : Int × Int × Int × List Int) =>
  Option.bind
    (Go.Sx.iterE n
      (fun (s1 : Int × List Int) =>
        if Decidable.decide (Go.IntKind.wrap Go.IntKind.i64 (Go.IntKind.wrap Go.IntKind.i64 ((2 : Int) * s1.fst) + (1 : Int)) ≥ x.snd.fst) = Bool.true then Option.some (Sum.inr (Sum.inl s1.2))
        else
          Option.bind
            (Option.bind
              (if
                  Decidable.decide (Go.IntKind.wrap Go.IntKind.i64 (Go.IntKind.wrap Go.IntKind.i64 (Go.IntKind.wrap Go.IntKind.i64 ((2 : Int) * s1.fst) + (1 : Int)) + (1 : Int)) < x.snd.fst) =
                    Bool.true then
                if
                    (0 : Int) ≤ Go.IntKind.wrap Go.IntKind.i64 (x.snd.snd.fst + Go.IntKind.wrap Go.IntKind.i64 (Go.IntKind.wrap Go.IntKind.i64 ((2 : Int) * s1.fst) + (1 : Int))) ∧
                      Go.IntKind.wrap Go.IntKind.i64 (x.snd.snd.fst + Go.IntKind.wrap Go.IntKind.i64 (Go.IntKind.wrap Go.IntKind.i64 ((2 : Int) * s1.fst) + (1 : Int))) <
                        (↑(List.length s1.snd) : Int) then
                  if
                      (0 : Int) ≤
                          Go.IntKind.wrap Go.IntKind.i64
                            (Go.IntKind.wrap Go.IntKind.i64 (x.snd.snd.fst + Go.IntKind.wrap Go.IntKind.i64 (Go.IntKind.wrap Go.IntKind.i64 ((2 : Int) * s1.fst) + (1 : Int))) + (1 : Int)) ∧
                        Go.IntKind.wrap Go.IntKind.i64
                            (Go.IntKind.wrap Go.IntKind.i64 (x.snd.snd.fst + Go.IntKind.wrap Go.IntKind.i64 (Go.IntKind.wrap Go.IntKind.i64 ((2 : Int) * s1.fst) + (1 : Int))) + (1 : Int)) <
                          (↑(List.length s1.snd) : Int) then
                    Option.bind
                      (S.f105E n
                        (List.getD s1.2 (Int.toNat (Go.IntKind.wrap Go.IntKind.i64 (x.snd.snd.fst + Go.IntKind.wrap Go.IntKind.i64 (Go.IntKind.wrap Go.IntKind.i64 ((2 : Int) * s1.fst) + (1 : Int)))))
                            (0 : Int),
                          List.getD s1.2
                            (Int.toNat
                              (Go.IntKind.wrap Go.IntKind.i64
                                (Go.IntKind.wrap Go.IntKind.i64 (x.snd.snd.fst + Go.IntKind.wrap Go.IntKind.i64 (Go.IntKind.wrap Go.IntKind.i64 ((2 : Int) * s1.fst) + (1 : Int))) + (1 : Int))))
                            (0 : Int)))
                      fun (v2 : Bool) => Option.some (v2, s1.2)
                  else Option.none
                else Option.none
              else Option.some (Bool.false, s1.2))
              fun (v2 : Bool × List Int) =>
              if v2.fst = Bool.true then
                Option.some (Go.IntKind.wrap Go.IntKind.i64 (Go.IntKind.wrap Go.IntKind.i64 (Go.IntKind.wrap Go.IntKind.i64 ((2 : Int) * s1.fst) + (1 : Int)) + (1 : Int)), v2.2)
              else Option.some (Go.IntKind.wrap Go.IntKind.i64 (Go.IntKind.wrap Go.IntKind.i64 ((2 : Int) * s1.fst) + (1 : Int)), v2.2))
            fun (v2 : Int × List Int) =>
            if (0 : Int) ≤ Go.IntKind.wrap Go.IntKind.i64 (x.snd.snd.fst + s1.fst) ∧ Go.IntKind.wrap Go.IntKind.i64 (x.snd.snd.fst + s1.fst) < (↑(List.length v2.snd) : Int) then
              if (0 : Int) ≤ Go.IntKind.wrap Go.IntKind.i64 (x.snd.snd.fst + v2.fst) ∧ Go.IntKind.wrap Go.IntKind.i64 (x.snd.snd.fst + v2.fst) < (↑(List.length v2.snd) : Int) then
                Option.bind
                  (S.f105E n
                    (List.getD v2.2 (Int.toNat (Go.IntKind.wrap Go.IntKind.i64 (x.snd.snd.fst + s1.fst))) (0 : Int),
                      List.getD v2.2 (Int.toNat (Go.IntKind.wrap Go.IntKind.i64 (x.snd.snd.fst + v2.fst))) (0 : Int)))
                  fun (v3 : Bool) =>
                  if (!v3) = Bool.true then Option.some (Sum.inr (Sum.inr v2.2))
                  else
                    if (0 : Int) ≤ Go.IntKind.wrap Go.IntKind.i64 (x.snd.snd.fst + v2.fst) ∧ Go.IntKind.wrap Go.IntKind.i64 (x.snd.snd.fst + v2.fst) < (↑(List.length v2.snd) : Int) then
                      if (0 : Int) ≤ Go.IntKind.wrap Go.IntKind.i64 (x.snd.snd.fst + s1.fst) ∧ Go.IntKind.wrap Go.IntKind.i64 (x.snd.snd.fst + s1.fst) < (↑(List.length v2.snd) : Int) then
                        if (0 : Int) ≤ Go.IntKind.wrap Go.IntKind.i64 (x.snd.snd.fst + s1.fst) ∧ Go.IntKind.wrap Go.IntKind.i64 (x.snd.snd.fst + s1.fst) < (↑(List.length v2.snd) : Int) then
                          if
                              (0 : Int) ≤ Go.IntKind.wrap Go.IntKind.i64 (x.snd.snd.fst + v2.fst) ∧
                                Go.IntKind.wrap Go.IntKind.i64 (x.snd.snd.fst + v2.fst) <
                                  (↑(List.length
                                        (List.set v2.2 (Int.toNat (Go.IntKind.wrap Go.IntKind.i64 (x.snd.snd.fst + s1.fst)))
                                          (List.getD v2.2 (Int.toNat (Go.IntKind.wrap Go.IntKind.i64 (x.snd.snd.fst + v2.fst))) (0 : Int)))) :
                                    Int) then
                            Option.some
                              (Sum.inl
                                (v2.1,
                                  List.set
                                    (List.set v2.2 (Int.toNat (Go.IntKind.wrap Go.IntKind.i64 (x.snd.snd.fst + s1.fst)))
                                      (List.getD v2.2 (Int.toNat (Go.IntKind.wrap Go.IntKind.i64 (x.snd.snd.fst + v2.fst))) (0 : Int)))
                                    (Int.toNat (Go.IntKind.wrap Go.IntKind.i64 (x.snd.snd.fst + v2.fst)))
                                    (List.getD v2.2 (Int.toNat (Go.IntKind.wrap Go.IntKind.i64 (x.snd.snd.fst + s1.fst))) (0 : Int))))
                          else Option.none
                        else Option.none
                      else Option.none
                    else Option.none
              else Option.none
            else Option.none)
      (x.1, x.snd.snd.2))
    fun (v1 : List Int ⊕ List Int) => Sum.elim (fun (p2 : List Int) => Option.some p2) (fun (q2 : List Int) => Option.some q2) v1
theorem S.f121E_le (n : Nat) (h : n ≤ S.fuel) : ∀ x, Le (S.f121E n x) (S.f121F x) := by
  intro x
  unfold S.f121E S.f121F
  repeat' (first | with_reducible exact Le.rfl | with_reducible exact S.f105E_le n h _ | with_reducible apply Le.bind | with_reducible apply Le.iter | with_reducible apply Le.ite | with_reducible apply Le.elim | intro _)
def S.f111E (n : Nat) : Int × Int × List Int → Option (List Int) :=
  fun (x : Int × Int × List Int) =>
  Option.bind
    (Go.Sx.iterE n
      (fun (s1 : Int × List Int) =>
        if Decidable.decide (s1.fst ≥ (0 : Int)) = Bool.true then
          Option.bind (S.f121E n (s1.1, Go.IntKind.wrap Go.IntKind.i64 (x.snd.fst - x.fst), x.1, s1.2)) fun (v2 : List Int) =>
            Option.some (Sum.inl (Go.IntKind.wrap Go.IntKind.i64 (s1.fst - (1 : Int)), v2))
        else Option.some (Sum.inr s1.2))
      (Go.IntKind.wrap Go.IntKind.i64 (Int.tdiv (Go.IntKind.wrap Go.IntKind.i64 (Go.IntKind.wrap Go.IntKind.i64 (x.snd.fst - x.fst) - (1 : Int))) (2 : Int)), x.snd.2))
    fun (v1 : List Int) =>
    Option.bind
      (Go.Sx.iterE n
        (fun (s2 : Int × List Int) =>
          if Decidable.decide (s2.fst ≥ (0 : Int)) = Bool.true then
            if (0 : Int) ≤ Go.IntKind.wrap Go.IntKind.i64 (x.fst + s2.fst) ∧ Go.IntKind.wrap Go.IntKind.i64 (x.fst + s2.fst) < (↑(List.length s2.snd) : Int) then
              if (0 : Int) ≤ x.fst ∧ x.fst < (↑(List.length s2.snd) : Int) then
                if (0 : Int) ≤ x.fst ∧ x.fst < (↑(List.length s2.snd) : Int) then
                  if
                      (0 : Int) ≤ Go.IntKind.wrap Go.IntKind.i64 (x.fst + s2.fst) ∧
                        Go.IntKind.wrap Go.IntKind.i64 (x.fst + s2.fst) <
                          (↑(List.length (List.set s2.2 (Int.toNat x.fst) (List.getD s2.2 (Int.toNat (Go.IntKind.wrap Go.IntKind.i64 (x.fst + s2.fst))) (0 : Int)))) : Int) then
                    Option.bind
                      (S.f121E n
                        ((0 : Int), s2.1, x.1,
                          List.set (List.set s2.2 (Int.toNat x.fst) (List.getD s2.2 (Int.toNat (Go.IntKind.wrap Go.IntKind.i64 (x.fst + s2.fst))) (0 : Int)))
                            (Int.toNat (Go.IntKind.wrap Go.IntKind.i64 (x.fst + s2.fst))) (List.getD s2.2 (Int.toNat x.fst) (0 : Int))))
                      fun (v3 : List Int) => Option.some (Sum.inl (Go.IntKind.wrap Go.IntKind.i64 (s2.fst - (1 : Int)), v3))
                  else Option.none
                else Option.none
              else Option.none
            else Option.none
          else Option.some (Sum.inr s2.2))
        (Go.IntKind.wrap Go.IntKind.i64 (Go.IntKind.wrap Go.IntKind.i64 (x.snd.fst - x.fst) - (1 : Int)), v1))
      fun (v2 : List Int) => Option.some v2
theorem S.f111E_le (n : Nat) (h : n ≤ S.fuel) : ∀ x, Le (S.f111E n x) (S.f111F x) := by
  intro x
  unfold S.f111E S.f111F
  repeat' (first | with_reducible exact Le.rfl | with_reducible exact S.f121E_le n h _ | with_reducible apply Le.bind | with_reducible apply Le.iter | with_reducible apply Le.ite | with_reducible apply Le.elim | intro _)
def S.f122E (n : Nat) : Int → Option (Int) :=
  fun (x : Int) =>
  Option.bind (S.f101E n (Go.IntKind.wrap Go.IntKind.u64 x)) fun (v1 : Int) =>
    if v1 < (0 : Int) then Option.none else Option.some (Go.IntKind.wrap Go.IntKind.u64 ((1 : Int) * (2 : Int) ^ Min.min (Int.toNat v1) (Go.IntKind.bits Go.IntKind.u64)))
theorem S.f122E_le (n : Nat) (h : n ≤ S.fuel) : ∀ x, Le (S.f122E n x) (S.f122F x) := by
  intro x
  unfold S.f122E S.f122F
  repeat' (first | with_reducible exact Le.rfl | with_reducible exact S.f101E_le n h _ | with_reducible apply Le.bind | with_reducible apply Le.iter | with_reducible apply Le.ite | with_reducible apply Le.elim | intro _)
def S.f123E (n : Nat) : Int → Option (Int × Int) :=
  fun (x : Int) =>
  Option.some
    (Go.IntKind.wrap Go.IntKind.u64
        (↑(BitVec.toNat
              (BitVec.ofInt (Go.IntKind.bits Go.IntKind.u64)
                  (Go.IntKind.wrap Go.IntKind.u64
                    (↑(BitVec.toNat
                          (BitVec.ofInt (Go.IntKind.bits Go.IntKind.u64)
                              (Go.IntKind.wrap Go.IntKind.u64
                                (↑(BitVec.toNat
                                      (BitVec.ofInt (Go.IntKind.bits Go.IntKind.u64) x ^^^
                                        BitVec.ofInt (Go.IntKind.bits Go.IntKind.u64)
                                          (Go.IntKind.wrap Go.IntKind.u64 (x * (2 : Int) ^ Min.min (Int.toNat (13 : Int)) (Go.IntKind.bits Go.IntKind.u64))))) :
                                  Int)) ^^^
                            BitVec.ofInt (Go.IntKind.bits Go.IntKind.u64)
                              (Int.fdiv
                                (Go.IntKind.wrap Go.IntKind.u64
                                  (↑(BitVec.toNat
                                        (BitVec.ofInt (Go.IntKind.bits Go.IntKind.u64) x ^^^
                                          BitVec.ofInt (Go.IntKind.bits Go.IntKind.u64)
                                            (Go.IntKind.wrap Go.IntKind.u64 (x * (2 : Int) ^ Min.min (Int.toNat (13 : Int)) (Go.IntKind.bits Go.IntKind.u64))))) :
                                    Int))
                                ((2 : Int) ^ Min.min (Int.toNat (7 : Int)) (Go.IntKind.bits Go.IntKind.u64))))) :
                      Int)) ^^^
                BitVec.ofInt (Go.IntKind.bits Go.IntKind.u64)
                  (Go.IntKind.wrap Go.IntKind.u64
                    (Go.IntKind.wrap Go.IntKind.u64
                        (↑(BitVec.toNat
                              (BitVec.ofInt (Go.IntKind.bits Go.IntKind.u64)
                                  (Go.IntKind.wrap Go.IntKind.u64
                                    (↑(BitVec.toNat
                                          (BitVec.ofInt (Go.IntKind.bits Go.IntKind.u64) x ^^^
                                            BitVec.ofInt (Go.IntKind.bits Go.IntKind.u64)
                                              (Go.IntKind.wrap Go.IntKind.u64 (x * (2 : Int) ^ Min.min (Int.toNat (13 : Int)) (Go.IntKind.bits Go.IntKind.u64))))) :
                                      Int)) ^^^
                                BitVec.ofInt (Go.IntKind.bits Go.IntKind.u64)
                                  (Int.fdiv
                                    (Go.IntKind.wrap Go.IntKind.u64
                                      (↑(BitVec.toNat
                                            (BitVec.ofInt (Go.IntKind.bits Go.IntKind.u64) x ^^^
                                              BitVec.ofInt (Go.IntKind.bits Go.IntKind.u64)
                                                (Go.IntKind.wrap Go.IntKind.u64 (x * (2 : Int) ^ Min.min (Int.toNat (13 : Int)) (Go.IntKind.bits Go.IntKind.u64))))) :
                                        Int))
                                    ((2 : Int) ^ Min.min (Int.toNat (7 : Int)) (Go.IntKind.bits Go.IntKind.u64))))) :
                          Int) *
                      (2 : Int) ^ Min.min (Int.toNat (17 : Int)) (Go.IntKind.bits Go.IntKind.u64))))) :
          Int),
      Go.IntKind.wrap Go.IntKind.u64
        (↑(BitVec.toNat
              (BitVec.ofInt (Go.IntKind.bits Go.IntKind.u64)
                  (Go.IntKind.wrap Go.IntKind.u64
                    (↑(BitVec.toNat
                          (BitVec.ofInt (Go.IntKind.bits Go.IntKind.u64)
                              (Go.IntKind.wrap Go.IntKind.u64
                                (↑(BitVec.toNat
                                      (BitVec.ofInt (Go.IntKind.bits Go.IntKind.u64) x ^^^
                                        BitVec.ofInt (Go.IntKind.bits Go.IntKind.u64)
                                          (Go.IntKind.wrap Go.IntKind.u64 (x * (2 : Int) ^ Min.min (Int.toNat (13 : Int)) (Go.IntKind.bits Go.IntKind.u64))))) :
                                  Int)) ^^^
                            BitVec.ofInt (Go.IntKind.bits Go.IntKind.u64)
                              (Int.fdiv
                                (Go.IntKind.wrap Go.IntKind.u64
                                  (↑(BitVec.toNat
                                        (BitVec.ofInt (Go.IntKind.bits Go.IntKind.u64) x ^^^
                                          BitVec.ofInt (Go.IntKind.bits Go.IntKind.u64)
                                            (Go.IntKind.wrap Go.IntKind.u64 (x * (2 : Int) ^ Min.min (Int.toNat (13 : Int)) (Go.IntKind.bits Go.IntKind.u64))))) :
                                    Int))
                                ((2 : Int) ^ Min.min (Int.toNat (7 : Int)) (Go.IntKind.bits Go.IntKind.u64))))) :
                      Int)) ^^^
                BitVec.ofInt (Go.IntKind.bits Go.IntKind.u64)
                  (Go.IntKind.wrap Go.IntKind.u64
                    (Go.IntKind.wrap Go.IntKind.u64
                        (↑(BitVec.toNat
                              (BitVec.ofInt (Go.IntKind.bits Go.IntKind.u64)
                                  (Go.IntKind.wrap Go.IntKind.u64
                                    (↑(BitVec.toNat
                                          (BitVec.ofInt (Go.IntKind.bits Go.IntKind.u64) x ^^^
                                            BitVec.ofInt (Go.IntKind.bits Go.IntKind.u64)
                                              (Go.IntKind.wrap Go.IntKind.u64 (x * (2 : Int) ^ Min.min (Int.toNat (13 : Int)) (Go.IntKind.bits Go.IntKind.u64))))) :
                                      Int)) ^^^
                                BitVec.ofInt (Go.IntKind.bits Go.IntKind.u64)
                                  (Int.fdiv
                                    (Go.IntKind.wrap Go.IntKind.u64
                                      (↑(BitVec.toNat
                                            (BitVec.ofInt (Go.IntKind.bits Go.IntKind.u64) x ^^^
                                              BitVec.ofInt (Go.IntKind.bits Go.IntKind.u64)
                                                (Go.IntKind.wrap Go.IntKind.u64 (x * (2 : Int) ^ Min.min (Int.toNat (13 : Int)) (Go.IntKind.bits Go.IntKind.u64))))) :
                                        Int))
                                    ((2 : Int) ^ Min.min (Int.toNat (7 : Int)) (Go.IntKind.bits Go.IntKind.u64))))) :
                          Int) *
                      (2 : Int) ^ Min.min (Int.toNat (17 : Int)) (Go.IntKind.bits Go.IntKind.u64))))) :
          Int))
theorem S.f123E_le (n : Nat) (h : n ≤ S.fuel) : ∀ x, Le (S.f123E n x) (S.f123F x) := by
  intro x
  unfold S.f123E S.f123F
  repeat' (first | with_reducible exact Le.rfl | with_reducible apply Le.bind | with_reducible apply Le.iter | with_reducible apply Le.ite | with_reducible apply Le.elim | intro _)
def S.f112E (n : Nat) : Int × Int × List Int → Option (List Int) :=
  fun (x : Int × Int × List Int) =>
  if Decidable.decide (Go.IntKind.wrap Go.IntKind.i64 (x.snd.fst - x.fst) ≥ (8 : Int)) = Bool.true then
    Option.bind (S.f122E n (Go.IntKind.wrap Go.IntKind.i64 (x.snd.fst - x.fst))) fun (v1 : Int) =>
      Option.bind
        (Go.Sx.iterE n
          (fun (s2 : Int × List Int × Int) =>
            if
                Decidable.decide
                    (s2.fst ≤
                      Go.IntKind.wrap Go.IntKind.i64
                        (Go.IntKind.wrap Go.IntKind.i64
                            (x.fst + Go.IntKind.wrap Go.IntKind.i64 (Go.IntKind.wrap Go.IntKind.i64 (Int.tdiv (Go.IntKind.wrap Go.IntKind.i64 (x.snd.fst - x.fst)) (4 : Int)) * (2 : Int))) +
                          (1 : Int))) =
                  Bool.true then
              Option.bind (S.f123E n s2.snd.2) fun (v3 : Int × Int) =>
                Option.bind
                  (if
                      Decidable.decide
                          (Go.IntKind.wrap Go.IntKind.i64
                              (Go.IntKind.wrap Go.IntKind.u64
                                (↑(BitVec.toNat
                                      (BitVec.ofInt (Go.IntKind.bits Go.IntKind.u64) v3.fst &&& BitVec.ofInt (Go.IntKind.bits Go.IntKind.u64) (Go.IntKind.wrap Go.IntKind.u64 (v1 - (1 : Int))))) :
                                  Int)) ≥
                            Go.IntKind.wrap Go.IntKind.i64 (x.snd.fst - x.fst)) =
                        Bool.true then
                    Option.some
                      (Go.IntKind.wrap Go.IntKind.i64
                          (Go.IntKind.wrap Go.IntKind.i64
                              (Go.IntKind.wrap Go.IntKind.u64
                                (↑(BitVec.toNat
                                      (BitVec.ofInt (Go.IntKind.bits Go.IntKind.u64) v3.fst &&& BitVec.ofInt (Go.IntKind.bits Go.IntKind.u64) (Go.IntKind.wrap Go.IntKind.u64 (v1 - (1 : Int))))) :
                                  Int)) -
                            Go.IntKind.wrap Go.IntKind.i64 (x.snd.fst - x.fst)),
                        s2.snd.1, v3.2)
                  else
                    Option.some
                      (Go.IntKind.wrap Go.IntKind.i64
                          (Go.IntKind.wrap Go.IntKind.u64
                            (↑(BitVec.toNat
                                  (BitVec.ofInt (Go.IntKind.bits Go.IntKind.u64) v3.fst &&& BitVec.ofInt (Go.IntKind.bits Go.IntKind.u64) (Go.IntKind.wrap Go.IntKind.u64 (v1 - (1 : Int))))) :
                              Int)),
                        s2.snd.1, v3.2))
                  fun (v4 : Int × List Int × Int) =>
                  if (0 : Int) ≤ Go.IntKind.wrap Go.IntKind.i64 (x.fst + v4.fst) ∧ Go.IntKind.wrap Go.IntKind.i64 (x.fst + v4.fst) < (↑(List.length v4.snd.fst) : Int) then
                    if (0 : Int) ≤ s2.fst ∧ s2.fst < (↑(List.length v4.snd.fst) : Int) then
                      if (0 : Int) ≤ s2.fst ∧ s2.fst < (↑(List.length v4.snd.fst) : Int) then
                        if
                            (0 : Int) ≤ Go.IntKind.wrap Go.IntKind.i64 (x.fst + v4.fst) ∧
                              Go.IntKind.wrap Go.IntKind.i64 (x.fst + v4.fst) <
                                (↑(List.length (List.set v4.snd.1 (Int.toNat s2.fst) (List.getD v4.snd.1 (Int.toNat (Go.IntKind.wrap Go.IntKind.i64 (x.fst + v4.fst))) (0 : Int)))) : Int) then
                          Option.some
                            (Sum.inl
                              (Go.IntKind.wrap Go.IntKind.i64 (s2.fst + (1 : Int)),
                                List.set (List.set v4.snd.1 (Int.toNat s2.fst) (List.getD v4.snd.1 (Int.toNat (Go.IntKind.wrap Go.IntKind.i64 (x.fst + v4.fst))) (0 : Int)))
                                  (Int.toNat (Go.IntKind.wrap Go.IntKind.i64 (x.fst + v4.fst))) (List.getD v4.snd.1 (Int.toNat s2.fst) (0 : Int)),
                                v4.snd.2))
                        else Option.none
                      else Option.none
                    else Option.none
                  else Option.none
            else Option.some (Sum.inr s2.snd.1))
          (Go.IntKind.wrap Go.IntKind.i64
              (Go.IntKind.wrap Go.IntKind.i64
                  (x.fst + Go.IntKind.wrap Go.IntKind.i64 (Go.IntKind.wrap Go.IntKind.i64 (Int.tdiv (Go.IntKind.wrap Go.IntKind.i64 (x.snd.fst - x.fst)) (4 : Int)) * (2 : Int))) -
                (1 : Int)),
            x.snd.2, Go.IntKind.wrap Go.IntKind.u64 (Go.IntKind.wrap Go.IntKind.i64 (x.snd.fst - x.fst))))
        fun (v2 : List Int) => Option.some v2
  else Option.some x.snd.2
theorem S.f112E_le (n : Nat) (h : n ≤ S.fuel) : ∀ x, Le (S.f112E n x) (S.f112F x) := by
  intro x
  unfold S.f112E S.f112F
  repeat' (first | with_reducible exact Le.rfl | with_reducible exact S.f122E_le n h _ | with_reducible exact S.f123E_le n h _ | with_reducible apply Le.bind | with_reducible apply Le.iter | with_reducible apply Le.ite | with_reducible apply Le.elim | intro _)
def S.f126E (n : Nat) : Int × Int × List Int × Int → Option (Int × Int × List Int × Int) :=
  fun (x : Int × Int × List Int × Int) =>
  if (0 : Int) ≤ x.snd.fst ∧ x.snd.fst < (↑(List.length x.snd.snd.fst) : Int) then
    if (0 : Int) ≤ x.fst ∧ x.fst < (↑(List.length x.snd.snd.fst) : Int) then
      Option.bind (S.f105E n (List.getD x.snd.snd.1 (Int.toNat x.snd.fst) (0 : Int), List.getD x.snd.snd.1 (Int.toNat x.fst) (0 : Int))) fun (v1 : Bool) =>
        if v1 = Bool.true then Option.some (x.snd.1, x.1, x.snd.snd.1, Go.IntKind.wrap Go.IntKind.i64 (x.snd.snd.snd + (1 : Int))) else Option.some (x.1, x.snd.1, x.snd.snd.1, x.snd.snd.2)
    else Option.none
  else Option.none
theorem S.f126E_le (n : Nat) (h : n ≤ S.fuel) : ∀ x, Le (S.f126E n x) (S.f126F x) := by
  intro x
  unfold S.f126E S.f126F
  repeat' (first | with_reducible exact Le.rfl | with_reducible exact S.f105E_le n h _ | with_reducible apply Le.bind | with_reducible apply Le.iter | with_reducible apply Le.ite | with_reducible apply Le.elim | intro _)
def S.f125E (n : Nat) : Int × Int × Int × List Int × Int → Option (Int × List Int × Int) :=
  fun (x : Int × Int × Int × List Int × Int) =>
  Option.bind (S.f126E n (x.1, x.snd.1, x.snd.snd.snd.1, x.snd.snd.snd.2)) fun (v1 : Int × Int × List Int × Int) =>
    Option.bind (S.f126E n (v1.snd.1, x.snd.snd.1, v1.snd.snd.1, v1.snd.snd.2)) fun (v2 : Int × Int × List Int × Int) =>
      Option.bind (S.f126E n (v1.1, v2.1, v2.snd.snd.1, v2.snd.snd.2)) fun (v3 : Int × Int × List Int × Int) => Option.some (v3.snd.1, v3.snd.snd.1, v3.snd.snd.2)
theorem S.f125E_le (n : Nat) (h : n ≤ S.fuel) : ∀ x, Le (S.f125E n x) (S.f125F x) := by
  intro x
  unfold S.f125E S.f125F
  repeat' (first | with_reducible exact Le.rfl | with_reducible exact S.f126E_le n h _ | with_reducible apply Le.bind | with_reducible apply Le.iter | with_reducible apply Le.ite | with_reducible apply Le.elim | intro _)
def S.f124E (n : Nat) : Int × List Int × Int → Option (Int × List Int × Int) :=
  fun (x : Int × List Int × Int) =>
  Option.bind (S.f125E n (Go.IntKind.wrap Go.IntKind.i64 (x.fst - (1 : Int)), x.1, Go.IntKind.wrap Go.IntKind.i64 (x.fst + (1 : Int)), x.snd.1, x.snd.2)) fun (v1 : Int × List Int × Int) =>
    Option.some (v1.1, v1.snd.1, v1.snd.2)
theorem S.f124E_le (n : Nat) (h : n ≤ S.fuel) : ∀ x, Le (S.f124E n x) (S.f124F x) := by
  intro x
  unfold S.f124E S.f124F
  repeat' (first | with_reducible exact Le.rfl | with_reducible exact S.f125E_le n h _ | with_reducible apply Le.bind | with_reducible apply Le.iter | with_reducible apply Le.ite | with_reducible apply Le.elim | intro _)
def S.f113E (n : Nat) : Int × Int × List Int → Option (Int × Int × List Int) :=
  fun (x : Int × Int × List Int) =>
  Option.bind
    (if Decidable.decide (Go.IntKind.wrap Go.IntKind.i64 (x.snd.fst - x.fst) ≥ (8 : Int)) = Bool.true then
      if Decidable.decide (Go.IntKind.wrap Go.IntKind.i64 (x.snd.fst - x.fst) ≥ (50 : Int)) = Bool.true then
        Option.bind
          (S.f124E n
            (Go.IntKind.wrap Go.IntKind.i64
                (x.fst + Go.IntKind.wrap Go.IntKind.i64 (Go.IntKind.wrap Go.IntKind.i64 (Int.tdiv (Go.IntKind.wrap Go.IntKind.i64 (x.snd.fst - x.fst)) (4 : Int)) * (1 : Int))),
              x.snd.2, (0 : Int)))
          fun (v1 : Int × List Int × Int) =>
          Option.bind
            (S.f124E n
              (Go.IntKind.wrap Go.IntKind.i64
                  (x.fst + Go.IntKind.wrap Go.IntKind.i64 (Go.IntKind.wrap Go.IntKind.i64 (Int.tdiv (Go.IntKind.wrap Go.IntKind.i64 (x.snd.fst - x.fst)) (4 : Int)) * (2 : Int))),
                v1.snd.1, v1.snd.2))
            fun (v2 : Int × List Int × Int) =>
            Option.bind
              (S.f124E n
                (Go.IntKind.wrap Go.IntKind.i64
                    (x.fst + Go.IntKind.wrap Go.IntKind.i64 (Go.IntKind.wrap Go.IntKind.i64 (Int.tdiv (Go.IntKind.wrap Go.IntKind.i64 (x.snd.fst - x.fst)) (4 : Int)) * (3 : Int))),
                  v2.snd.1, v2.snd.2))
              fun (v3 : Int × List Int × Int) => Option.bind (S.f125E n (v1.1, v2.1, v3.1, v3.snd.1, v3.snd.2)) fun (v4 : Int × List Int × Int) => Option.some (v4.1, v4.snd.1, v4.snd.2)
      else
        Option.bind
          (S.f125E n
            (Go.IntKind.wrap Go.IntKind.i64
                (x.fst + Go.IntKind.wrap Go.IntKind.i64 (Go.IntKind.wrap Go.IntKind.i64 (Int.tdiv (Go.IntKind.wrap Go.IntKind.i64 (x.snd.fst - x.fst)) (4 : Int)) * (1 : Int))),
              Go.IntKind.wrap Go.IntKind.i64
                (x.fst + Go.IntKind.wrap Go.IntKind.i64 (Go.IntKind.wrap Go.IntKind.i64 (Int.tdiv (Go.IntKind.wrap Go.IntKind.i64 (x.snd.fst - x.fst)) (4 : Int)) * (2 : Int))),
              Go.IntKind.wrap Go.IntKind.i64
                (x.fst + Go.IntKind.wrap Go.IntKind.i64 (Go.IntKind.wrap Go.IntKind.i64 (Int.tdiv (Go.IntKind.wrap Go.IntKind.i64 (x.snd.fst - x.fst)) (4 : Int)) * (3 : Int))),
              x.snd.2, (0 : Int)))
          fun (v1 : Int × List Int × Int) => Option.some (v1.1, v1.snd.1, v1.snd.2)
    else
      Option.some
        (Go.IntKind.wrap Go.IntKind.i64 (x.fst + Go.IntKind.wrap Go.IntKind.i64 (Go.IntKind.wrap Go.IntKind.i64 (Int.tdiv (Go.IntKind.wrap Go.IntKind.i64 (x.snd.fst - x.fst)) (4 : Int)) * (2 : Int))),
          x.snd.2, (0 : Int)))
    fun (v1 : Int × List Int × Int) =>
    if (v1.snd.snd == (0 : Int)) = Bool.true then Option.some (v1.1, (1 : Int), v1.snd.1)
    else if (v1.snd.snd == (12 : Int)) = Bool.true then Option.some (v1.1, (2 : Int), v1.snd.1) else Option.some (v1.1, (0 : Int), v1.snd.1)
theorem S.f113E_le (n : Nat) (h : n ≤ S.fuel) : ∀ x, Le (S.f113E n x) (S.f113F x) := by
  intro x
  unfold S.f113E S.f113F
  repeat' (first | with_reducible exact Le.rfl | with_reducible exact S.f124E_le n h _ | with_reducible exact S.f125E_le n h _ | with_reducible apply Le.bind | with_reducible apply Le.iter | with_reducible apply Le.ite | with_reducible apply Le.elim | intro _)
def S.f114E (n : Nat) : Int × Int × List Int → Option (List Int) :=
  fun (x : Int × Int × List Int) =>
  Option.bind
    (Go.Sx.iterE n
      (fun (s1 : Int × Int × List Int) =>
        if Decidable.decide (s1.fst < s1.snd.fst) = Bool.true then
          if (0 : Int) ≤ s1.snd.fst ∧ s1.snd.fst < (↑(List.length s1.snd.snd) : Int) then
            if (0 : Int) ≤ s1.fst ∧ s1.fst < (↑(List.length s1.snd.snd) : Int) then
              if (0 : Int) ≤ s1.fst ∧ s1.fst < (↑(List.length s1.snd.snd) : Int) then
                if (0 : Int) ≤ s1.snd.fst ∧ s1.snd.fst < (↑(List.length (List.set s1.snd.2 (Int.toNat s1.fst) (List.getD s1.snd.2 (Int.toNat s1.snd.fst) (0 : Int)))) : Int) then
                  Option.some
                    (Sum.inl
                      (Go.IntKind.wrap Go.IntKind.i64 (s1.fst + (1 : Int)), Go.IntKind.wrap Go.IntKind.i64 (s1.snd.fst - (1 : Int)),
                        List.set (List.set s1.snd.2 (Int.toNat s1.fst) (List.getD s1.snd.2 (Int.toNat s1.snd.fst) (0 : Int))) (Int.toNat s1.snd.fst) (List.getD s1.snd.2 (Int.toNat s1.fst) (0 : Int))))
                else Option.none
              else Option.none
            else Option.none
          else Option.none
        else Option.some (Sum.inr s1.snd.2))
      (x.1, Go.IntKind.wrap Go.IntKind.i64 (x.snd.fst - (1 : Int)), x.snd.2))
    fun (v1 : List Int) => Option.some v1
theorem S.f114E_le (n : Nat) (h : n ≤ S.fuel) : ∀ x, Le (S.f114E n x) (S.f114F x) := by
  intro x
  unfold S.f114E S.f114F
  repeat' (first | with_reducible exact Le.rfl | with_reducible apply Le.bind | with_reducible apply Le.iter | with_reducible apply Le.ite | with_reducible apply Le.elim | intro _)
def S.f115E (n : Nat) : Int × Int × List Int → Option (Bool × List Int) :=
  fun (x : Int × Int × List Int) =>
  Option.bind
    (Go.Sx.iterE n
      (fun (s1 : Int × Int × List Int) =>
        if Decidable.decide (s1.snd.fst < (5 : Int)) = Bool.true then
          Option.bind
            (Go.Sx.iterE n
              (fun (s2 : Int × List Int) =>
                Option.bind
                  (if Decidable.decide (s2.fst < x.snd.fst) = Bool.true then
                    if (0 : Int) ≤ s2.fst ∧ s2.fst < (↑(List.length s2.snd) : Int) then
                      if (0 : Int) ≤ Go.IntKind.wrap Go.IntKind.i64 (s2.fst - (1 : Int)) ∧ Go.IntKind.wrap Go.IntKind.i64 (s2.fst - (1 : Int)) < (↑(List.length s2.snd) : Int) then
                        Option.bind (S.f105E n (List.getD s2.2 (Int.toNat s2.fst) (0 : Int), List.getD s2.2 (Int.toNat (Go.IntKind.wrap Go.IntKind.i64 (s2.fst - (1 : Int)))) (0 : Int)))
                          fun (v3 : Bool) => Option.some (!v3, s2.2)
                      else Option.none
                    else Option.none
                  else Option.some (Bool.false, s2.2))
                  fun (v3 : Bool × List Int) => if v3.fst = Bool.true then Option.some (Sum.inl (Go.IntKind.wrap Go.IntKind.i64 (s2.fst + (1 : Int)), v3.2)) else Option.some (Sum.inr (s2.1, v3.2)))
              (s1.1, s1.snd.2))
            fun (v2 : Int × List Int) =>
            if (v2.fst == x.snd.fst) = Bool.true then Option.some (Sum.inr (Sum.inr (Bool.true, v2.2)))
            else
              if Decidable.decide (Go.IntKind.wrap Go.IntKind.i64 (x.snd.fst - x.fst) < (50 : Int)) = Bool.true then Option.some (Sum.inr (Sum.inr (Bool.false, v2.2)))
              else
                if (0 : Int) ≤ Go.IntKind.wrap Go.IntKind.i64 (v2.fst - (1 : Int)) ∧ Go.IntKind.wrap Go.IntKind.i64 (v2.fst - (1 : Int)) < (↑(List.length v2.snd) : Int) then
                  if (0 : Int) ≤ v2.fst ∧ v2.fst < (↑(List.length v2.snd) : Int) then
                    if (0 : Int) ≤ v2.fst ∧ v2.fst < (↑(List.length v2.snd) : Int) then
                      if
                          (0 : Int) ≤ Go.IntKind.wrap Go.IntKind.i64 (v2.fst - (1 : Int)) ∧
                            Go.IntKind.wrap Go.IntKind.i64 (v2.fst - (1 : Int)) <
                              (↑(List.length (List.set v2.2 (Int.toNat v2.fst) (List.getD v2.2 (Int.toNat (Go.IntKind.wrap Go.IntKind.i64 (v2.fst - (1 : Int)))) (0 : Int)))) : Int) then
                        Option.bind
                          (if Decidable.decide (Go.IntKind.wrap Go.IntKind.i64 (v2.fst - x.fst) ≥ (2 : Int)) = Bool.true then
                            Option.bind
                              (Go.Sx.iterE n
                                (fun (s3 : Int × List Int) =>
                                  if Decidable.decide (s3.fst ≥ (1 : Int)) = Bool.true then
                                    if (0 : Int) ≤ s3.fst ∧ s3.fst < (↑(List.length s3.snd) : Int) then
                                      if (0 : Int) ≤ Go.IntKind.wrap Go.IntKind.i64 (s3.fst - (1 : Int)) ∧ Go.IntKind.wrap Go.IntKind.i64 (s3.fst - (1 : Int)) < (↑(List.length s3.snd) : Int) then
                                        Option.bind
                                          (S.f105E n (List.getD s3.2 (Int.toNat s3.fst) (0 : Int), List.getD s3.2 (Int.toNat (Go.IntKind.wrap Go.IntKind.i64 (s3.fst - (1 : Int)))) (0 : Int)))
                                          fun (v4 : Bool) =>
                                          if (!v4) = Bool.true then Option.some (Sum.inr s3.2)
                                          else
                                            if
                                                (0 : Int) ≤ Go.IntKind.wrap Go.IntKind.i64 (s3.fst - (1 : Int)) ∧
                                                  Go.IntKind.wrap Go.IntKind.i64 (s3.fst - (1 : Int)) < (↑(List.length s3.snd) : Int) then
                                              if (0 : Int) ≤ s3.fst ∧ s3.fst < (↑(List.length s3.snd) : Int) then
                                                if (0 : Int) ≤ s3.fst ∧ s3.fst < (↑(List.length s3.snd) : Int) then
                                                  if
                                                      (0 : Int) ≤ Go.IntKind.wrap Go.IntKind.i64 (s3.fst - (1 : Int)) ∧
                                                        Go.IntKind.wrap Go.IntKind.i64 (s3.fst - (1 : Int)) <
                                                          (↑(List.length
                                                                (List.set s3.2 (Int.toNat s3.fst) (List.getD s3.2 (Int.toNat (Go.IntKind.wrap Go.IntKind.i64 (s3.fst - (1 : Int)))) (0 : Int)))) :
                                                            Int) then
                                                    Option.some
                                                      (Sum.inl
                                                        (Go.IntKind.wrap Go.IntKind.i64 (s3.fst - (1 : Int)),
                                                          List.set (List.set s3.2 (Int.toNat s3.fst) (List.getD s3.2 (Int.toNat (Go.IntKind.wrap Go.IntKind.i64 (s3.fst - (1 : Int)))) (0 : Int)))
                                                            (Int.toNat (Go.IntKind.wrap Go.IntKind.i64 (s3.fst - (1 : Int)))) (List.getD s3.2 (Int.toNat s3.fst) (0 : Int))))
                                                  else Option.none
                                                else Option.none
                                              else Option.none
                                            else Option.none
                                      else Option.none
                                    else Option.none
                                  else Option.some (Sum.inr s3.2))
                                (Go.IntKind.wrap Go.IntKind.i64 (v2.fst - (1 : Int)),
                                  List.set (List.set v2.2 (Int.toNat v2.fst) (List.getD v2.2 (Int.toNat (Go.IntKind.wrap Go.IntKind.i64 (v2.fst - (1 : Int)))) (0 : Int)))
                                    (Int.toNat (Go.IntKind.wrap Go.IntKind.i64 (v2.fst - (1 : Int)))) (List.getD v2.2 (Int.toNat v2.fst) (0 : Int))))
                              fun (v3 : List Int) => Option.some v3
                          else
                            Option.some
                              (List.set (List.set v2.2 (Int.toNat v2.fst) (List.getD v2.2 (Int.toNat (Go.IntKind.wrap Go.IntKind.i64 (v2.fst - (1 : Int)))) (0 : Int)))
                                (Int.toNat (Go.IntKind.wrap Go.IntKind.i64 (v2.fst - (1 : Int)))) (List.getD v2.2 (Int.toNat v2.fst) (0 : Int))))
                          fun (v3 : List Int) =>
                          if Decidable.decide (Go.IntKind.wrap Go.IntKind.i64 (x.snd.fst - v2.fst) ≥ (2 : Int)) = Bool.true then
                            Option.bind
                              (Go.Sx.iterE n
                                (fun (s4 : Int × List Int) =>
                                  if Decidable.decide (s4.fst < x.snd.fst) = Bool.true then
                                    if (0 : Int) ≤ s4.fst ∧ s4.fst < (↑(List.length s4.snd) : Int) then
                                      if (0 : Int) ≤ Go.IntKind.wrap Go.IntKind.i64 (s4.fst - (1 : Int)) ∧ Go.IntKind.wrap Go.IntKind.i64 (s4.fst - (1 : Int)) < (↑(List.length s4.snd) : Int) then
                                        Option.bind
                                          (S.f105E n (List.getD s4.2 (Int.toNat s4.fst) (0 : Int), List.getD s4.2 (Int.toNat (Go.IntKind.wrap Go.IntKind.i64 (s4.fst - (1 : Int)))) (0 : Int)))
                                          fun (v5 : Bool) =>
                                          if (!v5) = Bool.true then Option.some (Sum.inr s4.2)
                                          else
                                            if
                                                (0 : Int) ≤ Go.IntKind.wrap Go.IntKind.i64 (s4.fst - (1 : Int)) ∧
                                                  Go.IntKind.wrap Go.IntKind.i64 (s4.fst - (1 : Int)) < (↑(List.length s4.snd) : Int) then
                                              if (0 : Int) ≤ s4.fst ∧ s4.fst < (↑(List.length s4.snd) : Int) then
                                                if (0 : Int) ≤ s4.fst ∧ s4.fst < (↑(List.length s4.snd) : Int) then
                                                  if
                                                      (0 : Int) ≤ Go.IntKind.wrap Go.IntKind.i64 (s4.fst - (1 : Int)) ∧
                                                        Go.IntKind.wrap Go.IntKind.i64 (s4.fst - (1 : Int)) <
                                                          (↑(List.length
                                                                (List.set s4.2 (Int.toNat s4.fst) (List.getD s4.2 (Int.toNat (Go.IntKind.wrap Go.IntKind.i64 (s4.fst - (1 : Int)))) (0 : Int)))) :
                                                            Int) then
                                                    Option.some
                                                      (Sum.inl
                                                        (Go.IntKind.wrap Go.IntKind.i64 (s4.fst + (1 : Int)),
                                                          List.set (List.set s4.2 (Int.toNat s4.fst) (List.getD s4.2 (Int.toNat (Go.IntKind.wrap Go.IntKind.i64 (s4.fst - (1 : Int)))) (0 : Int)))
                                                            (Int.toNat (Go.IntKind.wrap Go.IntKind.i64 (s4.fst - (1 : Int)))) (List.getD s4.2 (Int.toNat s4.fst) (0 : Int))))
                                                  else Option.none
                                                else Option.none
                                              else Option.none
                                            else Option.none
                                      else Option.none
                                    else Option.none
                                  else Option.some (Sum.inr s4.2))
                                (Go.IntKind.wrap Go.IntKind.i64 (v2.fst + (1 : Int)), v3))
                              fun (v4 : List Int) => Option.some (Sum.inl (v2.1, Go.IntKind.wrap Go.IntKind.i64 (s1.snd.fst + (1 : Int)), v4))
                          else Option.some (Sum.inl (v2.1, Go.IntKind.wrap Go.IntKind.i64 (s1.snd.fst + (1 : Int)), v3))
                      else Option.none
                    else Option.none
                  else Option.none
                else Option.none
        else Option.some (Sum.inr (Sum.inl s1.snd.2)))
      (Go.IntKind.wrap Go.IntKind.i64 (x.fst + (1 : Int)), (0 : Int), x.snd.2))
    fun (v1 : List Int ⊕ Bool × List Int) => Sum.elim (fun (p2 : List Int) => Option.some (Bool.false, p2)) (fun (q2 : Bool × List Int) => Option.some (q2.1, q2.2)) v1
theorem S.f115E_le (n : Nat) (h : n ≤ S.fuel) : ∀ x, Le (S.f115E n x) (S.f115F x) := by
  intro x
  unfold S.f115E S.f115F
  repeat' (first | with_reducible exact Le.rfl | with_reducible exact S.f105E_le n h _ | with_reducible apply Le.bind | with_reducible apply Le.iter | with_reducible apply Le.ite | with_reducible apply Le.elim | intro _)
def S.f116E (n : Nat) : Int × Int × Int × List Int → Option (Int × List Int) :=
  fun (x : Int × Int × Int × List Int) =>
  if (0 : Int) ≤ x.snd.snd.fst ∧ x.snd.snd.fst < (↑(List.length x.snd.snd.snd) : Int) then
    if (0 : Int) ≤ x.fst ∧ x.fst < (↑(List.length x.snd.snd.snd) : Int) then
      if (0 : Int) ≤ x.fst ∧ x.fst < (↑(List.length x.snd.snd.snd) : Int) then
        if (0 : Int) ≤ x.snd.snd.fst ∧ x.snd.snd.fst < (↑(List.length (List.set x.snd.snd.2 (Int.toNat x.fst) (List.getD x.snd.snd.2 (Int.toNat x.snd.snd.fst) (0 : Int)))) : Int) then
          Option.bind
            (Go.Sx.iterE n
              (fun (s1 : Int × Int × List Int) =>
                Option.bind
                  (Go.Sx.iterE n
                    (fun (s2 : Int × List Int) =>
                      Option.bind
                        (if Decidable.decide (s2.fst ≤ s1.snd.fst) = Bool.true then
                          if (0 : Int) ≤ x.fst ∧ x.fst < (↑(List.length s2.snd) : Int) then
                            if (0 : Int) ≤ s2.fst ∧ s2.fst < (↑(List.length s2.snd) : Int) then
                              Option.bind (S.f105E n (List.getD s2.2 (Int.toNat x.fst) (0 : Int), List.getD s2.2 (Int.toNat s2.fst) (0 : Int))) fun (v3 : Bool) => Option.some (!v3, s2.2)
                            else Option.none
                          else Option.none
                        else Option.some (Bool.false, s2.2))
                        fun (v3 : Bool × List Int) =>
                        if v3.fst = Bool.true then Option.some (Sum.inl (Go.IntKind.wrap Go.IntKind.i64 (s2.fst + (1 : Int)), v3.2)) else Option.some (Sum.inr (s2.1, v3.2)))
                    (s1.1, s1.snd.2))
                  fun (v2 : Int × List Int) =>
                  Option.bind
                    (Go.Sx.iterE n
                      (fun (s3 : Int × List Int) =>
                        Option.bind
                          (if Decidable.decide (v2.fst ≤ s3.fst) = Bool.true then
                            if (0 : Int) ≤ x.fst ∧ x.fst < (↑(List.length s3.snd) : Int) then
                              if (0 : Int) ≤ s3.fst ∧ s3.fst < (↑(List.length s3.snd) : Int) then
                                Option.bind (S.f105E n (List.getD s3.2 (Int.toNat x.fst) (0 : Int), List.getD s3.2 (Int.toNat s3.fst) (0 : Int))) fun (v4 : Bool) => Option.some (v4, s3.2)
                              else Option.none
                            else Option.none
                          else Option.some (Bool.false, s3.2))
                          fun (v4 : Bool × List Int) =>
                          if v4.fst = Bool.true then Option.some (Sum.inl (Go.IntKind.wrap Go.IntKind.i64 (s3.fst - (1 : Int)), v4.2)) else Option.some (Sum.inr (s3.1, v4.2)))
                      (s1.snd.1, v2.2))
                    fun (v3 : Int × List Int) =>
                    if Decidable.decide (v2.fst > v3.fst) = Bool.true then Option.some (Sum.inr (v2.1, v3.2))
                    else
                      if (0 : Int) ≤ v3.fst ∧ v3.fst < (↑(List.length v3.snd) : Int) then
                        if (0 : Int) ≤ v2.fst ∧ v2.fst < (↑(List.length v3.snd) : Int) then
                          if (0 : Int) ≤ v2.fst ∧ v2.fst < (↑(List.length v3.snd) : Int) then
                            if (0 : Int) ≤ v3.fst ∧ v3.fst < (↑(List.length (List.set v3.2 (Int.toNat v2.fst) (List.getD v3.2 (Int.toNat v3.fst) (0 : Int)))) : Int) then
                              Option.some
                                (Sum.inl
                                  (Go.IntKind.wrap Go.IntKind.i64 (v2.fst + (1 : Int)), Go.IntKind.wrap Go.IntKind.i64 (v3.fst - (1 : Int)),
                                    List.set (List.set v3.2 (Int.toNat v2.fst) (List.getD v3.2 (Int.toNat v3.fst) (0 : Int))) (Int.toNat v3.fst) (List.getD v3.2 (Int.toNat v2.fst) (0 : Int))))
                            else Option.none
                          else Option.none
                        else Option.none
                      else Option.none)
              (Go.IntKind.wrap Go.IntKind.i64 (x.fst + (1 : Int)), Go.IntKind.wrap Go.IntKind.i64 (x.snd.fst - (1 : Int)),
                List.set (List.set x.snd.snd.2 (Int.toNat x.fst) (List.getD x.snd.snd.2 (Int.toNat x.snd.snd.fst) (0 : Int))) (Int.toNat x.snd.snd.fst)
                  (List.getD x.snd.snd.2 (Int.toNat x.fst) (0 : Int))))
            fun (v1 : Int × List Int) => Option.some (v1.1, v1.2)
        else Option.none
      else Option.none
    else Option.none
  else Option.none
theorem S.f116E_le (n : Nat) (h : n ≤ S.fuel) : ∀ x, Le (S.f116E n x) (S.f116F x) := by
  intro x
  unfold S.f116E S.f116F
  repeat' (first | with_reducible exact Le.rfl | with_reducible exact S.f105E_le n h _ | with_reducible apply Le.bind | with_reducible apply Le.iter | with_reducible apply Le.ite | with_reducible apply Le.elim | intro _)
def S.f117E (n : Nat) : Int × Int × Int × List Int → Option (Int × Bool × List Int) :=
  fun (x : Int × Int × Int × List Int) =>
  if (0 : Int) ≤ x.snd.snd.fst ∧ x.snd.snd.fst < (↑(List.length x.snd.snd.snd) : Int) then
    if (0 : Int) ≤ x.fst ∧ x.fst < (↑(List.length x.snd.snd.snd) : Int) then
      if (0 : Int) ≤ x.fst ∧ x.fst < (↑(List.length x.snd.snd.snd) : Int) then
        if (0 : Int) ≤ x.snd.snd.fst ∧ x.snd.snd.fst < (↑(List.length (List.set x.snd.snd.2 (Int.toNat x.fst) (List.getD x.snd.snd.2 (Int.toNat x.snd.snd.fst) (0 : Int)))) : Int) then
          Option.bind
            (Go.Sx.iterE n
              (fun (s1 : Int × List Int) =>
                Option.bind
                  (if Decidable.decide (s1.fst ≤ Go.IntKind.wrap Go.IntKind.i64 (x.snd.fst - (1 : Int))) = Bool.true then
                    if (0 : Int) ≤ s1.fst ∧ s1.fst < (↑(List.length s1.snd) : Int) then
                      if (0 : Int) ≤ x.fst ∧ x.fst < (↑(List.length s1.snd) : Int) then
                        Option.bind (S.f105E n (List.getD s1.2 (Int.toNat s1.fst) (0 : Int), List.getD s1.2 (Int.toNat x.fst) (0 : Int))) fun (v2 : Bool) => Option.some (v2, s1.2)
                      else Option.none
                    else Option.none
                  else Option.some (Bool.false, s1.2))
                  fun (v2 : Bool × List Int) => if v2.fst = Bool.true then Option.some (Sum.inl (Go.IntKind.wrap Go.IntKind.i64 (s1.fst + (1 : Int)), v2.2)) else Option.some (Sum.inr (s1.1, v2.2)))
              (Go.IntKind.wrap Go.IntKind.i64 (x.fst + (1 : Int)),
                List.set (List.set x.snd.snd.2 (Int.toNat x.fst) (List.getD x.snd.snd.2 (Int.toNat x.snd.snd.fst) (0 : Int))) (Int.toNat x.snd.snd.fst)
                  (List.getD x.snd.snd.2 (Int.toNat x.fst) (0 : Int))))
            fun (v1 : Int × List Int) =>
            Option.bind
              (Go.Sx.iterE n
                (fun (s2 : Int × List Int) =>
                  Option.bind
                    (if Decidable.decide (v1.fst ≤ s2.fst) = Bool.true then
                      if (0 : Int) ≤ s2.fst ∧ s2.fst < (↑(List.length s2.snd) : Int) then
                        if (0 : Int) ≤ x.fst ∧ x.fst < (↑(List.length s2.snd) : Int) then
                          Option.bind (S.f105E n (List.getD s2.2 (Int.toNat s2.fst) (0 : Int), List.getD s2.2 (Int.toNat x.fst) (0 : Int))) fun (v3 : Bool) => Option.some (!v3, s2.2)
                        else Option.none
                      else Option.none
                    else Option.some (Bool.false, s2.2))
                    fun (v3 : Bool × List Int) => if v3.fst = Bool.true then Option.some (Sum.inl (Go.IntKind.wrap Go.IntKind.i64 (s2.fst - (1 : Int)), v3.2)) else Option.some (Sum.inr (s2.1, v3.2)))
                (Go.IntKind.wrap Go.IntKind.i64 (x.snd.fst - (1 : Int)), v1.2))
              fun (v2 : Int × List Int) =>
              if Decidable.decide (v1.fst > v2.fst) = Bool.true then
                if (0 : Int) ≤ x.fst ∧ x.fst < (↑(List.length v2.snd) : Int) then
                  if (0 : Int) ≤ v2.fst ∧ v2.fst < (↑(List.length v2.snd) : Int) then
                    if (0 : Int) ≤ v2.fst ∧ v2.fst < (↑(List.length v2.snd) : Int) then
                      if (0 : Int) ≤ x.fst ∧ x.fst < (↑(List.length (List.set v2.2 (Int.toNat v2.fst) (List.getD v2.2 (Int.toNat x.fst) (0 : Int)))) : Int) then
                        Option.some
                          (v2.1, Bool.true, List.set (List.set v2.2 (Int.toNat v2.fst) (List.getD v2.2 (Int.toNat x.fst) (0 : Int))) (Int.toNat x.fst) (List.getD v2.2 (Int.toNat v2.fst) (0 : Int)))
                      else Option.none
                    else Option.none
                  else Option.none
                else Option.none
              else
                if (0 : Int) ≤ v2.fst ∧ v2.fst < (↑(List.length v2.snd) : Int) then
                  if (0 : Int) ≤ v1.fst ∧ v1.fst < (↑(List.length v2.snd) : Int) then
                    if (0 : Int) ≤ v1.fst ∧ v1.fst < (↑(List.length v2.snd) : Int) then
                      if (0 : Int) ≤ v2.fst ∧ v2.fst < (↑(List.length (List.set v2.2 (Int.toNat v1.fst) (List.getD v2.2 (Int.toNat v2.fst) (0 : Int)))) : Int) then
                        Option.bind
                          (Go.Sx.iterE n
                            (fun (s3 : Int × Int × List Int) =>
                              Option.bind
                                (Go.Sx.iterE n
                                  (fun (s4 : Int × List Int) =>
                                    Option.bind
                                      (if Decidable.decide (s4.fst ≤ s3.snd.fst) = Bool.true then
                                        if (0 : Int) ≤ s4.fst ∧ s4.fst < (↑(List.length s4.snd) : Int) then
                                          if (0 : Int) ≤ x.fst ∧ x.fst < (↑(List.length s4.snd) : Int) then
                                            Option.bind (S.f105E n (List.getD s4.2 (Int.toNat s4.fst) (0 : Int), List.getD s4.2 (Int.toNat x.fst) (0 : Int))) fun (v5 : Bool) =>
                                              Option.some (v5, s4.2)
                                          else Option.none
                                        else Option.none
                                      else Option.some (Bool.false, s4.2))
                                      fun (v5 : Bool × List Int) =>
                                      if v5.fst = Bool.true then Option.some (Sum.inl (Go.IntKind.wrap Go.IntKind.i64 (s4.fst + (1 : Int)), v5.2)) else Option.some (Sum.inr (s4.1, v5.2)))
                                  (s3.1, s3.snd.2))
                                fun (v4 : Int × List Int) =>
                                Option.bind
                                  (Go.Sx.iterE n
                                    (fun (s5 : Int × List Int) =>
                                      Option.bind
                                        (if Decidable.decide (v4.fst ≤ s5.fst) = Bool.true then
                                          if (0 : Int) ≤ s5.fst ∧ s5.fst < (↑(List.length s5.snd) : Int) then
                                            if (0 : Int) ≤ x.fst ∧ x.fst < (↑(List.length s5.snd) : Int) then
                                              Option.bind (S.f105E n (List.getD s5.2 (Int.toNat s5.fst) (0 : Int), List.getD s5.2 (Int.toNat x.fst) (0 : Int))) fun (v6 : Bool) =>
                                                Option.some (!v6, s5.2)
                                            else Option.none
                                          else Option.none
                                        else Option.some (Bool.false, s5.2))
                                        fun (v6 : Bool × List Int) =>
                                        if v6.fst = Bool.true then Option.some (Sum.inl (Go.IntKind.wrap Go.IntKind.i64 (s5.fst - (1 : Int)), v6.2)) else Option.some (Sum.inr (s5.1, v6.2)))
                                    (s3.snd.1, v4.2))
                                  fun (v5 : Int × List Int) =>
                                  if Decidable.decide (v4.fst > v5.fst) = Bool.true then Option.some (Sum.inr (v5.1, v5.2))
                                  else
                                    if (0 : Int) ≤ v5.fst ∧ v5.fst < (↑(List.length v5.snd) : Int) then
                                      if (0 : Int) ≤ v4.fst ∧ v4.fst < (↑(List.length v5.snd) : Int) then
                                        if (0 : Int) ≤ v4.fst ∧ v4.fst < (↑(List.length v5.snd) : Int) then
                                          if (0 : Int) ≤ v5.fst ∧ v5.fst < (↑(List.length (List.set v5.2 (Int.toNat v4.fst) (List.getD v5.2 (Int.toNat v5.fst) (0 : Int)))) : Int) then
                                            Option.some
                                              (Sum.inl
                                                (Go.IntKind.wrap Go.IntKind.i64 (v4.fst + (1 : Int)), Go.IntKind.wrap Go.IntKind.i64 (v5.fst - (1 : Int)),
                                                  List.set (List.set v5.2 (Int.toNat v4.fst) (List.getD v5.2 (Int.toNat v5.fst) (0 : Int))) (Int.toNat v5.fst)
                                                    (List.getD v5.2 (Int.toNat v4.fst) (0 : Int))))
                                          else Option.none
                                        else Option.none
                                      else Option.none
                                    else Option.none)
                            (Go.IntKind.wrap Go.IntKind.i64 (v1.fst + (1 : Int)), Go.IntKind.wrap Go.IntKind.i64 (v2.fst - (1 : Int)),
                              List.set (List.set v2.2 (Int.toNat v1.fst) (List.getD v2.2 (Int.toNat v2.fst) (0 : Int))) (Int.toNat v2.fst) (List.getD v2.2 (Int.toNat v1.fst) (0 : Int))))
                          fun (v3 : Int × List Int) =>
                          if (0 : Int) ≤ x.fst ∧ x.fst < (↑(List.length v3.snd) : Int) then
                            if (0 : Int) ≤ v3.fst ∧ v3.fst < (↑(List.length v3.snd) : Int) then
                              if (0 : Int) ≤ v3.fst ∧ v3.fst < (↑(List.length v3.snd) : Int) then
                                if (0 : Int) ≤ x.fst ∧ x.fst < (↑(List.length (List.set v3.2 (Int.toNat v3.fst) (List.getD v3.2 (Int.toNat x.fst) (0 : Int)))) : Int) then
                                  Option.some
                                    (v3.1, Bool.false,
                                      List.set (List.set v3.2 (Int.toNat v3.fst) (List.getD v3.2 (Int.toNat x.fst) (0 : Int))) (Int.toNat x.fst) (List.getD v3.2 (Int.toNat v3.fst) (0 : Int)))
                                else Option.none
                              else Option.none
                            else Option.none
                          else Option.none
                      else Option.none
                    else Option.none
                  else Option.none
                else Option.none
        else Option.none
      else Option.none
    else Option.none
  else Option.none
theorem S.f117E_le (n : Nat) (h : n ≤ S.fuel) : ∀ x, Le (S.f117E n x) (S.f117F x) := by
  intro x
  unfold S.f117E S.f117F
  repeat' (first | with_reducible exact Le.rfl | with_reducible exact S.f105E_le n h _ | with_reducible apply Le.bind | with_reducible apply Le.iter | with_reducible apply Le.ite | with_reducible apply Le.elim | intro _)
def S.f100SE (n : Nat) (r100 : Int × Int × Int × List Int → Option (List Int)) : Int × Int × Int × List Int → Option (List Int) :=
  fun (x : Int × Int × Int × List Int) =>
  Option.bind
    (Go.Sx.iterE n
      (fun (s1 : Int × Int × Bool × Bool × Int × List Int) =>
        if Decidable.decide (Go.IntKind.wrap Go.IntKind.i64 (s1.snd.snd.snd.snd.fst - s1.snd.fst) ≤ (12 : Int)) = Bool.true then
          Option.bind (S.f110E n (s1.snd.1, s1.snd.snd.snd.snd.1, s1.snd.snd.snd.snd.2)) fun (v2 : List Int) => Option.some (Sum.inr v2)
        else
          if (s1.fst == (0 : Int)) = Bool.true then Option.bind (S.f111E n (s1.snd.1, s1.snd.snd.snd.snd.1, s1.snd.snd.snd.snd.2)) fun (v2 : List Int) => Option.some (Sum.inr v2)
          else
            Option.bind
              (if (!s1.snd.snd.snd.fst) = Bool.true then
                Option.bind (S.f112E n (s1.snd.1, s1.snd.snd.snd.snd.1, s1.snd.snd.snd.snd.2)) fun (v2 : List Int) => Option.some (Go.IntKind.wrap Go.IntKind.i64 (s1.fst - (1 : Int)), v2)
              else Option.some (s1.1, s1.snd.snd.snd.snd.2))
              fun (v2 : Int × List Int) =>
              Option.bind (S.f113E n (s1.snd.1, s1.snd.snd.snd.snd.1, v2.2)) fun (v3 : Int × Int × List Int) =>
                Option.bind
                  (if (v3.snd.fst == (2 : Int)) = Bool.true then
                    Option.bind (S.f114E n (s1.snd.1, s1.snd.snd.snd.snd.1, v3.snd.2)) fun (v4 : List Int) =>
                      Option.some
                        (Go.IntKind.wrap Go.IntKind.i64 (Go.IntKind.wrap Go.IntKind.i64 (s1.snd.snd.snd.snd.fst - (1 : Int)) - Go.IntKind.wrap Go.IntKind.i64 (v3.fst - s1.snd.fst)), (1 : Int), v4)
                  else Option.some (v3.1, v3.snd.1, v3.snd.2))
                  fun (v4 : Int × Int × List Int) =>
                  Option.bind
                    (Option.bind
                      (if s1.snd.snd.snd.fst = Bool.true then if s1.snd.snd.fst = Bool.true then Option.some (v4.snd.fst == (1 : Int), v4.snd.2) else Option.some (Bool.false, v4.snd.2)
                      else Option.some (Bool.false, v4.snd.2))
                      fun (v5 : Bool × List Int) =>
                      if v5.fst = Bool.true then
                        Option.bind (S.f115E n (s1.snd.1, s1.snd.snd.snd.snd.1, v5.2)) fun (v6 : Bool × List Int) =>
                          if v6.fst = Bool.true then Option.some (Sum.inl v6.2) else Option.some (Sum.inr v6.2)
                      else Option.some (Sum.inr v5.2))
                    fun (v5 : List Int ⊕ List Int) =>
                    Sum.elim (fun (p6 : List Int) => Option.some (Sum.inr p6))
                      (fun (q6 : List Int) =>
                        Option.bind
                          (if Decidable.decide (s1.snd.fst > (0 : Int)) = Bool.true then
                            if (0 : Int) ≤ Go.IntKind.wrap Go.IntKind.i64 (s1.snd.fst - (1 : Int)) ∧ Go.IntKind.wrap Go.IntKind.i64 (s1.snd.fst - (1 : Int)) < (↑(List.length q6) : Int) then
                              if (0 : Int) ≤ v4.fst ∧ v4.fst < (↑(List.length q6) : Int) then
                                Option.bind (S.f105E n (List.getD q6 (Int.toNat (Go.IntKind.wrap Go.IntKind.i64 (s1.snd.fst - (1 : Int)))) (0 : Int), List.getD q6 (Int.toNat v4.fst) (0 : Int)))
                                  fun (v7 : Bool) => Option.some (!v7, q6)
                              else Option.none
                            else Option.none
                          else Option.some (Bool.false, q6))
                          fun (v7 : Bool × List Int) =>
                          if v7.fst = Bool.true then
                            Option.bind (S.f116E n (s1.snd.1, s1.snd.snd.snd.snd.1, v4.1, v7.2)) fun (v8 : Int × List Int) =>
                              Option.some (Sum.inl (v2.1, v8.1, s1.snd.snd.1, s1.snd.snd.snd.1, s1.snd.snd.snd.snd.1, v8.2))
                          else
                            Option.bind (S.f117E n (s1.snd.1, s1.snd.snd.snd.snd.1, v4.1, v7.2)) fun (v8 : Int × Bool × List Int) =>
                              if Decidable.decide (Go.IntKind.wrap Go.IntKind.i64 (v8.fst - s1.snd.fst) < Go.IntKind.wrap Go.IntKind.i64 (s1.snd.snd.snd.snd.fst - v8.fst)) = Bool.true then
                                Option.bind (r100 (s1.snd.1, v8.1, v2.1, v8.snd.2)) fun (v9 : List Int) =>
                                  Option.some
                                    (Sum.inl
                                      (v2.1, Go.IntKind.wrap Go.IntKind.i64 (v8.fst + (1 : Int)), v8.snd.1,
                                        Decidable.decide
                                          (Go.IntKind.wrap Go.IntKind.i64 (v8.fst - s1.snd.fst) ≥
                                            Go.IntKind.wrap Go.IntKind.i64 (Int.tdiv (Go.IntKind.wrap Go.IntKind.i64 (s1.snd.snd.snd.snd.fst - s1.snd.fst)) (8 : Int))),
                                        s1.snd.snd.snd.snd.1, v9))
                              else
                                Option.bind (r100 (Go.IntKind.wrap Go.IntKind.i64 (v8.fst + (1 : Int)), s1.snd.snd.snd.snd.1, v2.1, v8.snd.2)) fun (v9 : List Int) =>
                                  Option.some
                                    (Sum.inl
                                      (v2.1, s1.snd.1, v8.snd.1,
                                        Decidable.decide
                                          (Go.IntKind.wrap Go.IntKind.i64 (s1.snd.snd.snd.snd.fst - v8.fst) ≥
                                            Go.IntKind.wrap Go.IntKind.i64 (Int.tdiv (Go.IntKind.wrap Go.IntKind.i64 (s1.snd.snd.snd.snd.fst - s1.snd.fst)) (8 : Int))),
                                        v8.1, v9)))
                      v5)
      (x.snd.snd.1, x.1, Bool.true, Bool.true, x.snd.1, x.snd.snd.2))
    fun (v1 : List Int) => Option.some v1
theorem S.f100SE_le (n : Nat) (h : n ≤ S.fuel) {r r'} (hr : ∀ x, Le (r x) (r' x)) : ∀ x, Le (S.f100SE n r x) (S.f100S r' x) := by
  intro x
  unfold S.f100SE S.f100S
  repeat' (first | with_reducible exact Le.rfl | with_reducible exact hr _ | with_reducible exact S.f105E_le n h _ | with_reducible exact S.f110E_le n h _ | with_reducible exact S.f111E_le n h _ | with_reducible exact S.f112E_le n h _ | with_reducible exact S.f113E_le n h _ | with_reducible exact S.f114E_le n h _ | with_reducible exact S.f115E_le n h _ | with_reducible exact S.f116E_le n h _ | with_reducible exact S.f117E_le n h _ | with_reducible apply Le.bind | with_reducible apply Le.iter | with_reducible apply Le.ite | with_reducible apply Le.elim | intro _)
def S.f100NE (n : Nat) (k : Nat) : Int × Int × Int × List Int → Option (List Int) := Nat.rec (fun _ => none) (fun _ r => S.f100SE n r) k
theorem S.f100NE_le (n : Nat) (h : n ≤ S.fuel) : ∀ k, k ≤ S.fuel → ∀ x, Le (S.f100NE n k x) (S.f100F x) := by
  suffices hh : ∀ k m, k ≤ m → ∀ x, Le (S.f100NE n k x) (S.f100N m x) from fun k hk x => hh k _ hk x
  intro k
  induction k with
  | zero => intro m _ x y hy; cases hy
  | succ k ih =>
    intro m hm x
    cases m with
    | zero => omega
    | succ m => exact S.f100SE_le n h (ih m (by omega)) x
def S.f100E (n : Nat) : Int × Int × Int × List Int → Option (List Int) := S.f100NE n n
theorem S.f100E_le (n : Nat) (h : n ≤ S.fuel) : ∀ x, Le (S.f100E n x) (S.f100F x) := fun x => S.f100NE_le n h n h x
def S.f74E (n : Nat) : List Int → Option (List Int) :=
  fun (x : List Int) =>
  Option.bind (S.f101E n (Go.IntKind.wrap Go.IntKind.u64 (↑(List.length x) : Int))) fun (v1 : Int) =>
    Option.bind (S.f100E n ((0 : Int), (↑(List.length x) : Int), v1, x)) fun (v2 : List Int) => Option.some v2
theorem S.f74E_le (n : Nat) (h : n ≤ S.fuel) : ∀ x, Le (S.f74E n x) (S.f74F x) := by
  intro x
  unfold S.f74E S.f74F
  repeat' (first | with_reducible exact Le.rfl | with_reducible exact S.f100E_le n h _ | with_reducible exact S.f101E_le n h _ | with_reducible apply Le.bind | with_reducible apply Le.iter | with_reducible apply Le.ite | with_reducible apply Le.elim | intro _)
def S.f75E (n : Nat) : List Int → Option (List Int) :=
  fun (x : List Int) =>
  if Decidable.decide ((↑(List.length x) : Int) < (2 : Int)) = Bool.true then Option.some x
  else
    Option.bind
      (Go.Sx.iterE n
        (fun (s1 : Int × List Int) =>
          if Decidable.decide (s1.fst < (↑(List.length s1.snd) : Int)) = Bool.true then
            if (0 : Int) ≤ s1.fst ∧ s1.fst < (↑(List.length s1.snd) : Int) then
              if (0 : Int) ≤ Go.IntKind.wrap Go.IntKind.i64 (s1.fst - (1 : Int)) ∧ Go.IntKind.wrap Go.IntKind.i64 (s1.fst - (1 : Int)) < (↑(List.length s1.snd) : Int) then
                if (List.getD s1.2 (Int.toNat s1.fst) (0 : Int) == List.getD s1.2 (Int.toNat (Go.IntKind.wrap Go.IntKind.i64 (s1.fst - (1 : Int)))) (0 : Int)) = Bool.true then
                  if (0 : Int) ≤ s1.fst ∧ s1.fst ≤ (↑(List.length s1.snd) : Int) then
                    Option.bind
                      (Go.Sx.iterE n
                        (fun (s2 : Int × Int × List Int) =>
                          if Decidable.decide (s2.snd.fst < (↑(List.length s1.snd - Int.toNat s1.fst) : Int)) = Bool.true then
                            if (0 : Int) ≤ s2.snd.fst ∧ s2.snd.fst < (↑(List.length s1.snd - Int.toNat s1.fst) : Int) then
                              if
                                  (0 : Int) ≤ Go.IntKind.wrap Go.IntKind.i64 (s2.snd.fst - (1 : Int)) ∧
                                    Go.IntKind.wrap Go.IntKind.i64 (s2.snd.fst - (1 : Int)) < (↑(List.length s1.snd - Int.toNat s1.fst) : Int) then
                                if
                                    (List.getD s2.snd.2 (Int.toNat s1.fst + Int.toNat s2.snd.fst) (0 : Int) !=
                                        List.getD s2.snd.2 (Int.toNat s1.fst + Int.toNat (Go.IntKind.wrap Go.IntKind.i64 (s2.snd.fst - (1 : Int)))) (0 : Int)) =
                                      Bool.true then
                                  if (0 : Int) ≤ s2.snd.fst ∧ s2.snd.fst < (↑(List.length s1.snd - Int.toNat s1.fst) : Int) then
                                    if (0 : Int) ≤ s2.fst ∧ s2.fst < (↑(List.length s2.snd.snd) : Int) then
                                      Option.some
                                        (Sum.inl
                                          (Go.IntKind.wrap Go.IntKind.i64 (s2.fst + (1 : Int)), Go.IntKind.wrap Go.IntKind.i64 (s2.snd.fst + (1 : Int)),
                                            List.set s2.snd.2 (Int.toNat s2.fst) (List.getD s2.snd.2 (Int.toNat s1.fst + Int.toNat s2.snd.fst) (0 : Int))))
                                    else Option.none
                                  else Option.none
                                else Option.some (Sum.inl (s2.1, Go.IntKind.wrap Go.IntKind.i64 (s2.snd.fst + (1 : Int)), s2.snd.2))
                              else Option.none
                            else Option.none
                          else Option.some (Sum.inr (s2.1, s2.snd.2)))
                        (s1.1, (1 : Int), s1.2))
                      fun (v2 : Int × List Int) =>
                      if (0 : Int) ≤ v2.fst ∧ v2.fst ≤ (↑(List.length v2.snd) : Int) then
                        if
                            (0 : Int) ≤ v2.fst ∧
                              v2.fst ≤
                                (↑(List.length
                                      (List.take (Int.toNat v2.fst) v2.snd ++
                                        (List.replicate (List.length v2.snd - Int.toNat v2.fst) (0 : Int) ++ List.drop (Int.toNat v2.fst + (List.length v2.snd - Int.toNat v2.fst)) v2.snd))) :
                                  Int) then
                          Option.some
                            (Sum.inr
                              (Sum.inr
                                (List.take (Int.toNat v2.fst)
                                  (List.take (Int.toNat v2.fst) v2.snd ++
                                    (List.replicate (List.length v2.snd - Int.toNat v2.fst) (0 : Int) ++ List.drop (Int.toNat v2.fst + (List.length v2.snd - Int.toNat v2.fst)) v2.snd)))))
                        else Option.none
                      else Option.none
                  else Option.none
                else Option.some (Sum.inl (Go.IntKind.wrap Go.IntKind.i64 (s1.fst + (1 : Int)), s1.2))
              else Option.none
            else Option.none
          else Option.some (Sum.inr (Sum.inl s1.2)))
        ((1 : Int), x))
      fun (v1 : List Int ⊕ List Int) => Sum.elim (fun (p2 : List Int) => Option.some p2) (fun (q2 : List Int) => Option.some q2) v1
theorem S.f75E_le (n : Nat) (h : n ≤ S.fuel) : ∀ x, Le (S.f75E n x) (S.f75F x) := by
  intro x
  unfold S.f75E S.f75F
  repeat' (first | with_reducible exact Le.rfl | with_reducible apply Le.bind | with_reducible apply Le.iter | with_reducible apply Le.ite | with_reducible apply Le.elim | intro _)
def S.f46E (n : Nat) : List (Int × List (Int × Int) × Int × Int) × List Int × Int → Option (List Int) :=
  fun (x : List (Int × List (Int × Int) × Int × Int) × List Int × Int) =>
  Option.bind
    (Go.Sx.iterE n
      (fun (s1 : Int × List Int) =>
        if Decidable.decide (s1.fst < (↑(List.length x.snd.fst) : Int)) = Bool.true then
          if (0 : Int) ≤ s1.fst ∧ s1.fst < (↑(List.length x.snd.fst) : Int) then
            Option.bind
              (if Decidable.decide (List.getD x.snd.fst (Int.toNat s1.fst) (0 : Int) ≥ (0 : Int)) = Bool.true then
                if Decidable.decide (List.getD x.snd.fst (Int.toNat s1.fst) (0 : Int) < (↑(List.length x.fst) : Int)) = Bool.true then
                  if (0 : Int) ≤ List.getD x.snd.fst (Int.toNat s1.fst) (0 : Int) ∧ List.getD x.snd.fst (Int.toNat s1.fst) (0 : Int) < (↑(List.length x.fst) : Int) then
                    if ((List.getD x.fst (Int.toNat (List.getD x.snd.fst (Int.toNat s1.fst) (0 : Int))) ((0 : Int), [], (0 : Int), (0 : Int))).fst == (1 : Int)) = Bool.true then
                      if (0 : Int) ≤ List.getD x.snd.fst (Int.toNat s1.fst) (0 : Int) ∧ List.getD x.snd.fst (Int.toNat s1.fst) (0 : Int) < (↑(List.length x.fst) : Int) then
                        Option.bind (S.f73E n ((List.getD x.fst (Int.toNat (List.getD x.snd.fst (Int.toNat s1.fst) (0 : Int))) ((0 : Int), [], (0 : Int), (0 : Int))).snd.1, x.snd.2))
                          fun (v2 : Bool) => Option.some (v2, s1.2)
                      else Option.none
                    else Option.some (Bool.false, s1.2)
                  else Option.none
                else Option.some (Bool.false, s1.2)
              else Option.some (Bool.false, s1.2))
              fun (v2 : Bool × List Int) =>
              if v2.fst = Bool.true then
                if
                    Go.Sx.roomOk (List.length v2.snd + List.length [Go.IntKind.wrap Go.IntKind.i64 (List.getD x.snd.fst (Int.toNat s1.fst) (0 : Int) + (1 : Int))])
                      { kind := Go.Sx.TK.int Go.IntKind.i64, size := (1 : Nat), bytes := (8 : Nat), ty := Option.some (Go.Sx.Ty.int Go.IntKind.i64),
                          zero := [Go.Sx.SV.val (Go.Sx.Ty.int Go.IntKind.i64) (0 : Int)] : Go.Sx.TI }.bytes then
                  Option.some (Sum.inl (Go.IntKind.wrap Go.IntKind.i64 (s1.fst + (1 : Int)), v2.2 ++ [Go.IntKind.wrap Go.IntKind.i64 (List.getD x.snd.fst (Int.toNat s1.fst) (0 : Int) + (1 : Int))]))
                else Option.none
              else Option.some (Sum.inl (Go.IntKind.wrap Go.IntKind.i64 (s1.fst + (1 : Int)), v2.2))
          else Option.none
        else Option.some (Sum.inr s1.2))
      ((0 : Int), []))
    fun (v1 : List Int) => Option.bind (S.f74E n v1) fun (v2 : List Int) => Option.bind (S.f75E n v2) fun (v3 : List Int) => Option.some v3
theorem S.f46E_le (n : Nat) (h : n ≤ S.fuel) : ∀ x, Le (S.f46E n x) (S.f46F x) := by
  intro x
  unfold S.f46E S.f46F
  repeat' (first | with_reducible exact Le.rfl | with_reducible exact S.f73E_le n h _ | with_reducible exact S.f74E_le n h _ | with_reducible exact S.f75E_le n h _ | with_reducible apply Le.bind | with_reducible apply Le.iter | with_reducible apply Le.ite | with_reducible apply Le.elim | intro _)
def S.f49E (n : Nat) : Int × Int → Option (Bool × Int) :=
  fun (x : Int × Int) => Option.some (Bool.true, x.1)
theorem S.f49E_le (n : Nat) (h : n ≤ S.fuel) : ∀ x, Le (S.f49E n x) (S.f49F x) := by
  intro x
  unfold S.f49E S.f49F
  repeat' (first | with_reducible exact Le.rfl | with_reducible apply Le.bind | with_reducible apply Le.iter | with_reducible apply Le.ite | with_reducible apply Le.elim | intro _)
def S.s6E (n : Nat) : List (Int × List (Int × Int) × Int × Int) × List Int × Int × Int → Option (Int × Int) :=
  fun (x : List (Int × List (Int × Int) × Int × Int) × List Int × Int × Int) =>
  Option.bind
    (if Decidable.decide (x.snd.snd.fst < (0 : Int)) = Bool.true then Option.some (Bool.true, x.snd.snd.2, x.1)
    else
      if Decidable.decide (x.snd.snd.fst > (↑(List.length x.snd.fst) : Int)) = Bool.true then Option.some (Bool.true, x.snd.snd.2, x.1)
      else Option.bind (S.f42E n x.1) fun (v1 : Bool) => Option.some (!v1, x.snd.snd.2, x.1))
    fun (v1 : Bool × Int × List (Int × List (Int × Int) × Int × Int)) =>
    if v1.fst = Bool.true then Option.some ((0 : Int), v1.snd.1)
    else
      Option.bind
        (Go.Sx.iterE n
          (fun (s2 : Int × List Int × Int × Int × List (Int × List (Int × Int) × Int × Int)) =>
            if Decidable.decide ((↑(List.length s2.snd.fst) : Int) > (0 : Int)) = Bool.true then
              Option.bind (S.f43E n (s2.snd.snd.snd.2, s2.snd.1, s2.snd.snd.fst == (0 : Int), s2.snd.snd.fst == (↑(List.length x.snd.fst) : Int)))
                fun (v3 : List (Int × List (Int × Int) × Int × Int) × Bool × Bool × Int × List Bool) =>
                Option.bind (S.f44E n (v3.1, v3.snd.1, v3.snd.snd.1, v3.snd.snd.snd.1, v3.snd.snd.snd.2))
                  fun (v4 : List Int × List (Int × List (Int × Int) × Int × Int) × Bool × Bool × Int × List Bool) =>
                  Option.bind
                    (Option.bind (S.s5E n (v4.1, s2.snd.snd.snd.2)) fun (v5 : Bool × List (Int × List (Int × Int) × Int × Int)) =>
                      if v5.fst = Bool.true then
                        Option.bind (S.f49E n (s2.snd.snd.1, s2.snd.snd.snd.1)) fun (v6 : Bool × Int) =>
                          if (!v6.fst) = Bool.true then Option.some (Bool.true, v6.2, v5.2) else Option.some (s2.snd.snd.fst == (↑(List.length x.snd.fst) : Int), v6.2, v5.2)
                      else Option.some (s2.snd.snd.fst == (↑(List.length x.snd.fst) : Int), s2.snd.snd.snd.1, v5.2))
                    fun (v5 : Bool × Int × List (Int × List (Int × Int) × Int × Int)) =>
                    if v5.fst = Bool.true then Option.some (Sum.inr (Sum.inr (Go.IntKind.wrap Go.IntKind.i64 (s2.fst + v3.snd.snd.snd.fst), v5.snd.1)))
                    else
                      if (0 : Int) ≤ s2.snd.snd.fst ∧ s2.snd.snd.fst < (↑(List.length x.snd.fst) : Int) then
                        Option.bind (S.f46E n (v5.snd.2, v4.1, List.getD x.snd.fst (Int.toNat s2.snd.snd.fst) (0 : Int))) fun (v6 : List Int) =>
                          Option.some (Sum.inl (Go.IntKind.wrap Go.IntKind.i64 (s2.fst + v3.snd.snd.snd.fst), v6, Go.IntKind.wrap Go.IntKind.i64 (s2.snd.snd.fst + (1 : Int)), v5.snd.1, v5.snd.2))
                      else Option.none
            else Option.some (Sum.inr (Sum.inl (s2.1, s2.snd.snd.snd.1))))
          ((0 : Int), [(0 : Int)], x.snd.snd.1, v1.snd.1, v1.snd.2))
        fun (v2 : Int × Int ⊕ Int × Int) => Sum.elim (fun (p3 : Int × Int) => Option.some (p3.1, p3.2)) (fun (q3 : Int × Int) => Option.some (q3.1, q3.2)) v2
theorem S.s6E_le (n : Nat) (h : n ≤ S.fuel) : ∀ x, Le (S.s6E n x) (S.s6F x) := by
  intro x
  unfold S.s6E S.s6F
  repeat' (first | with_reducible exact Le.rfl | with_reducible exact S.f42E_le n h _ | with_reducible exact S.f43E_le n h _ | with_reducible exact S.f44E_le n h _ | with_reducible exact S.f46E_le n h _ | with_reducible exact S.f49E_le n h _ | with_reducible exact S.s5E_le n h _ | with_reducible apply Le.bind | with_reducible apply Le.iter | with_reducible apply Le.ite | with_reducible apply Le.elim | intro _)
def S.f21E (n : Nat) : List (Int × List (Int × Int) × Int × Int) × List Int × Int → Option (Int × Int) :=
  fun (x : List (Int × List (Int × Int) × Int × Int) × List Int × Int) => Option.bind (S.s6E n (x.1, x.snd.1, x.snd.2, (-1 : Int))) fun (v1 : Int × Int) => Option.some (v1.2, v1.1)
theorem S.f21E_le (n : Nat) (h : n ≤ S.fuel) : ∀ x, Le (S.f21E n x) (S.f21F x) := by
  intro x
  unfold S.f21E S.f21F
  repeat' (first | with_reducible exact Le.rfl | with_reducible exact S.s6E_le n h _ | with_reducible apply Le.bind | with_reducible apply Le.iter | with_reducible apply Le.ite | with_reducible apply Le.elim | intro _)
def S.f17E (n : Nat) : List (Int × List (Int × Int) × Int × Int) × List Int × Bool × Bool → Option (List Int) :=
  fun (x : List (Int × List (Int × Int) × Int × Int) × List Int × Bool × Bool) =>
  Option.bind (S.f42E n x.1) fun (v1 : Bool) =>
    if (!v1) = Bool.true then Option.some []
    else
      Option.bind (S.f43E n (x.1, x.snd.1, x.snd.snd.1, x.snd.snd.2)) fun (v2 : List (Int × List (Int × Int) × Int × Int) × Bool × Bool × Int × List Bool) =>
        Option.bind (S.f44E n (v2.1, v2.snd.1, v2.snd.snd.1, v2.snd.snd.snd.1, v2.snd.snd.snd.2)) fun (v3 : List Int × List (Int × List (Int × Int) × Int × Int) × Bool × Bool × Int × List Bool) =>
          Option.some v3.1
theorem S.f17E_le (n : Nat) (h : n ≤ S.fuel) : ∀ x, Le (S.f17E n x) (S.f17F x) := by
  intro x
  unfold S.f17E S.f17F
  repeat' (first | with_reducible exact Le.rfl | with_reducible exact S.f42E_le n h _ | with_reducible exact S.f43E_le n h _ | with_reducible exact S.f44E_le n h _ | with_reducible apply Le.bind | with_reducible apply Le.iter | with_reducible apply Le.ite | with_reducible apply Le.elim | intro _)
def S.f16E (n : Nat) : List Int × List Int → Option (Bool) :=
  fun (x : List Int × List Int) =>
  if ((↑(List.length x.fst) : Int) != (↑(List.length x.snd) : Int)) = Bool.true then Option.some Bool.false
  else
    Option.bind
      (Go.Sx.iterE n
        (fun (s1 : Int) =>
          if Decidable.decide (s1 < (↑(List.length x.fst) : Int)) = Bool.true then
            if (0 : Int) ≤ s1 ∧ s1 < (↑(List.length x.fst) : Int) then
              if (0 : Int) ≤ s1 ∧ s1 < (↑(List.length x.snd) : Int) then
                if (List.getD x.fst (Int.toNat s1) (0 : Int) != List.getD x.snd (Int.toNat s1) (0 : Int)) = Bool.true then Option.some (Sum.inr (Sum.inr Bool.false))
                else Option.some (Sum.inl (Go.IntKind.wrap Go.IntKind.i64 (s1 + (1 : Int))))
              else Option.none
            else Option.none
          else Option.some (Sum.inr (Sum.inl ())))
        (0 : Int))
      fun (v1 : PUnit ⊕ Bool) => Sum.elim (fun (p2 : PUnit) => Option.some Bool.true) (fun (q2 : Bool) => Option.some q2) v1
theorem S.f16E_le (n : Nat) (h : n ≤ S.fuel) : ∀ x, Le (S.f16E n x) (S.f16F x) := by
  intro x
  unfold S.f16E S.f16F
  repeat' (first | with_reducible exact Le.rfl | with_reducible apply Le.bind | with_reducible apply Le.iter | with_reducible apply Le.ite | with_reducible apply Le.elim | intro _)
def S.f19E (n : Nat) : List (Int × List (Int × Int) × Int × Int) × List Int × Int → Option (List Int) :=
  fun (x : List (Int × List (Int × Int) × Int × Int) × List Int × Int) =>
  Option.bind (S.f42E n x.1) fun (v1 : Bool) => if (!v1) = Bool.true then Option.some [] else Option.bind (S.f46E n (x.1, x.snd.1, x.snd.2)) fun (v2 : List Int) => Option.some v2
theorem S.f19E_le (n : Nat) (h : n ≤ S.fuel) : ∀ x, Le (S.f19E n x) (S.f19F x) := by
  intro x
  unfold S.f19E S.f19F
  repeat' (first | with_reducible exact Le.rfl | with_reducible exact S.f42E_le n h _ | with_reducible exact S.f46E_le n h _ | with_reducible apply Le.bind | with_reducible apply Le.iter | with_reducible apply Le.ite | with_reducible apply Le.elim | intro _)
def S.f51E (n : Nat) : Int × Bool × Int → Option (Bool × Bool × Int) :=
  fun (x : Int × Bool × Int) =>
  if x.snd.fst = Bool.true then Option.some (Decidable.decide (x.fst < x.snd.snd), Bool.true, x.snd.2) else Option.some (Decidable.decide (x.fst < x.snd.snd), x.fst == x.snd.snd, x.snd.2)
theorem S.f51E_le (n : Nat) (h : n ≤ S.fuel) : ∀ x, Le (S.f51E n x) (S.f51F x) := by
  intro x
  unfold S.f51E S.f51F
  repeat' (first | with_reducible exact Le.rfl | with_reducible apply Le.bind | with_reducible apply Le.iter | with_reducible apply Le.ite | with_reducible apply Le.elim | intro _)
def S.s7E (n : Nat) : List (Int × List (Int × Int) × Int × Int) × List Int × Int × Bool × Int → Option (Int × Bool × Int) :=
  fun (x : List (Int × List (Int × Int) × Int × Int) × List Int × Int × Bool × Int) =>
  Option.bind
    (if Decidable.decide (x.snd.snd.fst < (0 : Int)) = Bool.true then Option.some (Bool.true, x.snd.snd.snd.1, x.snd.snd.snd.2, x.1)
    else
      if Decidable.decide (x.snd.snd.fst > (↑(List.length x.snd.fst) : Int)) = Bool.true then Option.some (Bool.true, x.snd.snd.snd.1, x.snd.snd.snd.2, x.1)
      else Option.bind (S.f42E n x.1) fun (v1 : Bool) => Option.some (!v1, x.snd.snd.snd.1, x.snd.snd.snd.2, x.1))
    fun (v1 : Bool × Bool × Int × List (Int × List (Int × Int) × Int × Int)) =>
    if v1.fst = Bool.true then Option.some ((0 : Int), v1.snd.1, v1.snd.snd.1)
    else
      Option.bind
        (Go.Sx.iterE n
          (fun (s2 : Int × List Int × Int × Bool × Int × List (Int × List (Int × Int) × Int × Int)) =>
            if Decidable.decide ((↑(List.length s2.snd.fst) : Int) > (0 : Int)) = Bool.true then
              Option.bind (S.f43E n (s2.snd.snd.snd.snd.2, s2.snd.1, s2.snd.snd.fst == (0 : Int), s2.snd.snd.fst == (↑(List.length x.snd.fst) : Int)))
                fun (v3 : List (Int × List (Int × Int) × Int × Int) × Bool × Bool × Int × List Bool) =>
                Option.bind (S.f44E n (v3.1, v3.snd.1, v3.snd.snd.1, v3.snd.snd.snd.1, v3.snd.snd.snd.2))
                  fun (v4 : List Int × List (Int × List (Int × Int) × Int × Int) × Bool × Bool × Int × List Bool) =>
                  Option.bind
                    (Option.bind (S.s5E n (v4.1, s2.snd.snd.snd.snd.2)) fun (v5 : Bool × List (Int × List (Int × Int) × Int × Int)) =>
                      if v5.fst = Bool.true then
                        Option.bind (S.f51E n (s2.snd.snd.1, s2.snd.snd.snd.1, s2.snd.snd.snd.snd.1)) fun (v6 : Bool × Bool × Int) =>
                          if (!v6.fst) = Bool.true then Option.some (Bool.true, v6.snd.1, v6.snd.2, v5.2)
                          else Option.some (s2.snd.snd.fst == (↑(List.length x.snd.fst) : Int), v6.snd.1, v6.snd.2, v5.2)
                      else Option.some (s2.snd.snd.fst == (↑(List.length x.snd.fst) : Int), s2.snd.snd.snd.1, s2.snd.snd.snd.snd.1, v5.2))
                    fun (v5 : Bool × Bool × Int × List (Int × List (Int × Int) × Int × Int)) =>
                    if v5.fst = Bool.true then Option.some (Sum.inr (Sum.inr (Go.IntKind.wrap Go.IntKind.i64 (s2.fst + v3.snd.snd.snd.fst), v5.snd.1, v5.snd.snd.1)))
                    else
                      if (0 : Int) ≤ s2.snd.snd.fst ∧ s2.snd.snd.fst < (↑(List.length x.snd.fst) : Int) then
                        Option.bind (S.f46E n (v5.snd.snd.2, v4.1, List.getD x.snd.fst (Int.toNat s2.snd.snd.fst) (0 : Int))) fun (v6 : List Int) =>
                          Option.some
                            (Sum.inl
                              (Go.IntKind.wrap Go.IntKind.i64 (s2.fst + v3.snd.snd.snd.fst), v6, Go.IntKind.wrap Go.IntKind.i64 (s2.snd.snd.fst + (1 : Int)), v5.snd.1, v5.snd.snd.1, v5.snd.snd.2))
                      else Option.none
            else Option.some (Sum.inr (Sum.inl (s2.1, s2.snd.snd.snd.1, s2.snd.snd.snd.snd.1))))
          ((0 : Int), [(0 : Int)], x.snd.snd.1, v1.snd.1, v1.snd.snd.1, v1.snd.snd.2))
        fun (v2 : Int × Bool × Int ⊕ Int × Bool × Int) =>
        Sum.elim (fun (p3 : Int × Bool × Int) => Option.some (p3.1, p3.snd.1, p3.snd.2)) (fun (q3 : Int × Bool × Int) => Option.some (q3.1, q3.snd.1, q3.snd.2)) v2
theorem S.s7E_le (n : Nat) (h : n ≤ S.fuel) : ∀ x, Le (S.s7E n x) (S.s7F x) := by
  intro x
  unfold S.s7E S.s7F
  repeat' (first | with_reducible exact Le.rfl | with_reducible exact S.f42E_le n h _ | with_reducible exact S.f43E_le n h _ | with_reducible exact S.f44E_le n h _ | with_reducible exact S.f46E_le n h _ | with_reducible exact S.f51E_le n h _ | with_reducible exact S.s5E_le n h _ | with_reducible apply Le.bind | with_reducible apply Le.iter | with_reducible apply Le.ite | with_reducible apply Le.elim | intro _)
def S.f23E (n : Nat) : List (Int × List (Int × Int) × Int × Int) × List Int × Int × Int → Option (Bool) :=
  fun (x : List (Int × List (Int × Int) × Int × Int) × List Int × Int × Int) =>
  Option.bind (S.s7E n (x.1, x.snd.1, x.snd.snd.1, Bool.false, x.snd.snd.2)) fun (v1 : Int × Bool × Int) => Option.some v1.snd.1
theorem S.f23E_le (n : Nat) (h : n ≤ S.fuel) : ∀ x, Le (S.f23E n x) (S.f23F x) := by
  intro x
  unfold S.f23E S.f23F
  repeat' (first | with_reducible exact Le.rfl | with_reducible exact S.s7E_le n h _ | with_reducible apply Le.bind | with_reducible apply Le.iter | with_reducible apply Le.ite | with_reducible apply Le.elim | intro _)
def S.f14E (n : Nat) : PUnit → Option (Bool) :=
  fun (x : PUnit) =>
  Option.bind
    (S.f21E n
      ([((2 : Int), [], (1 : Int), (3 : Int)), ((1 : Int), [((97 : Int), (97 : Int))], (0 : Int), (0 : Int)), ((3 : Int), [], (0 : Int), (0 : Int)), ((0 : Int), [], (0 : Int), (0 : Int))],
        [(97 : Int), (97 : Int), (98 : Int)], (0 : Int)))
    fun (v1 : Int × Int) =>
    Option.bind
      (S.f17E n
        ([((2 : Int), [], (1 : Int), (3 : Int)), ((1 : Int), [((97 : Int), (97 : Int))], (0 : Int), (0 : Int)), ((3 : Int), [], (0 : Int), (0 : Int)), ((0 : Int), [], (0 : Int), (0 : Int))],
          [(0 : Int)], Bool.false, Bool.false))
      fun (v2 : List Int) =>
      Option.bind (S.f16E n (v2, [(0 : Int), (1 : Int), (3 : Int)])) fun (v3 : Bool) =>
        if v3 = Bool.true then
          Option.bind
            (S.f19E n
              ([((2 : Int), [], (1 : Int), (3 : Int)), ((1 : Int), [((97 : Int), (97 : Int))], (0 : Int), (0 : Int)), ((3 : Int), [], (0 : Int), (0 : Int)), ((0 : Int), [], (0 : Int), (0 : Int))],
                [(0 : Int), (1 : Int)], (97 : Int)))
            fun (v4 : List Int) =>
            Option.bind (S.f16E n (v4, [(2 : Int)])) fun (v5 : Bool) =>
              if v5 = Bool.true then
                if (v1.fst == (2 : Int)) = Bool.true then
                  if (v1.snd == (11 : Int)) = Bool.true then
                    Option.bind
                      (S.f23E n
                        ([((2 : Int), [], (1 : Int), (3 : Int)), ((1 : Int), [((97 : Int), (97 : Int))], (0 : Int), (0 : Int)), ((3 : Int), [], (0 : Int), (0 : Int)),
                            ((0 : Int), [], (0 : Int), (0 : Int))],
                          [(97 : Int), (97 : Int)], (0 : Int), (1 : Int)))
                      fun (v6 : Bool) =>
                      if v6 = Bool.true then
                        Option.bind
                          (S.f23E n
                            ([((2 : Int), [], (1 : Int), (3 : Int)), ((1 : Int), [((97 : Int), (97 : Int))], (0 : Int), (0 : Int)), ((3 : Int), [], (0 : Int), (0 : Int)),
                                ((0 : Int), [], (0 : Int), (0 : Int))],
                              [(98 : Int)], (0 : Int), (1 : Int)))
                          fun (v7 : Bool) => Option.some !v7
                      else Option.some Bool.false
                  else Option.some Bool.false
                else Option.some Bool.false
              else Option.some Bool.false
        else Option.some Bool.false
theorem S.f14E_le (n : Nat) (h : n ≤ S.fuel) : ∀ x, Le (S.f14E n x) (S.f14F x) := by
  intro x
  unfold S.f14E S.f14F
  repeat' (first | with_reducible exact Le.rfl | with_reducible exact S.f16E_le n h _ | with_reducible exact S.f17E_le n h _ | with_reducible exact S.f19E_le n h _ | with_reducible exact S.f21E_le n h _ | with_reducible exact S.f23E_le n h _ | with_reducible apply Le.bind | with_reducible apply Le.iter | with_reducible apply Le.ite | with_reducible apply Le.elim | intro _)
def S.f15E (n : Nat) : List (Int × List (Int × Int) × Int × Int) → Option (Bool) :=
  fun (x : List (Int × List (Int × Int) × Int × Int)) =>
  Option.bind
    (Go.Sx.iterE n
      (fun (s1 : Int × Int) =>
        Option.bind (if Decidable.decide (s1.snd < (↑(List.length x) : Int)) = Bool.true then Option.some (Decidable.decide (s1.fst ≤ (1000 : Int))) else Option.some Bool.false) fun (v2 : Bool) =>
          if v2 = Bool.true then
            if (0 : Int) ≤ s1.snd ∧ s1.snd < (↑(List.length x) : Int) then
              Option.some
                (Sum.inl
                  (Go.IntKind.wrap Go.IntKind.i64 (s1.fst + (↑(List.length (List.getD x (Int.toNat s1.snd) ((0 : Int), [], (0 : Int), (0 : Int))).snd.fst) : Int)),
                    Go.IntKind.wrap Go.IntKind.i64 (s1.snd + (1 : Int))))
            else Option.none
          else Option.some (Sum.inr s1.1))
      ((↑(List.length x) : Int), (0 : Int)))
    fun (v1 : Int) => Option.some (Decidable.decide (v1 > (1000 : Int)))
theorem S.f15E_le (n : Nat) (h : n ≤ S.fuel) : ∀ x, Le (S.f15E n x) (S.f15F x) := by
  intro x
  unfold S.f15E S.f15F
  repeat' (first | with_reducible exact Le.rfl | with_reducible apply Le.bind | with_reducible apply Le.iter | with_reducible apply Le.ite | with_reducible apply Le.elim | intro _)
def S.f26E (n : Nat) : List (Int × List (Int × Int) × Int × Int) → Option (Bool) :=
  fun (x : List (Int × List (Int × Int) × Int × Int)) =>
  Option.bind
    (if Decidable.decide ((↑(List.length x) : Int) < (1 : Int)) = Bool.true then Option.some Bool.true
    else
      if Decidable.decide ((↑(List.length x) : Int) > (1000 : Int)) = Bool.true then Option.some Bool.true
      else
        if (0 : Int) ≤ Go.IntKind.wrap Go.IntKind.i64 ((↑(List.length x) : Int) - (1 : Int)) ∧ Go.IntKind.wrap Go.IntKind.i64 ((↑(List.length x) : Int) - (1 : Int)) < (↑(List.length x) : Int) then
          Option.some ((List.getD x (Int.toNat (Go.IntKind.wrap Go.IntKind.i64 ((↑(List.length x) : Int) - (1 : Int)))) ((0 : Int), [], (0 : Int), (0 : Int))).fst != (0 : Int))
        else Option.none)
    fun (v1 : Bool) =>
    if v1 = Bool.true then Option.some Bool.false
    else
      Option.bind
        (Go.Sx.iterE n
          (fun (s2 : Int) =>
            if Decidable.decide (s2 < (↑(List.length x) : Int)) = Bool.true then
              if (0 : Int) ≤ s2 ∧ s2 < (↑(List.length x) : Int) then
                Option.bind
                  (if Decidable.decide ((List.getD x (Int.toNat s2) ((0 : Int), [], (0 : Int), (0 : Int))).fst < (0 : Int)) = Bool.true then Option.some Bool.true
                  else
                    if Decidable.decide ((List.getD x (Int.toNat s2) ((0 : Int), [], (0 : Int), (0 : Int))).fst > (5 : Int)) = Bool.true then Option.some Bool.true
                    else
                      if ((List.getD x (Int.toNat s2) ((0 : Int), [], (0 : Int), (0 : Int))).fst == (2 : Int)) = Bool.true then
                        if Decidable.decide ((List.getD x (Int.toNat s2) ((0 : Int), [], (0 : Int), (0 : Int))).snd.snd.fst < (0 : Int)) = Bool.true then Option.some Bool.true
                        else
                          if Decidable.decide ((List.getD x (Int.toNat s2) ((0 : Int), [], (0 : Int), (0 : Int))).snd.snd.fst ≥ (↑(List.length x) : Int)) = Bool.true then Option.some Bool.true
                          else
                            if ((List.getD x (Int.toNat s2) ((0 : Int), [], (0 : Int), (0 : Int))).fst == (2 : Int)) = Bool.true then
                              if Decidable.decide ((List.getD x (Int.toNat s2) ((0 : Int), [], (0 : Int), (0 : Int))).snd.snd.snd < (0 : Int)) = Bool.true then Option.some Bool.true
                              else Option.some (Decidable.decide ((List.getD x (Int.toNat s2) ((0 : Int), [], (0 : Int), (0 : Int))).snd.snd.snd ≥ (↑(List.length x) : Int)))
                            else Option.some Bool.false
                      else
                        if ((List.getD x (Int.toNat s2) ((0 : Int), [], (0 : Int), (0 : Int))).fst == (3 : Int)) = Bool.true then
                          if Decidable.decide ((List.getD x (Int.toNat s2) ((0 : Int), [], (0 : Int), (0 : Int))).snd.snd.fst < (0 : Int)) = Bool.true then Option.some Bool.true
                          else
                            if Decidable.decide ((List.getD x (Int.toNat s2) ((0 : Int), [], (0 : Int), (0 : Int))).snd.snd.fst ≥ (↑(List.length x) : Int)) = Bool.true then Option.some Bool.true
                            else
                              if ((List.getD x (Int.toNat s2) ((0 : Int), [], (0 : Int), (0 : Int))).fst == (2 : Int)) = Bool.true then
                                if Decidable.decide ((List.getD x (Int.toNat s2) ((0 : Int), [], (0 : Int), (0 : Int))).snd.snd.snd < (0 : Int)) = Bool.true then Option.some Bool.true
                                else Option.some (Decidable.decide ((List.getD x (Int.toNat s2) ((0 : Int), [], (0 : Int), (0 : Int))).snd.snd.snd ≥ (↑(List.length x) : Int)))
                              else Option.some Bool.false
                        else
                          if ((List.getD x (Int.toNat s2) ((0 : Int), [], (0 : Int), (0 : Int))).fst == (2 : Int)) = Bool.true then
                            if Decidable.decide ((List.getD x (Int.toNat s2) ((0 : Int), [], (0 : Int), (0 : Int))).snd.snd.snd < (0 : Int)) = Bool.true then Option.some Bool.true
                            else Option.some (Decidable.decide ((List.getD x (Int.toNat s2) ((0 : Int), [], (0 : Int), (0 : Int))).snd.snd.snd ≥ (↑(List.length x) : Int)))
                          else Option.some Bool.false)
                  fun (v3 : Bool) => if v3 = Bool.true then Option.some (Sum.inr (Sum.inr Bool.false)) else Option.some (Sum.inl (Go.IntKind.wrap Go.IntKind.i64 (s2 + (1 : Int))))
              else Option.none
            else Option.some (Sum.inr (Sum.inl ())))
          (0 : Int))
        fun (v2 : PUnit ⊕ Bool) => Sum.elim (fun (p3 : PUnit) => Option.some Bool.true) (fun (q3 : Bool) => Option.some q3) v2
theorem S.f26E_le (n : Nat) (h : n ≤ S.fuel) : ∀ x, Le (S.f26E n x) (S.f26F x) := by
  intro x
  unfold S.f26E S.f26F
  repeat' (first | with_reducible exact Le.rfl | with_reducible apply Le.bind | with_reducible apply Le.iter | with_reducible apply Le.ite | with_reducible apply Le.elim | intro _)
def S.f45E (n : Nat) : List Bool → Option (List Int) :=
  fun (x : List Bool) =>
  Option.bind
    (Go.Sx.iterE n
      (fun (s1 : Int × List Int) =>
        if Decidable.decide (s1.fst < (↑(List.length x) : Int)) = Bool.true then
          if (0 : Int) ≤ s1.fst ∧ s1.fst < (↑(List.length x) : Int) then
            if List.getD x (Int.toNat s1.fst) Bool.false = Bool.true then
              if
                  Go.Sx.roomOk (List.length s1.snd + List.length [s1.1])
                    { kind := Go.Sx.TK.int Go.IntKind.i64, size := (1 : Nat), bytes := (8 : Nat), ty := Option.some (Go.Sx.Ty.int Go.IntKind.i64),
                        zero := [Go.Sx.SV.val (Go.Sx.Ty.int Go.IntKind.i64) (0 : Int)] : Go.Sx.TI }.bytes then
                Option.some (Sum.inl (Go.IntKind.wrap Go.IntKind.i64 (s1.fst + (1 : Int)), s1.2 ++ [s1.1]))
              else Option.none
            else Option.some (Sum.inl (Go.IntKind.wrap Go.IntKind.i64 (s1.fst + (1 : Int)), s1.2))
          else Option.none
        else Option.some (Sum.inr s1.2))
      ((0 : Int), []))
    fun (v1 : List Int) => Option.some v1
theorem S.f45E_le (n : Nat) (h : n ≤ S.fuel) : ∀ x, Le (S.f45E n x) (S.f45F x) := by
  intro x
  unfold S.f45E S.f45F
  repeat' (first | with_reducible exact Le.rfl | with_reducible apply Le.bind | with_reducible apply Le.iter | with_reducible apply Le.ite | with_reducible apply Le.elim | intro _)
def S.f18E (n : Nat) : List (Int × List (Int × Int) × Int × Int) × List Int × Bool × Bool → Option (List Int) :=
  fun (x : List (Int × List (Int × Int) × Int × Int) × List Int × Bool × Bool) =>
  Option.bind (S.f26E n x.1) fun (v1 : Bool) =>
    if (!v1) = Bool.true then Option.some []
    else
      if
          (0 : Int) ≤ Go.IntKind.wrap Go.IntKind.i64 ((↑(List.length x.fst) : Int) + (1 : Int)) ∧
            Go.IntKind.wrap Go.IntKind.i64 ((↑(List.length x.fst) : Int) + (1 : Int)) ≤ Go.IntKind.wrap Go.IntKind.i64 ((↑(List.length x.fst) : Int) + (1 : Int)) ∧
              Go.Sx.roomOk (Int.toNat (Go.IntKind.wrap Go.IntKind.i64 ((↑(List.length x.fst) : Int) + (1 : Int))))
                { kind := Go.Sx.TK.bool, size := (1 : Nat), bytes := (1 : Nat), ty := Option.some Go.Sx.Ty.bool, zero := [Go.Sx.SV.bit Bool.false] : Go.Sx.TI }.bytes then
        Option.bind
          (Go.Sx.iterE n
            (fun (s2 : Int × List Bool) =>
              if Decidable.decide (s2.fst < (↑(List.length x.snd.fst) : Int)) = Bool.true then
                Option.bind
                  (if (0 : Int) ≤ s2.fst ∧ s2.fst < (↑(List.length x.snd.fst) : Int) then
                    if Decidable.decide (List.getD x.snd.fst (Int.toNat s2.fst) (0 : Int) ≥ (0 : Int)) = Bool.true then
                      if (0 : Int) ≤ s2.fst ∧ s2.fst < (↑(List.length x.snd.fst) : Int) then
                        Option.some (Decidable.decide (List.getD x.snd.fst (Int.toNat s2.fst) (0 : Int) < (↑(List.length x.fst) : Int)), s2.2)
                      else Option.none
                    else Option.some (Bool.false, s2.2)
                  else Option.none)
                  fun (v3 : Bool × List Bool) =>
                  if v3.fst = Bool.true then
                    if (0 : Int) ≤ s2.fst ∧ s2.fst < (↑(List.length x.snd.fst) : Int) then
                      if (0 : Int) ≤ List.getD x.snd.fst (Int.toNat s2.fst) (0 : Int) ∧ List.getD x.snd.fst (Int.toNat s2.fst) (0 : Int) < (↑(List.length v3.snd) : Int) then
                        Option.some (Sum.inl (Go.IntKind.wrap Go.IntKind.i64 (s2.fst + (1 : Int)), List.set v3.2 (Int.toNat (List.getD x.snd.fst (Int.toNat s2.fst) (0 : Int))) Bool.true))
                      else Option.none
                    else Option.none
                  else Option.some (Sum.inl (Go.IntKind.wrap Go.IntKind.i64 (s2.fst + (1 : Int)), v3.2))
              else Option.some (Sum.inr s2.2))
            ((0 : Int), List.replicate (Int.toNat (Go.IntKind.wrap Go.IntKind.i64 ((↑(List.length x.fst) : Int) + (1 : Int)))) Bool.false))
          fun (v2 : List Bool) =>
          Option.bind
            (Go.Sx.iterE n
              (fun (s3 : Bool × List Bool) =>
                if s3.fst = Bool.true then
                  Option.bind
                    (Go.Sx.iterE n
                      (fun (s4 : Bool × Int × List Bool) =>
                        if Decidable.decide (s4.snd.fst < (↑(List.length x.fst) : Int)) = Bool.true then
                          if (0 : Int) ≤ s4.snd.fst ∧ s4.snd.fst < (↑(List.length s4.snd.snd) : Int) then
                            if (!List.getD s4.snd.2 (Int.toNat s4.snd.fst) Bool.false) = Bool.true then Option.some (Sum.inl (s4.1, Go.IntKind.wrap Go.IntKind.i64 (s4.snd.fst + (1 : Int)), s4.snd.2))
                            else
                              Option.bind
                                (if (0 : Int) ≤ s4.snd.fst ∧ s4.snd.fst < (↑(List.length x.fst) : Int) then
                                  if ((List.getD x.fst (Int.toNat s4.snd.fst) ((0 : Int), [], (0 : Int), (0 : Int))).fst == (2 : Int)) = Bool.true then
                                    if (0 : Int) ≤ s4.snd.fst ∧ s4.snd.fst < (↑(List.length x.fst) : Int) then
                                      if (0 : Int) ≤ s4.snd.fst ∧ s4.snd.fst < (↑(List.length x.fst) : Int) then
                                        Option.some
                                          ((List.getD x.fst (Int.toNat s4.snd.fst) ((0 : Int), [], (0 : Int), (0 : Int))).snd.snd.1,
                                            (List.getD x.fst (Int.toNat s4.snd.fst) ((0 : Int), [], (0 : Int), (0 : Int))).snd.snd.2, s4.snd.2)
                                      else Option.none
                                    else Option.none
                                  else
                                    if (0 : Int) ≤ s4.snd.fst ∧ s4.snd.fst < (↑(List.length x.fst) : Int) then
                                      if ((List.getD x.fst (Int.toNat s4.snd.fst) ((0 : Int), [], (0 : Int), (0 : Int))).fst == (3 : Int)) = Bool.true then
                                        if (0 : Int) ≤ s4.snd.fst ∧ s4.snd.fst < (↑(List.length x.fst) : Int) then
                                          Option.some ((List.getD x.fst (Int.toNat s4.snd.fst) ((0 : Int), [], (0 : Int), (0 : Int))).snd.snd.1, s4.snd.1, s4.snd.2)
                                        else Option.none
                                      else
                                        Option.bind
                                          (Option.bind
                                            (if (0 : Int) ≤ s4.snd.fst ∧ s4.snd.fst < (↑(List.length x.fst) : Int) then
                                              if ((List.getD x.fst (Int.toNat s4.snd.fst) ((0 : Int), [], (0 : Int), (0 : Int))).fst == (4 : Int)) = Bool.true then Option.some (x.snd.snd.1, s4.snd.2)
                                              else Option.some (Bool.false, s4.snd.2)
                                            else Option.none)
                                            fun (v5 : Bool × List Bool) =>
                                            if v5.fst = Bool.true then Option.some (Bool.true, v5.2)
                                            else
                                              if (0 : Int) ≤ s4.snd.fst ∧ s4.snd.fst < (↑(List.length x.fst) : Int) then
                                                if ((List.getD x.fst (Int.toNat s4.snd.fst) ((0 : Int), [], (0 : Int), (0 : Int))).fst == (5 : Int)) = Bool.true then Option.some (x.snd.snd.2, v5.2)
                                                else Option.some (Bool.false, v5.2)
                                              else Option.none)
                                          fun (v5 : Bool × List Bool) =>
                                          if v5.fst = Bool.true then Option.some (Go.IntKind.wrap Go.IntKind.i64 (s4.snd.fst + (1 : Int)), s4.snd.1, v5.2) else Option.some (s4.snd.1, s4.snd.1, v5.2)
                                    else Option.none
                                else Option.none)
                                fun (v5 : Int × Int × List Bool) =>
                                Option.bind
                                  (if s4.fst = Bool.true then Option.some (Bool.true, v5.snd.2)
                                  else
                                    if (0 : Int) ≤ v5.fst ∧ v5.fst < (↑(List.length v5.snd.snd) : Int) then
                                      if (!List.getD v5.snd.2 (Int.toNat v5.fst) Bool.false) = Bool.true then Option.some (Bool.true, v5.snd.2)
                                      else
                                        if (0 : Int) ≤ v5.snd.fst ∧ v5.snd.fst < (↑(List.length v5.snd.snd) : Int) then Option.some (!List.getD v5.snd.2 (Int.toNat v5.snd.fst) Bool.false, v5.snd.2)
                                        else Option.none
                                    else Option.none)
                                  fun (v6 : Bool × List Bool) =>
                                  if (0 : Int) ≤ v5.fst ∧ v5.fst < (↑(List.length v6.snd) : Int) then
                                    if (0 : Int) ≤ v5.snd.fst ∧ v5.snd.fst < (↑(List.length (List.set v6.2 (Int.toNat v5.fst) Bool.true)) : Int) then
                                      Option.some
                                        (Sum.inl
                                          (v6.1, Go.IntKind.wrap Go.IntKind.i64 (s4.snd.fst + (1 : Int)), List.set (List.set v6.2 (Int.toNat v5.fst) Bool.true) (Int.toNat v5.snd.fst) Bool.true))
                                    else Option.none
                                  else Option.none
                          else Option.none
                        else Option.some (Sum.inr (s4.1, s4.snd.2)))
                      (Bool.false, (0 : Int), s3.2))
                    fun (v4 : Bool × List Bool) => Option.some (Sum.inl (v4.1, v4.2))
                else Option.some (Sum.inr s3.2))
              (Bool.true, v2))
            fun (v3 : List Bool) =>
            if (0 : Int) ≤ (↑(List.length x.fst) : Int) ∧ (↑(List.length x.fst) : Int) ≤ (↑(List.length v3) : Int) then
              Option.bind (S.f45E n (List.take (Int.toNat (↑(List.length x.fst) : Int)) v3)) fun (v4 : List Int) => Option.some v4
            else Option.none
      else Option.none
theorem S.f18E_le (n : Nat) (h : n ≤ S.fuel) : ∀ x, Le (S.f18E n x) (S.f18F x) := by
  intro x
  unfold S.f18E S.f18F
  repeat' (first | with_reducible exact Le.rfl | with_reducible exact S.f26E_le n h _ | with_reducible exact S.f45E_le n h _ | with_reducible apply Le.bind | with_reducible apply Le.iter | with_reducible apply Le.ite | with_reducible apply Le.elim | intro _)
def S.f47E (n : Nat) : List (Int × Int) × Int → Option (Bool) :=
  fun (x : List (Int × Int) × Int) =>
  Option.bind
    (Go.Sx.iterE n
      (fun (s1 : Int) =>
        if Decidable.decide (s1 < (↑(List.length x.fst) : Int)) = Bool.true then
          Option.bind
            (if (0 : Int) ≤ s1 ∧ s1 < (↑(List.length x.fst) : Int) then
              if Decidable.decide (x.snd ≥ (List.getD x.fst (Int.toNat s1) ((0 : Int), (0 : Int))).fst) = Bool.true then
                if (0 : Int) ≤ s1 ∧ s1 < (↑(List.length x.fst) : Int) then Option.some (Decidable.decide (x.snd ≤ (List.getD x.fst (Int.toNat s1) ((0 : Int), (0 : Int))).snd)) else Option.none
              else Option.some Bool.false
            else Option.none)
            fun (v2 : Bool) => if v2 = Bool.true then Option.some (Sum.inr (Sum.inr Bool.true)) else Option.some (Sum.inl (Go.IntKind.wrap Go.IntKind.i64 (s1 + (1 : Int))))
        else Option.some (Sum.inr (Sum.inl ())))
      (0 : Int))
    fun (v1 : PUnit ⊕ Bool) => Sum.elim (fun (p2 : PUnit) => Option.some Bool.false) (fun (q2 : Bool) => Option.some q2) v1
theorem S.f47E_le (n : Nat) (h : n ≤ S.fuel) : ∀ x, Le (S.f47E n x) (S.f47F x) := by
  intro x
  unfold S.f47E S.f47F
  repeat' (first | with_reducible exact Le.rfl | with_reducible apply Le.bind | with_reducible apply Le.iter | with_reducible apply Le.ite | with_reducible apply Le.elim | intro _)
def S.f20E (n : Nat) : List (Int × List (Int × Int) × Int × Int) × List Int × Int → Option (List Int) :=
  fun (x : List (Int × List (Int × Int) × Int × Int) × List Int × Int) =>
  Option.bind (S.f26E n x.1) fun (v1 : Bool) =>
    if (!v1) = Bool.true then Option.some []
    else
      if
          (0 : Int) ≤ Go.IntKind.wrap Go.IntKind.i64 ((↑(List.length x.fst) : Int) + (1 : Int)) ∧
            Go.IntKind.wrap Go.IntKind.i64 ((↑(List.length x.fst) : Int) + (1 : Int)) ≤ Go.IntKind.wrap Go.IntKind.i64 ((↑(List.length x.fst) : Int) + (1 : Int)) ∧
              Go.Sx.roomOk (Int.toNat (Go.IntKind.wrap Go.IntKind.i64 ((↑(List.length x.fst) : Int) + (1 : Int))))
                { kind := Go.Sx.TK.bool, size := (1 : Nat), bytes := (1 : Nat), ty := Option.some Go.Sx.Ty.bool, zero := [Go.Sx.SV.bit Bool.false] : Go.Sx.TI }.bytes then
        Option.bind
          (Go.Sx.iterE n
            (fun (s2 : Int × List Bool) =>
              if Decidable.decide (s2.fst < (↑(List.length x.snd.fst) : Int)) = Bool.true then
                if (0 : Int) ≤ s2.fst ∧ s2.fst < (↑(List.length x.snd.fst) : Int) then
                  Option.bind
                    (if Decidable.decide (List.getD x.snd.fst (Int.toNat s2.fst) (0 : Int) ≥ (0 : Int)) = Bool.true then
                      if Decidable.decide (List.getD x.snd.fst (Int.toNat s2.fst) (0 : Int) < (↑(List.length x.fst) : Int)) = Bool.true then
                        if (0 : Int) ≤ List.getD x.snd.fst (Int.toNat s2.fst) (0 : Int) ∧ List.getD x.snd.fst (Int.toNat s2.fst) (0 : Int) < (↑(List.length x.fst) : Int) then
                          if ((List.getD x.fst (Int.toNat (List.getD x.snd.fst (Int.toNat s2.fst) (0 : Int))) ((0 : Int), [], (0 : Int), (0 : Int))).fst == (1 : Int)) = Bool.true then
                            if (0 : Int) ≤ List.getD x.snd.fst (Int.toNat s2.fst) (0 : Int) ∧ List.getD x.snd.fst (Int.toNat s2.fst) (0 : Int) < (↑(List.length x.fst) : Int) then
                              Option.bind (S.f47E n ((List.getD x.fst (Int.toNat (List.getD x.snd.fst (Int.toNat s2.fst) (0 : Int))) ((0 : Int), [], (0 : Int), (0 : Int))).snd.1, x.snd.2))
                                fun (v3 : Bool) => Option.some (v3, s2.2)
                            else Option.none
                          else Option.some (Bool.false, s2.2)
                        else Option.none
                      else Option.some (Bool.false, s2.2)
                    else Option.some (Bool.false, s2.2))
                    fun (v3 : Bool × List Bool) =>
                    if v3.fst = Bool.true then
                      if
                          (0 : Int) ≤ Go.IntKind.wrap Go.IntKind.i64 (List.getD x.snd.fst (Int.toNat s2.fst) (0 : Int) + (1 : Int)) ∧
                            Go.IntKind.wrap Go.IntKind.i64 (List.getD x.snd.fst (Int.toNat s2.fst) (0 : Int) + (1 : Int)) < (↑(List.length v3.snd) : Int) then
                        Option.some
                          (Sum.inl
                            (Go.IntKind.wrap Go.IntKind.i64 (s2.fst + (1 : Int)),
                              List.set v3.2 (Int.toNat (Go.IntKind.wrap Go.IntKind.i64 (List.getD x.snd.fst (Int.toNat s2.fst) (0 : Int) + (1 : Int)))) Bool.true))
                      else Option.none
                    else Option.some (Sum.inl (Go.IntKind.wrap Go.IntKind.i64 (s2.fst + (1 : Int)), v3.2))
                else Option.none
              else Option.some (Sum.inr s2.2))
            ((0 : Int), List.replicate (Int.toNat (Go.IntKind.wrap Go.IntKind.i64 ((↑(List.length x.fst) : Int) + (1 : Int)))) Bool.false))
          fun (v2 : List Bool) => Option.bind (S.f45E n v2) fun (v3 : List Int) => Option.some v3
      else Option.none
theorem S.f20E_le (n : Nat) (h : n ≤ S.fuel) : ∀ x, Le (S.f20E n x) (S.f20F x) := by
  intro x
  unfold S.f20E S.f20F
  repeat' (first | with_reducible exact Le.rfl | with_reducible exact S.f26E_le n h _ | with_reducible exact S.f45E_le n h _ | with_reducible exact S.f47E_le n h _ | with_reducible apply Le.bind | with_reducible apply Le.iter | with_reducible apply Le.ite | with_reducible apply Le.elim | intro _)
def S.f3E (n : Nat) : List (Int × List (Int × Int) × Int × Int) × List Int × Int → Option (Bool) :=
  fun (x : List (Int × List (Int × Int) × Int × Int) × List Int × Int) =>
  Option.bind (S.f14E n ()) fun (v1 : Bool) =>
    if (!v1) = Bool.true then Option.some Bool.false
    else
      Option.bind (Option.bind (S.f15E n x.1) fun (v2 : Bool) => if v2 = Bool.true then Option.some Bool.true else Option.some (Decidable.decide ((↑(List.length x.snd.fst) : Int) > (300 : Int))))
        fun (v2 : Bool) =>
        if v2 = Bool.true then Option.some Bool.true
        else
          Option.bind
            (Go.Sx.iterE n
              (fun (s3 : Int) =>
                if Decidable.decide (s3 < (4 : Int)) = Bool.true then
                  Option.bind (S.f17E n (x.1, x.snd.1, Int.tmod s3 (2 : Int) == (1 : Int), Go.IntKind.wrap Go.IntKind.i64 (Int.tdiv s3 (2 : Int)) == (1 : Int))) fun (v4 : List Int) =>
                    Option.bind (S.f18E n (x.1, x.snd.1, Int.tmod s3 (2 : Int) == (1 : Int), Go.IntKind.wrap Go.IntKind.i64 (Int.tdiv s3 (2 : Int)) == (1 : Int))) fun (v5 : List Int) =>
                      Option.bind (S.f16E n (v4, v5)) fun (v6 : Bool) =>
                        if (!v6) = Bool.true then Option.some (Sum.inr (Sum.inr Bool.false)) else Option.some (Sum.inl (Go.IntKind.wrap Go.IntKind.i64 (s3 + (1 : Int))))
                else Option.some (Sum.inr (Sum.inl ())))
              (0 : Int))
            fun (v3 : PUnit ⊕ Bool) =>
            Sum.elim
              (fun (p4 : PUnit) =>
                Option.bind (S.f19E n (x.1, x.snd.1, x.snd.2)) fun (v5 : List Int) =>
                  Option.bind (S.f20E n (x.1, x.snd.1, x.snd.2)) fun (v6 : List Int) => Option.bind (S.f16E n (v5, v6)) fun (v7 : Bool) => Option.some v7)
              (fun (q4 : Bool) => Option.some q4) v3
theorem S.f3E_le (n : Nat) (h : n ≤ S.fuel) : ∀ x, Le (S.f3E n x) (S.f3F x) := by
  intro x
  unfold S.f3E S.f3F
  repeat' (first | with_reducible exact Le.rfl | with_reducible exact S.f14E_le n h _ | with_reducible exact S.f15E_le n h _ | with_reducible exact S.f16E_le n h _ | with_reducible exact S.f17E_le n h _ | with_reducible exact S.f18E_le n h _ | with_reducible exact S.f19E_le n h _ | with_reducible exact S.f20E_le n h _ | with_reducible apply Le.bind | with_reducible apply Le.iter | with_reducible apply Le.ite | with_reducible apply Le.elim | intro _)
def S.f78E (n : Nat) : List (Int × List (Int × Int) × Int × Int) × List Int → Option (Bool) :=
  fun (x : List (Int × List (Int × Int) × Int × Int) × List Int) =>
  Option.bind
    (Go.Sx.iterE n
      (fun (s1 : Int) =>
        if Decidable.decide (s1 < (↑(List.length x.snd) : Int)) = Bool.true then
          if (0 : Int) ≤ s1 ∧ s1 < (↑(List.length x.snd) : Int) then
            if (0 : Int) ≤ List.getD x.snd (Int.toNat s1) (0 : Int) ∧ List.getD x.snd (Int.toNat s1) (0 : Int) < (↑(List.length x.fst) : Int) then
              if ((List.getD x.fst (Int.toNat (List.getD x.snd (Int.toNat s1) (0 : Int))) ((0 : Int), [], (0 : Int), (0 : Int))).fst == (0 : Int)) = Bool.true then
                Option.some (Sum.inr (Sum.inr Bool.true))
              else Option.some (Sum.inl (Go.IntKind.wrap Go.IntKind.i64 (s1 + (1 : Int))))
            else Option.none
          else Option.none
        else Option.some (Sum.inr (Sum.inl ())))
      (0 : Int))
    fun (v1 : PUnit ⊕ Bool) => Sum.elim (fun (p2 : PUnit) => Option.some Bool.false) (fun (q2 : Bool) => Option.some q2) v1
theorem S.f78E_le (n : Nat) (h : n ≤ S.fuel) : ∀ x, Le (S.f78E n x) (S.f78F x) := by
  intro x
  unfold S.f78E S.f78F
  repeat' (first | with_reducible exact Le.rfl | with_reducible apply Le.bind | with_reducible apply Le.iter | with_reducible apply Le.ite | with_reducible apply Le.elim | intro _)
def S.f50E (n : Nat) : List (Int × List (Int × Int) × Int × Int) × List Int × Int → Option (List Int × Int) :=
  fun (x : List (Int × List (Int × Int) × Int × Int) × List Int × Int) =>
  Option.bind
    (Option.bind (S.f26E n x.1) fun (v1 : Bool) =>
      if (!v1) = Bool.true then Option.some Bool.true
      else if Decidable.decide (x.snd.snd < (0 : Int)) = Bool.true then Option.some Bool.true else Option.some (Decidable.decide (x.snd.snd > (↑(List.length x.snd.fst) : Int))))
    fun (v1 : Bool) =>
    if v1 = Bool.true then Option.some ([], (0 : Int))
    else
      Option.bind
        (Go.Sx.iterE n
          (fun (s2 : Int × List Int × Int × List Int) =>
            if Decidable.decide ((↑(List.length s2.snd.fst) : Int) > (0 : Int)) = Bool.true then
              Option.bind (S.f18E n (x.1, s2.snd.1, s2.snd.snd.fst == (0 : Int), s2.snd.snd.fst == (↑(List.length x.snd.fst) : Int))) fun (v3 : List Int) =>
                Option.bind
                  (Option.bind (S.f78E n (x.1, v3)) fun (v4 : Bool) =>
                    if v4 = Bool.true then
                      if
                          Go.Sx.roomOk (List.length s2.snd.snd.snd + List.length [s2.snd.snd.1])
                            { kind := Go.Sx.TK.int Go.IntKind.i64, size := (1 : Nat), bytes := (8 : Nat), ty := Option.some (Go.Sx.Ty.int Go.IntKind.i64),
                                zero := [Go.Sx.SV.val (Go.Sx.Ty.int Go.IntKind.i64) (0 : Int)] : Go.Sx.TI }.bytes then
                        Option.some (s2.snd.snd.2 ++ [s2.snd.snd.1])
                      else Option.none
                    else Option.some s2.snd.snd.2)
                  fun (v4 : List Int) =>
                  if Decidable.decide (s2.snd.snd.fst < (↑(List.length x.snd.fst) : Int)) = Bool.true then
                    if (0 : Int) ≤ s2.snd.snd.fst ∧ s2.snd.snd.fst < (↑(List.length x.snd.fst) : Int) then
                      Option.bind (S.f20E n (x.1, v3, List.getD x.snd.fst (Int.toNat s2.snd.snd.fst) (0 : Int))) fun (v5 : List Int) =>
                        Option.some (Sum.inl (Go.IntKind.wrap Go.IntKind.i64 (s2.fst + (↑(List.length v3) : Int)), v5, Go.IntKind.wrap Go.IntKind.i64 (s2.snd.snd.fst + (1 : Int)), v4))
                    else Option.none
                  else Option.some (Sum.inl (Go.IntKind.wrap Go.IntKind.i64 (s2.fst + (↑(List.length v3) : Int)), [], Go.IntKind.wrap Go.IntKind.i64 (s2.snd.snd.fst + (1 : Int)), v4))
            else Option.some (Sum.inr (s2.1, s2.snd.snd.2)))
          ((0 : Int), [(0 : Int)], x.snd.2, []))
        fun (v2 : Int × List Int) => Option.some (v2.2, v2.1)
theorem S.f50E_le (n : Nat) (h : n ≤ S.fuel) : ∀ x, Le (S.f50E n x) (S.f50F x) := by
  intro x
  unfold S.f50E S.f50F
  repeat' (first | with_reducible exact Le.rfl | with_reducible exact S.f18E_le n h _ | with_reducible exact S.f20E_le n h _ | with_reducible exact S.f26E_le n h _ | with_reducible exact S.f78E_le n h _ | with_reducible apply Le.bind | with_reducible apply Le.iter | with_reducible apply Le.ite | with_reducible apply Le.elim | intro _)
def S.f22E (n : Nat) : List (Int × List (Int × Int) × Int × Int) × List Int × Int → Option (Int × Int) :=
  fun (x : List (Int × List (Int × Int) × Int × Int) × List Int × Int) =>
  Option.bind (S.f50E n (x.1, x.snd.1, x.snd.2)) fun (v1 : List Int × Int) =>
    if ((↑(List.length v1.fst) : Int) == (0 : Int)) = Bool.true then Option.some ((-1 : Int), v1.2)
    else
      if
          (0 : Int) ≤ Go.IntKind.wrap Go.IntKind.i64 ((↑(List.length v1.fst) : Int) - (1 : Int)) ∧
            Go.IntKind.wrap Go.IntKind.i64 ((↑(List.length v1.fst) : Int) - (1 : Int)) < (↑(List.length v1.fst) : Int) then
        Option.some (List.getD v1.fst (Int.toNat (Go.IntKind.wrap Go.IntKind.i64 ((↑(List.length v1.fst) : Int) - (1 : Int)))) (0 : Int), v1.2)
      else Option.none
theorem S.f22E_le (n : Nat) (h : n ≤ S.fuel) : ∀ x, Le (S.f22E n x) (S.f22F x) := by
  intro x
  unfold S.f22E S.f22F
  repeat' (first | with_reducible exact Le.rfl | with_reducible exact S.f50E_le n h _ | with_reducible apply Le.bind | with_reducible apply Le.iter | with_reducible apply Le.ite | with_reducible apply Le.elim | intro _)
def S.f24E (n : Nat) : List (Int × List (Int × Int) × Int × Int) × List Int × Int × Int → Option (Bool) :=
  fun (x : List (Int × List (Int × Int) × Int × Int) × List Int × Int × Int) =>
  Option.bind (S.f50E n (x.1, x.snd.1, x.snd.snd.1)) fun (v1 : List Int × Int) =>
    Option.bind
      (Go.Sx.iterE n
        (fun (s2 : Int) =>
          if Decidable.decide (s2 < (↑(List.length v1.fst) : Int)) = Bool.true then
            if (0 : Int) ≤ s2 ∧ s2 < (↑(List.length v1.fst) : Int) then
              if (List.getD v1.fst (Int.toNat s2) (0 : Int) == x.snd.snd.snd) = Bool.true then Option.some (Sum.inr (Sum.inr Bool.true))
              else Option.some (Sum.inl (Go.IntKind.wrap Go.IntKind.i64 (s2 + (1 : Int))))
            else Option.none
          else Option.some (Sum.inr (Sum.inl ())))
        (0 : Int))
      fun (v2 : PUnit ⊕ Bool) => Sum.elim (fun (p3 : PUnit) => Option.some Bool.false) (fun (q3 : Bool) => Option.some q3) v2
theorem S.f24E_le (n : Nat) (h : n ≤ S.fuel) : ∀ x, Le (S.f24E n x) (S.f24F x) := by
  intro x
  unfold S.f24E S.f24F
  repeat' (first | with_reducible exact Le.rfl | with_reducible exact S.f50E_le n h _ | with_reducible apply Le.bind | with_reducible apply Le.iter | with_reducible apply Le.ite | with_reducible apply Le.elim | intro _)
def S.f4E (n : Nat) : List (Int × List (Int × Int) × Int × Int) × List Int × List Int → Option (Bool) :=
  fun (x : List (Int × List (Int × Int) × Int × Int) × List Int × List Int) =>
  Option.bind (S.f14E n ()) fun (v1 : Bool) =>
    if (!v1) = Bool.true then Option.some Bool.false
    else
      Option.bind
        (Option.bind (S.f15E n x.1) fun (v2 : Bool) =>
          if v2 = Bool.true then Option.some (Bool.true, List.getD x.snd.snd (nat_lit 0) (0 : Int), List.getD x.snd.snd (nat_lit 1) (0 : Int))
          else
            if Decidable.decide ((↑(List.length x.fst) : Int) > (200 : Int)) = Bool.true then
              Option.some (Bool.true, List.getD x.snd.snd (nat_lit 0) (0 : Int), List.getD x.snd.snd (nat_lit 1) (0 : Int))
            else Option.some (Decidable.decide ((↑(List.length x.snd.fst) : Int) > (40 : Int)), List.getD x.snd.snd (nat_lit 0) (0 : Int), List.getD x.snd.snd (nat_lit 1) (0 : Int)))
        fun (v2 : Bool × Int × Int) =>
        if v2.fst = Bool.true then Option.some Bool.true
        else
          if (0 : Int) ≤ (0 : Int) ∧ (0 : Int) < (↑(2 : Nat) : Int) then
            Option.bind (S.f21E n (x.1, x.snd.1, v2.snd.1)) fun (v3 : Int × Int) =>
              if (0 : Int) ≤ (0 : Int) ∧ (0 : Int) < (↑(2 : Nat) : Int) then
                Option.bind (S.f22E n (x.1, x.snd.1, v2.snd.1)) fun (v4 : Int × Int) =>
                  if (v3.fst == v4.fst) = Bool.true then
                    if (v3.snd == v4.snd) = Bool.true then
                      if (0 : Int) ≤ (0 : Int) ∧ (0 : Int) < (↑(2 : Nat) : Int) then
                        if (0 : Int) ≤ (1 : Int) ∧ (1 : Int) < (↑(2 : Nat) : Int) then
                          Option.bind (S.f23E n (x.1, x.snd.1, v2.snd.1, v2.snd.2)) fun (v5 : Bool) =>
                            if (0 : Int) ≤ (0 : Int) ∧ (0 : Int) < (↑(2 : Nat) : Int) then
                              if (0 : Int) ≤ (1 : Int) ∧ (1 : Int) < (↑(2 : Nat) : Int) then Option.bind (S.f24E n (x.1, x.snd.1, v2.snd.1, v2.snd.2)) fun (v6 : Bool) => Option.some (v5 == v6)
                              else Option.none
                            else Option.none
                        else Option.none
                      else Option.none
                    else Option.some Bool.false
                  else Option.some Bool.false
              else Option.none
          else Option.none
theorem S.f4E_le (n : Nat) (h : n ≤ S.fuel) : ∀ x, Le (S.f4E n x) (S.f4F x) := by
  intro x
  unfold S.f4E S.f4F
  repeat' (first | with_reducible exact Le.rfl | with_reducible exact S.f14E_le n h _ | with_reducible exact S.f15E_le n h _ | with_reducible exact S.f21E_le n h _ | with_reducible exact S.f22E_le n h _ | with_reducible exact S.f23E_le n h _ | with_reducible exact S.f24E_le n h _ | with_reducible apply Le.bind | with_reducible apply Le.iter | with_reducible apply Le.ite | with_reducible apply Le.elim | intro _)
def S.f25E (n : Nat) : List Int × List Int → Option (Bool) :=
  fun (x : List Int × List Int) =>
  Option.bind
    (Go.Sx.iterE n
      (fun (s1 : Int × Int) =>
        if Decidable.decide (s1.snd < (↑(List.length x.fst) : Int)) = Bool.true then
          Option.bind
            (Go.Sx.iterE n
              (fun (s2 : Int) =>
                Option.bind
                  (if Decidable.decide (s2 < (↑(List.length x.snd) : Int)) = Bool.true then
                    if (0 : Int) ≤ s2 ∧ s2 < (↑(List.length x.snd) : Int) then
                      if (0 : Int) ≤ s1.snd ∧ s1.snd < (↑(List.length x.fst) : Int) then
                        Option.some (Decidable.decide (List.getD x.snd (Int.toNat s2) (0 : Int) < List.getD x.fst (Int.toNat s1.snd) (0 : Int)))
                      else Option.none
                    else Option.none
                  else Option.some Bool.false)
                  fun (v3 : Bool) => if v3 = Bool.true then Option.some (Sum.inl (Go.IntKind.wrap Go.IntKind.i64 (s2 + (1 : Int)))) else Option.some (Sum.inr s2))
              s1.1)
            fun (v2 : Int) =>
            Option.bind
              (if (v2 == (↑(List.length x.snd) : Int)) = Bool.true then Option.some Bool.true
              else
                if (0 : Int) ≤ v2 ∧ v2 < (↑(List.length x.snd) : Int) then
                  if (0 : Int) ≤ s1.snd ∧ s1.snd < (↑(List.length x.fst) : Int) then Option.some (List.getD x.snd (Int.toNat v2) (0 : Int) != List.getD x.fst (Int.toNat s1.snd) (0 : Int))
                  else Option.none
                else Option.none)
              fun (v3 : Bool) => if v3 = Bool.true then Option.some (Sum.inr (Sum.inr Bool.false)) else Option.some (Sum.inl (v2, Go.IntKind.wrap Go.IntKind.i64 (s1.snd + (1 : Int))))
        else Option.some (Sum.inr (Sum.inl ())))
      ((0 : Int), (0 : Int)))
    fun (v1 : PUnit ⊕ Bool) => Sum.elim (fun (p2 : PUnit) => Option.some Bool.true) (fun (q2 : Bool) => Option.some q2) v1
theorem S.f25E_le (n : Nat) (h : n ≤ S.fuel) : ∀ x, Le (S.f25E n x) (S.f25F x) := by
  intro x
  unfold S.f25E S.f25F
  repeat' (first | with_reducible exact Le.rfl | with_reducible apply Le.bind | with_reducible apply Le.iter | with_reducible apply Le.ite | with_reducible apply Le.elim | intro _)
def S.f5E (n : Nat) : List (Int × List (Int × Int) × Int × Int) × List Int × List Int → Option (Bool) :=
  fun (x : List (Int × List (Int × Int) × Int × Int) × List Int × List Int) =>
  Option.bind (S.f14E n ()) fun (v1 : Bool) =>
    if (!v1) = Bool.true then Option.some Bool.false
    else
      Option.bind
        (Option.bind (S.f15E n x.1) fun (v2 : Bool) =>
          if v2 = Bool.true then Option.some Bool.true
          else
            if Decidable.decide ((↑(List.length x.fst) : Int) > (200 : Int)) = Bool.true then Option.some Bool.true
            else
              if Decidable.decide ((↑(List.length x.snd.fst) : Int) > (300 : Int)) = Bool.true then Option.some Bool.true
              else Option.some (Decidable.decide ((↑(List.length x.snd.snd) : Int) > (300 : Int))))
        fun (v2 : Bool) =>
        if v2 = Bool.true then Option.some Bool.true
        else
          Option.bind (S.f17E n (x.1, x.snd.1, Bool.false, Bool.false)) fun (v3 : List Int) =>
            if
                Go.Sx.roomOk ((0 : Nat) + List.length x.snd.1)
                  { kind := Go.Sx.TK.int Go.IntKind.i64, size := (1 : Nat), bytes := (8 : Nat), ty := Option.some (Go.Sx.Ty.int Go.IntKind.i64),
                      zero := [Go.Sx.SV.val (Go.Sx.Ty.int Go.IntKind.i64) (0 : Int)] : Go.Sx.TI }.bytes then
              if
                  Go.Sx.roomOk (List.length ([] ++ x.snd.1) + List.length x.snd.2)
                    { kind := Go.Sx.TK.int Go.IntKind.i64, size := (1 : Nat), bytes := (8 : Nat), ty := Option.some (Go.Sx.Ty.int Go.IntKind.i64),
                        zero := [Go.Sx.SV.val (Go.Sx.Ty.int Go.IntKind.i64) (0 : Int)] : Go.Sx.TI }.bytes then
                Option.bind (S.f17E n (x.1, [] ++ x.snd.1 ++ x.snd.2, Bool.false, Bool.false)) fun (v4 : List Int) =>
                  Option.bind (S.f17E n (x.1, x.snd.1, Bool.true, Bool.true)) fun (v5 : List Int) =>
                    Option.bind (S.f17E n (x.1, v3, Bool.false, Bool.false)) fun (v6 : List Int) =>
                      Option.bind (S.f16E n (v6, v3)) fun (v7 : Bool) =>
                        if v7 = Bool.true then
                          Option.bind (S.f25E n (v3, v4)) fun (v8 : Bool) =>
                            if v8 = Bool.true then Option.bind (S.f25E n (v3, v5)) fun (v9 : Bool) => Option.some v9 else Option.some Bool.false
                        else Option.some Bool.false
              else Option.none
            else Option.none
theorem S.f5E_le (n : Nat) (h : n ≤ S.fuel) : ∀ x, Le (S.f5E n x) (S.f5F x) := by
  intro x
  unfold S.f5E S.f5F
  repeat' (first | with_reducible exact Le.rfl | with_reducible exact S.f14E_le n h _ | with_reducible exact S.f15E_le n h _ | with_reducible exact S.f16E_le n h _ | with_reducible exact S.f17E_le n h _ | with_reducible exact S.f25E_le n h _ | with_reducible apply Le.bind | with_reducible apply Le.iter | with_reducible apply Le.ite | with_reducible apply Le.elim | intro _)
def S.f6E (n : Nat) : List (Int × List (Int × Int) × Int × Int) × List Int × Int → Option (Bool) :=
  fun (x : List (Int × List (Int × Int) × Int × Int) × List Int × Int) =>
  Option.bind (S.f14E n ()) fun (v1 : Bool) =>
    if (!v1) = Bool.true then Option.some Bool.false
    else
      Option.bind
        (Option.bind (S.f15E n x.1) fun (v2 : Bool) =>
          if v2 = Bool.true then Option.some Bool.true
          else
            if Decidable.decide ((↑(List.length x.fst) : Int) > (100 : Int)) = Bool.true then Option.some Bool.true else Option.some (Decidable.decide ((↑(List.length x.snd.fst) : Int) > (30 : Int))))
        fun (v2 : Bool) =>
        if v2 = Bool.true then Option.some Bool.true
        else
          if Go.IntKind.wrap Go.IntKind.i64 ((↑(List.length x.snd.fst) : Int) + (1 : Int)) = (0 : Int) then Option.none
          else
            Option.bind (S.f21E n (x.1, x.snd.1, Int.tmod (Go.IntKind.wrap Go.IntKind.i64 x.snd.snd) (Go.IntKind.wrap Go.IntKind.i64 ((↑(List.length x.snd.fst) : Int) + (1 : Int)))))
              fun (v3 : Int × Int) =>
              Option.bind (S.f26E n x.1) fun (v4 : Bool) =>
                if (!v4) = Bool.true then if (v3.fst == (-1 : Int)) = Bool.true then Option.some (v3.snd == (0 : Int)) else Option.some Bool.false
                else
                  Option.bind
                    (if Decidable.decide (v3.fst ≥ (0 : Int)) = Bool.true then
                      if
                          Decidable.decide (v3.fst < Int.tmod (Go.IntKind.wrap Go.IntKind.i64 x.snd.snd) (Go.IntKind.wrap Go.IntKind.i64 ((↑(List.length x.snd.fst) : Int) + (1 : Int)))) =
                            Bool.true then
                        Option.some Bool.true
                      else
                        if Decidable.decide (v3.fst > (↑(List.length x.snd.fst) : Int)) = Bool.true then Option.some Bool.true
                        else
                          Option.bind
                            (S.f23E n (x.1, x.snd.1, Int.tmod (Go.IntKind.wrap Go.IntKind.i64 x.snd.snd) (Go.IntKind.wrap Go.IntKind.i64 ((↑(List.length x.snd.fst) : Int) + (1 : Int))), v3.1))
                            fun (v5 : Bool) => Option.some !v5
                    else Option.some Bool.false)
                    fun (v5 : Bool) =>
                    if v5 = Bool.true then Option.some Bool.false
                    else
                      Option.bind
                        (Go.Sx.iterE n
                          (fun (s6 : Int) =>
                            if Decidable.decide (s6 ≤ (↑(List.length x.snd.fst) : Int)) = Bool.true then
                              Option.bind
                                (S.f23E n (x.1, x.snd.1, Int.tmod (Go.IntKind.wrap Go.IntKind.i64 x.snd.snd) (Go.IntKind.wrap Go.IntKind.i64 ((↑(List.length x.snd.fst) : Int) + (1 : Int))), s6))
                                fun (v7 : Bool) => if v7 = Bool.true then Option.some (Sum.inr (Sum.inr Bool.false)) else Option.some (Sum.inl (Go.IntKind.wrap Go.IntKind.i64 (s6 + (1 : Int))))
                            else Option.some (Sum.inr (Sum.inl ())))
                          (if Go.IntKind.wrap Go.IntKind.i64 (v3.fst + (1 : Int)) > (0 : Int) then Go.IntKind.wrap Go.IntKind.i64 (v3.fst + (1 : Int)) else (0 : Int)))
                        fun (v6 : PUnit ⊕ Bool) =>
                        Sum.elim
                          (fun (p7 : PUnit) =>
                            if Decidable.decide (v3.snd > (0 : Int)) = Bool.true then
                              Option.bind
                                (S.f23E n
                                  (x.1, x.snd.1, Int.tmod (Go.IntKind.wrap Go.IntKind.i64 x.snd.snd) (Go.IntKind.wrap Go.IntKind.i64 ((↑(List.length x.snd.fst) : Int) + (1 : Int))),
                                    Go.IntKind.wrap Go.IntKind.i64
                                      (Int.tmod (Go.IntKind.wrap Go.IntKind.i64 x.snd.snd) (Go.IntKind.wrap Go.IntKind.i64 ((↑(List.length x.snd.fst) : Int) + (1 : Int))) - (1 : Int))))
                                fun (v8 : Bool) =>
                                if (!v8) = Bool.true then
                                  Option.bind
                                    (S.f23E n
                                      (x.1, x.snd.1, (-1 : Int), Int.tmod (Go.IntKind.wrap Go.IntKind.i64 x.snd.snd) (Go.IntKind.wrap Go.IntKind.i64 ((↑(List.length x.snd.fst) : Int) + (1 : Int)))))
                                    fun (v9 : Bool) => Option.some !v9
                                else Option.some Bool.false
                            else Option.some Bool.false)
                          (fun (q7 : Bool) => Option.some q7) v6
theorem S.f6E_le (n : Nat) (h : n ≤ S.fuel) : ∀ x, Le (S.f6E n x) (S.f6F x) := by
  intro x
  unfold S.f6E S.f6F
  repeat' (first | with_reducible exact Le.rfl | with_reducible exact S.f14E_le n h _ | with_reducible exact S.f15E_le n h _ | with_reducible exact S.f21E_le n h _ | with_reducible exact S.f23E_le n h _ | with_reducible exact S.f26E_le n h _ | with_reducible apply Le.bind | with_reducible apply Le.iter | with_reducible apply Le.ite | with_reducible apply Le.elim | intro _)
end Go.Sx
namespace Go.Sx
theorem sAlive : S.f14F () = some true := S.f14E_le 60 (by decide) () true (by decide +kernel)
end Go.Sx
