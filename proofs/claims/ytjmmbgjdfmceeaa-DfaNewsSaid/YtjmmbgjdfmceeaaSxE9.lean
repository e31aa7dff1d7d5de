/- The functions, with a bound on rounds: to be run. -/
import Derived.Test.YtjmmbgjdfmceeaaSxT9b
import Derived.Test.YtjmmbgjdfmceeaaSxEv
set_option linter.unusedVariables false
set_option linter.unusedSimpArgs false
namespace Go.Sx
def D.f69E (n : Nat) : Int × Int → Option (Bool × Int) := fun (x : Int × Int) => if decide (x.1 ≥ (0 : Int)) = true then some (decide (x.1 < x.2), x.2) else some (false, x.2)
theorem D.f69E_le (n : Nat) (h : n ≤ D.fuel) : ∀ x, Le (D.f69E n x) (D.f69F x) := by
  intro x
  unfold D.f69E D.f69F
  repeat' (first | with_reducible exact Le.rfl | with_reducible apply Le.agree | with_reducible apply Le.bind | with_reducible apply Le.iter | with_reducible apply Le.ite | with_reducible apply Le.elim | intro _)
def D.f71E (n : Nat) : (Int × List (Int × Int) × Int × Int) × Int → Option (Bool × Int) := fun (x : (Int × List (Int × Int) × Int × Int) × Int) => Option.bind (if (x.1.1 == (0 : Int)) = true then some (true, x.2, x.1.1, x.1.2.1, x.1.2.2.1,
 x.1.2.2.2) else if (x.1.1 == (1 : Int)) = true then some (true, x.2, x.1.1, x.1.2.1, x.1.2.2.1, x.1.2.2.2) else if (x.1.1 == (4 : Int)) = true then some (true, x.2, x.1.1, x.1.2.1, x.1.2.2.1, x.1.2.2.2) else some (x.1.1 == (5 : Int), x.2,
 x.1.1, x.1.2.1, x.1.2.2.1, x.1.2.2.2)) fun (v1 : Bool × Int × Int × List (Int × Int) × Int × Int) => if v1.1 = true then some (false, v1.2.1) else if (x.1.1 == (2 : Int)) = true then Option.bind (D.f69E n (v1.2.2.2.2.1, v1.2.1)) fun v2 =>
 if (!v2.1) = true then some (true, v2.2) else Option.bind (D.f69E n (v1.2.2.2.2.2, v2.2)) fun v3 => some (!v3.1, v3.2) else if (x.1.1 == (3 : Int)) = true then Option.bind (D.f69E n (v1.2.2.2.2.1, v1.2.1)) fun v2 => some (!v2.1, v2.2) else
 some (true, v1.2.1)
theorem D.f71E_le (n : Nat) (h : n ≤ D.fuel) : ∀ x, Le (D.f71E n x) (D.f71F x) := by
  intro x
  unfold D.f71E D.f71F
  repeat' (first | with_reducible exact Le.rfl | with_reducible exact D.f69E_le n h _ | with_reducible apply Le.agree | with_reducible apply Le.bind | with_reducible apply Le.iter | with_reducible apply Le.ite | with_reducible apply Le.elim | intro _)
def D.s0E (n : Nat) : List (Int × List (Int × Int) × Int × Int) × Int → Option (Int × Int) := fun (x : List (Int × List (Int × Int) × Int × Int) × Int) => Option.bind (iterE n (fun (s1 : Int × Int) => if decide (s1.1 < (x.1.length : Int)) =
 true then if (0 : Int) ≤ s1.1 ∧ s1.1 < (x.1.length : Int) then Option.bind (D.f71E n (List.getD x.1 (Int.toNat s1.1) ((0 : Int), [], (0 : Int), (0 : Int)), s1.2)) fun v2 => if v2.1 = true then some (Sum.inr (Sum.inr (s1.1, v2.2))) else some
 (Sum.inl (IntKind.i64.wrap (s1.1 + (1 : Int)), v2.2)) else none else some (Sum.inr (Sum.inl s1.2))) ((0 : Int), x.2)) fun v1 => Sum.elim (fun (p2 : Int) => some ((-1 : Int), p2)) (fun (q2 : Int × Int) => some (q2.1, q2.2)) v1
theorem D.s0E_le (n : Nat) (h : n ≤ D.fuel) : ∀ x, Le (D.s0E n x) (D.s0F x) := by
  intro x
  unfold D.s0E D.s0F
  repeat' (first | with_reducible exact Le.rfl | with_reducible exact D.f71E_le n h _ | with_reducible apply Le.agree | with_reducible apply Le.bind | with_reducible apply Le.iter | with_reducible apply Le.ite | with_reducible apply Le.elim | intro _)
def D.s1E (n : Nat) : List (Int × List (Int × Int) × Int × Int) × Int → Option (Bool × Int) := fun (x : List (Int × List (Int × Int) × Int × Int) × Int) => Option.bind (D.s0E n (x.1, x.2)) fun v1 => some (decide (v1.1 ≥ (0 : Int)), v1.2)
theorem D.s1E_le (n : Nat) (h : n ≤ D.fuel) : ∀ x, Le (D.s1E n x) (D.s1F x) := by
  intro x
  unfold D.s1E D.s1F
  repeat' (first | with_reducible exact Le.rfl | with_reducible exact D.s0E_le n h _ | with_reducible apply Le.agree | with_reducible apply Le.bind | with_reducible apply Le.iter | with_reducible apply Le.ite | with_reducible apply Le.elim | intro _)
def D.f42E (n : Nat) : List (Int × List (Int × Int) × Int × Int) → Option (Bool) := fun (x : List (Int × List (Int × Int) × Int × Int)) => Option.bind (if ((x.length : Int) == (0 : Int)) = true then some (true, (x.length : Int)) else if
 decide ((x.length : Int) > (1000 : Int)) = true then some (true, (x.length : Int)) else if (0 : Int) ≤ IntKind.i64.wrap ((x.length : Int) - (1 : Int)) ∧ IntKind.i64.wrap ((x.length : Int) - (1 : Int)) < (x.length : Int) then some
 ((List.getD x (Int.toNat (IntKind.i64.wrap ((x.length : Int) - (1 : Int)))) ((0 : Int), [], (0 : Int), (0 : Int))).1 != (0 : Int), (x.length : Int)) else none) fun v1 => if v1.1 = true then some false else Option.bind (D.s1E n (x, v1.2))
 fun v2 => some !v2.1
theorem D.f42E_le (n : Nat) (h : n ≤ D.fuel) : ∀ x, Le (D.f42E n x) (D.f42F x) := by
  intro x
  unfold D.f42E D.f42F
  repeat' (first | with_reducible exact Le.rfl | with_reducible exact D.s1E_le n h _ | with_reducible apply Le.agree | with_reducible apply Le.bind | with_reducible apply Le.iter | with_reducible apply Le.ite | with_reducible apply Le.elim | intro _)
def D.f28E (n : Nat) : List (Int × List (Int × Int) × Int × Int) × Int → Option ((List (Int × List (Int × Int) × Int × Int) × Int × List (List Int × Bool × List (Int × Int)) × Int) × Int) := fun (x : List (Int × List (Int × Int) × Int ×
 Int) × Int) => Option.bind (D.f42E n x.1) fun v1 => if (!v1) = true then some (([], (0 : Int), [], (0 : Int)), (1 : Int)) else Option.bind (if decide (x.2 < (2 : Int)) = true then some (true, (0 : Int), (0 : Int), [], []) else some (decide
 (x.2 > (1000 : Int)), (0 : Int), (0 : Int), [], [])) fun (v2 : Bool × Int × Int × List (Int × List (Int × Int) × Int × Int) × List (List Int × Bool × Bool × List (Int × Int))) => if v2.1 = true then some (([], (0 : Int), [], (0 : Int)), (13
 : Int)) else some ((x.1, x.2, [], (0 : Int)), (0 : Int))
theorem D.f28E_le (n : Nat) (h : n ≤ D.fuel) : ∀ x, Le (D.f28E n x) (D.f28F x) := by
  intro x
  unfold D.f28E D.f28F
  repeat' (first | with_reducible exact Le.rfl | with_reducible exact D.f42E_le n h _ | with_reducible apply Le.agree | with_reducible apply Le.bind | with_reducible apply Le.iter | with_reducible apply Le.ite | with_reducible apply Le.elim | intro _)
def D.f120E (n : Nat) : Int → Option (Bool) := fun (x : Int) => some (x != x)
theorem D.f120E_le (n : Nat) (h : n ≤ D.fuel) : ∀ x, Le (D.f120E n x) (D.f120F x) := by
  intro x
  unfold D.f120E D.f120F
  repeat' (first | with_reducible exact Le.rfl | with_reducible apply Le.agree | with_reducible apply Le.bind | with_reducible apply Le.iter | with_reducible apply Le.ite | with_reducible apply Le.elim | intro _)
def D.f105E (n : Nat) : Int × Int → Option (Bool) := fun (x : Int × Int) => Option.bind (D.f120E n x.1) fun v1 => if v1 = true then Option.bind (D.f120E n x.2) fun v2 => if (!v2) = true then some true else some (decide (x.1 < x.2)) else
 some (decide (x.1 < x.2))
theorem D.f105E_le (n : Nat) (h : n ≤ D.fuel) : ∀ x, Le (D.f105E n x) (D.f105F x) := by
  intro x
  unfold D.f105E D.f105F
  repeat' (first | with_reducible exact Le.rfl | with_reducible exact D.f120E_le n h _ | with_reducible apply Le.agree | with_reducible apply Le.bind | with_reducible apply Le.iter | with_reducible apply Le.ite | with_reducible apply Le.elim | intro _)
def D.f89E (n : Nat) : List Int → Option (Bool) := fun (x : List Int) => Option.bind (iterE n (fun (s1 : Int) => if decide (s1 > (0 : Int)) = true then if (0 : Int) ≤ s1 ∧ s1 < (x.length : Int) then if (0 : Int) ≤ IntKind.i64.wrap (s1 - (1
 : Int)) ∧ IntKind.i64.wrap (s1 - (1 : Int)) < (x.length : Int) then Option.bind (D.f105E n (List.getD x (Int.toNat s1) (0 : Int), List.getD x (Int.toNat (IntKind.i64.wrap (s1 - (1 : Int)))) (0 : Int))) fun v2 => if v2 = true then some
 (Sum.inr (Sum.inr false)) else some (Sum.inl (IntKind.i64.wrap (s1 - (1 : Int)))) else none else none else some (Sum.inr (Sum.inl ()))) (IntKind.i64.wrap ((x.length : Int) - (1 : Int)))) fun v1 => Sum.elim (fun (p2 : PUnit) => some true)
 (fun (q2 : Bool) => some q2) v1
theorem D.f89E_le (n : Nat) (h : n ≤ D.fuel) : ∀ x, Le (D.f89E n x) (D.f89F x) := by
  intro x
  unfold D.f89E D.f89F
  repeat' (first | with_reducible exact Le.rfl | with_reducible exact D.f105E_le n h _ | with_reducible apply Le.agree | with_reducible apply Le.bind | with_reducible apply Le.iter | with_reducible apply Le.ite | with_reducible apply Le.elim | intro _)
def D.f80E (n : Nat) : List Int → Option (List Int) := fun (x : List Int) => if Nat.beq (List.length x) (0 : Nat) = true then agreeE (some []) (if roomOk ((0 : Nat) + List.length x) (8 : Nat) then some ([] ++ x) else none) else if roomOk
 ((0 : Nat) + List.length x) (8 : Nat) then some ([] ++ x) else none
theorem D.f80E_le (n : Nat) (h : n ≤ D.fuel) : ∀ x, Le (D.f80E n x) (D.f80F x) := by
  intro x
  unfold D.f80E D.f80F
  repeat' (first | with_reducible exact Le.rfl | with_reducible apply Le.agree | with_reducible apply Le.bind | with_reducible apply Le.iter | with_reducible apply Le.ite | with_reducible apply Le.elim | intro _)
def D.f75E (n : Nat) : List Int → Option (List Int) := fun (x : List Int) => if decide ((x.length : Int) < (2 : Int)) = true then some x else Option.bind (iterE n (fun (s1 : Int × List Int) => if decide (s1.1 < (s1.2.length : Int)) = true
 then if (0 : Int) ≤ s1.1 ∧ s1.1 < (s1.2.length : Int) then if (0 : Int) ≤ IntKind.i64.wrap (s1.1 - (1 : Int)) ∧ IntKind.i64.wrap (s1.1 - (1 : Int)) < (s1.2.length : Int) then if (List.getD s1.2 (Int.toNat s1.1) (0 : Int) == List.getD s1.2
 (Int.toNat (IntKind.i64.wrap (s1.1 - (1 : Int)))) (0 : Int)) = true then if (0 : Int) ≤ s1.1 ∧ s1.1 ≤ (s1.2.length : Int) then Option.bind (iterE n (fun (s2 : Int × Int × List Int) => if decide (s2.2.1 < (↑(List.length s1.2 - Int.toNat
 s1.1) : Int)) = true then if (0 : Int) ≤ s2.2.1 ∧ s2.2.1 < (↑(List.length s1.2 - Int.toNat s1.1) : Int) then if (0 : Int) ≤ IntKind.i64.wrap (s2.2.1 - (1 : Int)) ∧ IntKind.i64.wrap (s2.2.1 - (1 : Int)) < (↑(List.length s1.2 - Int.toNat
 s1.1) : Int) then if (List.getD s2.2.2 (Int.toNat s1.1 + Int.toNat s2.2.1) (0 : Int) != List.getD s2.2.2 (Int.toNat s1.1 + Int.toNat (IntKind.i64.wrap (s2.2.1 - (1 : Int)))) (0 : Int)) = true then if (0 : Int) ≤ s2.2.1 ∧ s2.2.1 <
 (↑(List.length s1.2 - Int.toNat s1.1) : Int) then if (0 : Int) ≤ s2.1 ∧ s2.1 < (s2.2.2.length : Int) then some (Sum.inl (IntKind.i64.wrap (s2.1 + (1 : Int)), IntKind.i64.wrap (s2.2.1 + (1 : Int)), List.set s2.2.2 (Int.toNat s2.1) (List.getD
 s2.2.2 (Int.toNat s1.1 + Int.toNat s2.2.1) (0 : Int)))) else none else none else some (Sum.inl (s2.1, IntKind.i64.wrap (s2.2.1 + (1 : Int)), s2.2.2)) else none else none else some (Sum.inr (s2.1, s2.2.2))) (s1.1, (1 : Int), s1.2)) fun (v2 :
 Int × List Int) => if (0 : Int) ≤ v2.1 ∧ v2.1 ≤ (v2.2.length : Int) then if (0 : Int) ≤ v2.1 ∧ v2.1 ≤ (↑(List.length (List.take (Int.toNat v2.1) v2.2 ++ (List.replicate (List.length v2.2 - Int.toNat v2.1) (0 : Int) ++ List.drop (Int.toNat
 v2.1 + (List.length v2.2 - Int.toNat v2.1)) v2.2))) : Int) then some (Sum.inr (Sum.inr (List.take (Int.toNat v2.1) (List.take (Int.toNat v2.1) v2.2 ++ (List.replicate (List.length v2.2 - Int.toNat v2.1) (0 : Int) ++ List.drop (Int.toNat
 v2.1 + (List.length v2.2 - Int.toNat v2.1)) v2.2))))) else none else none else none else some (Sum.inl (IntKind.i64.wrap (s1.1 + (1 : Int)), s1.2)) else none else none else some (Sum.inr (Sum.inl s1.2))) ((1 : Int), x)) fun (v1 : List Int ⊕
 List Int) => Sum.elim (fun (p2 : List Int) => some p2) (fun (q2 : List Int) => some q2) v1
theorem D.f75E_le (n : Nat) (h : n ≤ D.fuel) : ∀ x, Le (D.f75E n x) (D.f75F x) := by
  intro x
  unfold D.f75E D.f75F
  repeat' (first | with_reducible exact Le.rfl | with_reducible apply Le.agree | with_reducible apply Le.bind | with_reducible apply Le.iter | with_reducible apply Le.ite | with_reducible apply Le.elim | intro _)
def D.f57E (n : Nat) : List Int × Int → Option (Bool) := fun (x : List Int × Int) => if decide ((x.1.length : Int) > (0 : Int)) = true then if (0 : Int) ≤ (0 : Int) ∧ (0 : Int) < (x.1.length : Int) then if decide (List.getD x.1 (Int.toNat
 (0 : Int)) (0 : Int) ≥ (0 : Int)) = true then if (0 : Int) ≤ IntKind.i64.wrap ((x.1.length : Int) - (1 : Int)) ∧ IntKind.i64.wrap ((x.1.length : Int) - (1 : Int)) < (x.1.length : Int) then if decide (List.getD x.1 (Int.toNat
 (IntKind.i64.wrap ((x.1.length : Int) - (1 : Int)))) (0 : Int) < x.2) = true then Option.bind (D.f89E n x.1) fun v1 => if v1 = true then Option.bind (D.f80E n x.1) fun v2 => Option.bind (D.f75E n v2) fun v3 => some ((v3.length : Int) ==
 (x.1.length : Int)) else some false else some false else none else some false else none else some false
theorem D.f57E_le (n : Nat) (h : n ≤ D.fuel) : ∀ x, Le (D.f57E n x) (D.f57F x) := by
  intro x
  unfold D.f57E D.f57F
  repeat' (first | with_reducible exact Le.rfl | with_reducible exact D.f75E_le n h _ | with_reducible exact D.f80E_le n h _ | with_reducible exact D.f89E_le n h _ | with_reducible apply Le.agree | with_reducible apply Le.bind | with_reducible apply Le.iter | with_reducible apply Le.ite | with_reducible apply Le.elim | intro _)
def D.f61E (n : Nat) : List Int × List Int → Option (Bool) := fun (x : List Int × List Int) => if ((x.1.length : Int) != (x.2.length : Int)) = true then some false else Option.bind (iterE n (fun (s1 : Int) => if decide (s1 < (x.1.length :
 Int)) = true then if (0 : Int) ≤ s1 ∧ s1 < (x.1.length : Int) then if (0 : Int) ≤ s1 ∧ s1 < (x.2.length : Int) then if (List.getD x.1 (Int.toNat s1) (0 : Int) != List.getD x.2 (Int.toNat s1) (0 : Int)) = true then some (Sum.inr (Sum.inr
 false)) else some (Sum.inl (IntKind.i64.wrap (s1 + (1 : Int)))) else none else none else some (Sum.inr (Sum.inl ()))) (0 : Int)) fun v1 => Sum.elim (fun (p2 : PUnit) => some true) (fun (q2 : Bool) => some q2) v1
theorem D.f61E_le (n : Nat) (h : n ≤ D.fuel) : ∀ x, Le (D.f61E n x) (D.f61F x) := by
  intro x
  unfold D.f61E D.f61F
  repeat' (first | with_reducible exact Le.rfl | with_reducible apply Le.agree | with_reducible apply Le.bind | with_reducible apply Le.iter | with_reducible apply Le.ite | with_reducible apply Le.elim | intro _)
def D.f104E (n : Nat) : (List Int × Bool × List (Int × Int)) × Bool × List Int → Option (Bool × Bool × List Int) := fun (x : (List Int × Bool × List (Int × Int)) × Bool × List Int) => if (x.1.2.1 == x.2.1) = true then Option.bind (D.f61E n
 (x.1.1, x.2.2)) fun v1 => some (v1, x.2.1, x.2.2) else some (false, x.2.1, x.2.2)
theorem D.f104E_le (n : Nat) (h : n ≤ D.fuel) : ∀ x, Le (D.f104E n x) (D.f104F x) := by
  intro x
  unfold D.f104E D.f104F
  repeat' (first | with_reducible exact Le.rfl | with_reducible exact D.f61E_le n h _ | with_reducible apply Le.agree | with_reducible apply Le.bind | with_reducible apply Le.iter | with_reducible apply Le.ite | with_reducible apply Le.elim | intro _)
def D.s10E (n : Nat) : List (List Int × Bool × List (Int × Int)) × Bool × List Int → Option (Int × Bool × List Int) := fun (x : List (List Int × Bool × List (Int × Int)) × Bool × List Int) => Option.bind (iterE n (fun (s1 : Int × Bool ×
 List Int) => if decide (s1.1 < (x.1.length : Int)) = true then if (0 : Int) ≤ s1.1 ∧ s1.1 < (x.1.length : Int) then Option.bind (D.f104E n (List.getD x.1 (Int.toNat s1.1) ([], false, []), s1.2.1, s1.2.2)) fun v2 => if v2.1 = true then some
 (Sum.inr (Sum.inr (s1.1, v2.2.1, v2.2.2))) else some (Sum.inl (IntKind.i64.wrap (s1.1 + (1 : Int)), v2.2.1, v2.2.2)) else none else some (Sum.inr (Sum.inl (s1.2.1, s1.2.2)))) ((0 : Int), x.2.1, x.2.2)) fun (v1 : Bool × List Int ⊕ Int × Bool
 × List Int) => Sum.elim (fun (p2 : Bool × List Int) => some ((-1 : Int), p2.1, p2.2)) (fun (q2 : Int × Bool × List Int) => some (q2.1, q2.2.1, q2.2.2)) v1
theorem D.s10E_le (n : Nat) (h : n ≤ D.fuel) : ∀ x, Le (D.s10E n x) (D.s10F x) := by
  intro x
  unfold D.s10E D.s10F
  repeat' (first | with_reducible exact Le.rfl | with_reducible exact D.f104E_le n h _ | with_reducible apply Le.agree | with_reducible apply Le.bind | with_reducible apply Le.iter | with_reducible apply Le.ite | with_reducible apply Le.elim | intro _)
def D.f82E (n : Nat) : (List (Int × List (Int × Int) × Int × Int) × Int × List (List Int × Bool × List (Int × Int)) × Int) × List Int × Bool → Option (Int) := fun (x : (List (Int × List (Int × Int) × Int × Int) × Int × List (List Int × Bool
 × List (Int × Int)) × Int) × List Int × Bool) => Option.bind (D.s10E n (x.1.2.2.1, x.2.2, x.2.1)) fun v1 => some v1.1
theorem D.f82E_le (n : Nat) (h : n ≤ D.fuel) : ∀ x, Le (D.f82E n x) (D.f82F x) := by
  intro x
  unfold D.f82E D.f82F
  repeat' (first | with_reducible exact Le.rfl | with_reducible exact D.s10E_le n h _ | with_reducible apply Le.agree | with_reducible apply Le.bind | with_reducible apply Le.iter | with_reducible apply Le.ite | with_reducible apply Le.elim | intro _)
def D.f72SE (n : Nat) (r72 : Int × List (Int × List (Int × Int) × Int × Int) × Bool × Bool × Int × List Bool → Option (List (Int × List (Int × Int) × Int × Int) × Bool × Bool × Int × List Bool)) : Int × List (Int × List (Int × Int) × Int ×
 Int) × Bool × Bool × Int × List Bool → Option (List (Int × List (Int × Int) × Int × Int) × Bool × Bool × Int × List Bool) := fun (x : Int × List (Int × List (Int × Int) × Int × Int) × Bool × Bool × Int × List Bool) => Option.bind (iterE n
 (fun (s1 : Int × List (Int × List (Int × Int) × Int × Int) × Bool × Bool × Int × List Bool) => Option.bind (if decide (s1.1 ≥ (0 : Int)) = true then if decide (s1.1 < (s1.2.1.length : Int)) = true then if (0 : Int) ≤ s1.1 ∧ s1.1 <
 (s1.2.2.2.2.2.length : Int) then some (!List.getD s1.2.2.2.2.2 (Int.toNat s1.1) false, s1.2.1, s1.2.2.1, s1.2.2.2.1, s1.2.2.2.2.1, s1.2.2.2.2.2) else none else some (false, s1.2.1, s1.2.2.1, s1.2.2.2.1, s1.2.2.2.2.1, s1.2.2.2.2.2) else some
 (false, s1.2.1, s1.2.2.1, s1.2.2.2.1, s1.2.2.2.2.1, s1.2.2.2.2.2)) fun (v2 : Bool × List (Int × List (Int × Int) × Int × Int) × Bool × Bool × Int × List Bool) => if v2.1 = true then if (0 : Int) ≤ s1.1 ∧ s1.1 < (v2.2.2.2.2.2.length : Int)
 then if (0 : Int) ≤ s1.1 ∧ s1.1 < (v2.2.1.length : Int) then if ((List.getD v2.2.1 (Int.toNat s1.1) ((0 : Int), [], (0 : Int), (0 : Int))).1 == (2 : Int)) = true then Option.bind (r72 ((List.getD v2.2.1 (Int.toNat s1.1) ((0 : Int), [], (0 :
 Int), (0 : Int))).2.2.1, v2.2.1, v2.2.2.1, v2.2.2.2.1, IntKind.i64.wrap (v2.2.2.2.2.1 + (1 : Int)), List.set v2.2.2.2.2.2 (Int.toNat s1.1) true)) fun (v3 : List (Int × List (Int × Int) × Int × Int) × Bool × Bool × Int × List Bool) => some
 (Sum.inl ((List.getD v2.2.1 (Int.toNat s1.1) ((0 : Int), [], (0 : Int), (0 : Int))).2.2.2, v3.1, v3.2.1, v3.2.2.1, v3.2.2.2.1, v3.2.2.2.2)) else if ((List.getD v2.2.1 (Int.toNat s1.1) ((0 : Int), [], (0 : Int), (0 : Int))).1 == (3 : Int)) =
 true then some (Sum.inl ((List.getD v2.2.1 (Int.toNat s1.1) ((0 : Int), [], (0 : Int), (0 : Int))).2.2.1, v2.2.1, v2.2.2.1, v2.2.2.2.1, IntKind.i64.wrap (v2.2.2.2.2.1 + (1 : Int)), List.set v2.2.2.2.2.2 (Int.toNat s1.1) true)) else
 Option.bind (Option.bind (if ((List.getD v2.2.1 (Int.toNat s1.1) ((0 : Int), [], (0 : Int), (0 : Int))).1 == (4 : Int)) = true then some (v2.2.2.1, v2.2.1, v2.2.2.1, v2.2.2.2.1, IntKind.i64.wrap (v2.2.2.2.2.1 + (1 : Int)), List.set
 v2.2.2.2.2.2 (Int.toNat s1.1) true, (List.getD v2.2.1 (Int.toNat s1.1) ((0 : Int), [], (0 : Int), (0 : Int))).1, (List.getD v2.2.1 (Int.toNat s1.1) ((0 : Int), [], (0 : Int), (0 : Int))).2.1, (List.getD v2.2.1 (Int.toNat s1.1) ((0 : Int),
 [], (0 : Int), (0 : Int))).2.2.1, (List.getD v2.2.1 (Int.toNat s1.1) ((0 : Int), [], (0 : Int), (0 : Int))).2.2.2) else some (false, v2.2.1, v2.2.2.1, v2.2.2.2.1, IntKind.i64.wrap (v2.2.2.2.2.1 + (1 : Int)), List.set v2.2.2.2.2.2 (Int.toNat
 s1.1) true, (List.getD v2.2.1 (Int.toNat s1.1) ((0 : Int), [], (0 : Int), (0 : Int))).1, (List.getD v2.2.1 (Int.toNat s1.1) ((0 : Int), [], (0 : Int), (0 : Int))).2.1, (List.getD v2.2.1 (Int.toNat s1.1) ((0 : Int), [], (0 : Int), (0 :
 Int))).2.2.1, (List.getD v2.2.1 (Int.toNat s1.1) ((0 : Int), [], (0 : Int), (0 : Int))).2.2.2)) fun (v3 : Bool × List (Int × List (Int × Int) × Int × Int) × Bool × Bool × Int × List Bool × Int × List (Int × Int) × Int × Int) => if v3.1 =
 true then some (true, v3.2.1, v3.2.2.1, v3.2.2.2.1, v3.2.2.2.2.1, v3.2.2.2.2.2.1) else if (v3.2.2.2.2.2.2.1 == (5 : Int)) = true then some (v3.2.2.2.1, v3.2.1, v3.2.2.1, v3.2.2.2.1, v3.2.2.2.2.1, v3.2.2.2.2.2.1) else some (false, v3.2.1,
 v3.2.2.1, v3.2.2.2.1, v3.2.2.2.2.1, v3.2.2.2.2.2.1)) fun (v3 : Bool × List (Int × List (Int × Int) × Int × Int) × Bool × Bool × Int × List Bool) => if v3.1 = true then some (Sum.inl (IntKind.i64.wrap (s1.1 + (1 : Int)), v3.2.1, v3.2.2.1,
 v3.2.2.2.1, v3.2.2.2.2.1, v3.2.2.2.2.2)) else some (Sum.inl (s1.1, v3.2.1, v3.2.2.1, v3.2.2.2.1, v3.2.2.2.2.1, v3.2.2.2.2.2)) else none else none else some (Sum.inr (v2.2.1, v2.2.2.1, v2.2.2.2.1, v2.2.2.2.2.1, v2.2.2.2.2.2))) (x.1, x.2.1,
 x.2.2.1, x.2.2.2.1, x.2.2.2.2.1, x.2.2.2.2.2)) fun (v1 : List (Int × List (Int × Int) × Int × Int) × Bool × Bool × Int × List Bool) => some (v1.1, v1.2.1, v1.2.2.1, v1.2.2.2.1, v1.2.2.2.2)
theorem D.f72SE_le (n : Nat) (h : n ≤ D.fuel) {r r'} (hr : ∀ x, Le (r x) (r' x)) : ∀ x, Le (D.f72SE n r x) (D.f72S r' x) := by
  intro x
  unfold D.f72SE D.f72S
  repeat' (first | with_reducible exact Le.rfl | with_reducible exact hr _ | with_reducible apply Le.agree | with_reducible apply Le.bind | with_reducible apply Le.iter | with_reducible apply Le.ite | with_reducible apply Le.elim | intro _)
def D.f72NE (n : Nat) (k : Nat) : Int × List (Int × List (Int × Int) × Int × Int) × Bool × Bool × Int × List Bool → Option (List (Int × List (Int × Int) × Int × Int) × Bool × Bool × Int × List Bool) := Nat.rec (fun _ => none) (fun _ r =>
 D.f72SE n r) k
theorem D.f72NE_le (n : Nat) (h : n ≤ D.fuel) : ∀ k, k ≤ D.fuel → ∀ x, Le (D.f72NE n k x) (D.f72F x) := by
  suffices hh : ∀ k m, k ≤ m → ∀ x, Le (D.f72NE n k x) (D.f72N m x) from fun k hk x => hh k _ hk x
  intro k
  induction k with
  | zero => intro m _ x y hy; cases hy
  | succ k ih =>
    intro m hm x
    cases m with
    | zero => omega
    | succ m => exact D.f72SE_le n h (ih m (by omega)) x
def D.f72E (n : Nat) : Int × List (Int × List (Int × Int) × Int × Int) × Bool × Bool × Int × List Bool → Option (List (Int × List (Int × Int) × Int × Int) × Bool × Bool × Int × List Bool) := D.f72NE n n
theorem D.f72E_le (n : Nat) (h : n ≤ D.fuel) : ∀ x, Le (D.f72E n x) (D.f72F x) := fun x => D.f72NE_le n h n h x
def D.f43E (n : Nat) : List (Int × List (Int × Int) × Int × Int) × List Int × Bool × Bool → Option (List (Int × List (Int × Int) × Int × Int) × Bool × Bool × Int × List Bool) := fun (x : List (Int × List (Int × Int) × Int × Int) × List Int
 × Bool × Bool) => if (0 : Int) ≤ (x.1.length : Int) ∧ (x.1.length : Int) ≤ (x.1.length : Int) ∧ roomOk (Int.toNat (x.1.length : Int)) (1 : Nat) then Option.bind (iterE n (fun (s1 : Int × List (Int × List (Int × Int) × Int × Int) × Bool ×
 Bool × Int × List Bool) => if decide (s1.1 < (x.2.1.length : Int)) = true then if (0 : Int) ≤ s1.1 ∧ s1.1 < (x.2.1.length : Int) then Option.bind (D.f72E n (List.getD x.2.1 (Int.toNat s1.1) (0 : Int), s1.2.1, s1.2.2.1, s1.2.2.2.1,
 s1.2.2.2.2.1, s1.2.2.2.2.2)) fun v2 => some (Sum.inl (IntKind.i64.wrap (s1.1 + (1 : Int)), v2.1, v2.2.1, v2.2.2.1, v2.2.2.2.1, v2.2.2.2.2)) else none else some (Sum.inr (s1.2.1, s1.2.2.1, s1.2.2.2.1, s1.2.2.2.2.1, s1.2.2.2.2.2))) ((0 :
 Int), x.1, x.2.2.1, x.2.2.2, (0 : Int), List.replicate (Int.toNat (x.1.length : Int)) false)) fun (v1 : List (Int × List (Int × Int) × Int × Int) × Bool × Bool × Int × List Bool) => some (v1.1, v1.2.1, v1.2.2.1, v1.2.2.2.1, v1.2.2.2.2) else
 none
theorem D.f43E_le (n : Nat) (h : n ≤ D.fuel) : ∀ x, Le (D.f43E n x) (D.f43F x) := by
  intro x
  unfold D.f43E D.f43F
  repeat' (first | with_reducible exact Le.rfl | with_reducible exact D.f72E_le n h _ | with_reducible apply Le.agree | with_reducible apply Le.bind | with_reducible apply Le.iter | with_reducible apply Le.ite | with_reducible apply Le.elim | intro _)
def D.s15E (n : Nat) : List (Int × List (Int × Int) × Int × Int) × Bool × Bool × List Bool × Int → Option (List Int) := fun (x : List (Int × List (Int × Int) × Int × Int) × Bool × Bool × List Bool × Int) => Option.bind (iterE n (fun (s1 :
 Int × List Int) => if decide (s1.1 < (x.2.2.2.1.length : Int)) = true then if (0 : Int) ≤ s1.1 ∧ s1.1 < (x.2.2.2.1.length : Int) then if List.getD x.2.2.2.1 (Int.toNat s1.1) false = true then if roomOk (List.length s1.2 + (1 : Nat)) (8 :
 Nat) then some (Sum.inl (IntKind.i64.wrap (s1.1 + (1 : Int)), s1.2 ++ [s1.1])) else none else some (Sum.inl (IntKind.i64.wrap (s1.1 + (1 : Int)), s1.2)) else none else some (Sum.inr s1.2)) ((0 : Int), [])) fun (v1 : List Int) => some v1
theorem D.s15E_le (n : Nat) (h : n ≤ D.fuel) : ∀ x, Le (D.s15E n x) (D.s15F x) := by
  intro x
  unfold D.s15E D.s15F
  repeat' (first | with_reducible exact Le.rfl | with_reducible apply Le.agree | with_reducible apply Le.bind | with_reducible apply Le.iter | with_reducible apply Le.ite | with_reducible apply Le.elim | intro _)
def D.f17E (n : Nat) : List (Int × List (Int × Int) × Int × Int) × List Int × Bool × Bool → Option (List Int) := fun (x : List (Int × List (Int × Int) × Int × Int) × List Int × Bool × Bool) => Option.bind (D.f42E n x.1) fun v1 => if (!v1) =
 true then some [] else Option.bind (D.f43E n (x.1, x.2.1, x.2.2.1, x.2.2.2)) fun v2 => Option.bind (D.s15E n (v2.1, v2.2.1, v2.2.2.1, v2.2.2.2.2, v2.2.2.2.1)) fun v3 => some v3
theorem D.f17E_le (n : Nat) (h : n ≤ D.fuel) : ∀ x, Le (D.f17E n x) (D.f17F x) := by
  intro x
  unfold D.f17E D.f17F
  repeat' (first | with_reducible exact Le.rfl | with_reducible exact D.f42E_le n h _ | with_reducible exact D.f43E_le n h _ | with_reducible exact D.s15E_le n h _ | with_reducible apply Le.agree | with_reducible apply Le.bind | with_reducible apply Le.iter | with_reducible apply Le.ite | with_reducible apply Le.elim | intro _)
def D.f83E (n : Nat) : (List (Int × List (Int × Int) × Int × Int) × Int × List (List Int × Bool × List (Int × Int)) × Int) × (List Int × Bool × List (Int × Int)) × Bool → Option (List Int) := fun (x : (List (Int × List (Int × Int) × Int ×
 Int) × Int × List (List Int × Bool × List (Int × Int)) × Int) × (List Int × Bool × List (Int × Int)) × Bool) => Option.bind (D.f17E n (x.1.1, x.2.1.1, x.2.1.2.1, x.2.2)) fun v1 => some v1
theorem D.f83E_le (n : Nat) (h : n ≤ D.fuel) : ∀ x, Le (D.f83E n x) (D.f83F x) := by
  intro x
  unfold D.f83E D.f83F
  repeat' (first | with_reducible exact Le.rfl | with_reducible exact D.f17E_le n h _ | with_reducible apply Le.agree | with_reducible apply Le.bind | with_reducible apply Le.iter | with_reducible apply Le.ite | with_reducible apply Le.elim | intro _)
def D.f99E (n : Nat) : (Int × Int) × Int → Option (Bool × Int) := fun (x : (Int × Int) × Int) => if decide (x.1.1 ≤ x.2) = true then some (decide (x.2 ≤ x.1.2), x.2) else some (false, x.2)
theorem D.f99E_le (n : Nat) (h : n ≤ D.fuel) : ∀ x, Le (D.f99E n x) (D.f99F x) := by
  intro x
  unfold D.f99E D.f99F
  repeat' (first | with_reducible exact Le.rfl | with_reducible apply Le.agree | with_reducible apply Le.bind | with_reducible apply Le.iter | with_reducible apply Le.ite | with_reducible apply Le.elim | intro _)
def D.s2E (n : Nat) : List (Int × Int) × Int → Option (Int × Int) := fun (x : List (Int × Int) × Int) => Option.bind (iterE n (fun (s1 : Int × Int) => if decide (s1.1 < (x.1.length : Int)) = true then if (0 : Int) ≤ s1.1 ∧ s1.1 <
 (x.1.length : Int) then Option.bind (D.f99E n (List.getD x.1 (Int.toNat s1.1) ((0 : Int), (0 : Int)), s1.2)) fun v2 => if v2.1 = true then some (Sum.inr (Sum.inr (s1.1, v2.2))) else some (Sum.inl (IntKind.i64.wrap (s1.1 + (1 : Int)), v2.2))
 else none else some (Sum.inr (Sum.inl s1.2))) ((0 : Int), x.2)) fun v1 => Sum.elim (fun (p2 : Int) => some ((-1 : Int), p2)) (fun (q2 : Int × Int) => some (q2.1, q2.2)) v1
theorem D.s2E_le (n : Nat) (h : n ≤ D.fuel) : ∀ x, Le (D.s2E n x) (D.s2F x) := by
  intro x
  unfold D.s2E D.s2F
  repeat' (first | with_reducible exact Le.rfl | with_reducible exact D.f99E_le n h _ | with_reducible apply Le.agree | with_reducible apply Le.bind | with_reducible apply Le.iter | with_reducible apply Le.ite | with_reducible apply Le.elim | intro _)
def D.s3E (n : Nat) : List (Int × Int) × Int → Option (Bool × Int) := fun (x : List (Int × Int) × Int) => Option.bind (D.s2E n (x.1, x.2)) fun v1 => some (decide (v1.1 ≥ (0 : Int)), v1.2)
theorem D.s3E_le (n : Nat) (h : n ≤ D.fuel) : ∀ x, Le (D.s3E n x) (D.s3F x) := by
  intro x
  unfold D.s3E D.s3F
  repeat' (first | with_reducible exact Le.rfl | with_reducible exact D.s2E_le n h _ | with_reducible apply Le.agree | with_reducible apply Le.bind | with_reducible apply Le.iter | with_reducible apply Le.ite | with_reducible apply Le.elim | intro _)
def D.f73E (n : Nat) : List (Int × Int) × Int → Option (Bool) := fun (x : List (Int × Int) × Int) => Option.bind (D.s3E n (x.1, x.2)) fun v1 => some v1.1
theorem D.f73E_le (n : Nat) (h : n ≤ D.fuel) : ∀ x, Le (D.f73E n x) (D.f73F x) := by
  intro x
  unfold D.f73E D.f73F
  repeat' (first | with_reducible exact Le.rfl | with_reducible exact D.s3E_le n h _ | with_reducible apply Le.agree | with_reducible apply Le.bind | with_reducible apply Le.iter | with_reducible apply Le.ite | with_reducible apply Le.elim | intro _)
def D.f119E (n : Nat) : Int → Option (Int) := fun (x : Int) => Option.bind (if decide (x ≥ (4294967296 : Int)) = true then some (Int.fdiv x ((2 : Int) ^ Min.min (Int.toNat (32 : Int)) (IntKind.bits IntKind.u64)), (32 : Int)) else some (x,
 (0 : Int))) fun v1 => Option.bind (if decide (v1.1 ≥ (65536 : Int)) = true then some (Int.fdiv v1.1 ((2 : Int) ^ Min.min (Int.toNat (16 : Int)) (IntKind.bits IntKind.u64)), IntKind.i64.wrap (v1.2 + (16 : Int))) else some (v1.1, v1.2)) fun
 v2 => Option.bind (if decide (v2.1 ≥ (256 : Int)) = true then some (Int.fdiv v2.1 ((2 : Int) ^ Min.min (Int.toNat (8 : Int)) (IntKind.bits IntKind.u64)), IntKind.i64.wrap (v2.2 + (8 : Int))) else some (v2.1, v2.2)) fun v3 => if (0 : Int) ≤
 IntKind.wrap IntKind.u8 v3.1 ∧ IntKind.wrap IntKind.u8 v3.1 < (↑(ByteArray.size { data := List.toArray (List.append (List.append [(0 : UInt8), (1 : UInt8), (2 : UInt8), (2 : UInt8), (3 : UInt8), (3 : UInt8), (3 : UInt8), (3 : UInt8), (4 :
 UInt8), (4 : UInt8), (4 : UInt8), (4 : UInt8), (4 : UInt8), (4 : UInt8), (4 : UInt8), (4 : UInt8), (5 : UInt8), (5 : UInt8), (5 : UInt8), (5 : UInt8), (5 : UInt8), (5 : UInt8), (5 : UInt8), (5 : UInt8), (5 : UInt8), (5 : UInt8), (5 :
 UInt8), (5 : UInt8), (5 : UInt8), (5 : UInt8), (5 : UInt8), (5 : UInt8), (6 : UInt8), (6 : UInt8), (6 : UInt8), (6 : UInt8), (6 : UInt8), (6 : UInt8), (6 : UInt8), (6 : UInt8), (6 : UInt8), (6 : UInt8), (6 : UInt8), (6 : UInt8), (6 :
 UInt8), (6 : UInt8), (6 : UInt8), (6 : UInt8), (6 : UInt8), (6 : UInt8), (6 : UInt8), (6 : UInt8), (6 : UInt8), (6 : UInt8), (6 : UInt8), (6 : UInt8), (6 : UInt8), (6 : UInt8), (6 : UInt8), (6 : UInt8), (6 : UInt8), (6 : UInt8), (6 :
 UInt8), (6 : UInt8)] [(7 : UInt8), (7 : UInt8), (7 : UInt8), (7 : UInt8), (7 : UInt8), (7 : UInt8), (7 : UInt8), (7 : UInt8), (7 : UInt8), (7 : UInt8), (7 : UInt8), (7 : UInt8), (7 : UInt8), (7 : UInt8), (7 : UInt8), (7 : UInt8), (7 :
 UInt8), (7 : UInt8), (7 : UInt8), (7 : UInt8), (7 : UInt8), (7 : UInt8), (7 : UInt8), (7 : UInt8), (7 : UInt8), (7 : UInt8), (7 : UInt8), (7 : UInt8), (7 : UInt8), (7 : UInt8), (7 : UInt8), (7 : UInt8), (7 : UInt8), (7 : UInt8), (7 :
 UInt8), (7 : UInt8), (7 : UInt8), (7 : UInt8), (7 : UInt8), (7 : UInt8), (7 : UInt8), (7 : UInt8), (7 : UInt8), (7 : UInt8), (7 : UInt8), (7 : UInt8), (7 : UInt8), (7 : UInt8), (7 : UInt8), (7 : UInt8), (7 : UInt8), (7 : UInt8), (7 :
 UInt8), (7 : UInt8), (7 : UInt8), (7 : UInt8), (7 : UInt8), (7 : UInt8), (7 : UInt8), (7 : UInt8), (7 : UInt8), (7 : UInt8), (7 : UInt8), (7 : UInt8)]) (List.append [(8 : UInt8), (8 : UInt8), (8 : UInt8), (8 : UInt8), (8 : UInt8), (8 :
 UInt8), (8 : UInt8), (8 : UInt8), (8 : UInt8), (8 : UInt8), (8 : UInt8), (8 : UInt8), (8 : UInt8), (8 : UInt8), (8 : UInt8), (8 : UInt8), (8 : UInt8), (8 : UInt8), (8 : UInt8), (8 : UInt8), (8 : UInt8), (8 : UInt8), (8 : UInt8), (8 :
 UInt8), (8 : UInt8), (8 : UInt8), (8 : UInt8), (8 : UInt8), (8 : UInt8), (8 : UInt8), (8 : UInt8), (8 : UInt8), (8 : UInt8), (8 : UInt8), (8 : UInt8), (8 : UInt8), (8 : UInt8), (8 : UInt8), (8 : UInt8), (8 : UInt8), (8 : UInt8), (8 :
 UInt8), (8 : UInt8), (8 : UInt8), (8 : UInt8), (8 : UInt8), (8 : UInt8), (8 : UInt8), (8 : UInt8), (8 : UInt8), (8 : UInt8), (8 : UInt8), (8 : UInt8), (8 : UInt8), (8 : UInt8), (8 : UInt8), (8 : UInt8), (8 : UInt8), (8 : UInt8), (8 :
 UInt8), (8 : UInt8), (8 : UInt8), (8 : UInt8), (8 : UInt8)] [(8 : UInt8), (8 : UInt8), (8 : UInt8), (8 : UInt8), (8 : UInt8), (8 : UInt8), (8 : UInt8), (8 : UInt8), (8 : UInt8), (8 : UInt8), (8 : UInt8), (8 : UInt8), (8 : UInt8), (8 :
 UInt8), (8 : UInt8), (8 : UInt8), (8 : UInt8), (8 : UInt8), (8 : UInt8), (8 : UInt8), (8 : UInt8), (8 : UInt8), (8 : UInt8), (8 : UInt8), (8 : UInt8), (8 : UInt8), (8 : UInt8), (8 : UInt8), (8 : UInt8), (8 : UInt8), (8 : UInt8), (8 :
 UInt8), (8 : UInt8), (8 : UInt8), (8 : UInt8), (8 : UInt8), (8 : UInt8), (8 : UInt8), (8 : UInt8), (8 : UInt8), (8 : UInt8), (8 : UInt8), (8 : UInt8), (8 : UInt8), (8 : UInt8), (8 : UInt8), (8 : UInt8), (8 : UInt8), (8 : UInt8), (8 :
 UInt8), (8 : UInt8), (8 : UInt8), (8 : UInt8), (8 : UInt8), (8 : UInt8), (8 : UInt8), (8 : UInt8), (8 : UInt8), (8 : UInt8), (8 : UInt8), (8 : UInt8), (8 : UInt8), (8 : UInt8), (8 : UInt8)])) : ByteArray }) : Int) then some
 (IntKind.i64.wrap (v3.2 + IntKind.i64.wrap (↑(UInt8.toNat (List.getD { data := List.toArray (List.append (List.append [(0 : UInt8), (1 : UInt8), (2 : UInt8), (2 : UInt8), (3 : UInt8), (3 : UInt8), (3 : UInt8), (3 : UInt8), (4 : UInt8), (4 :
 UInt8), (4 : UInt8), (4 : UInt8), (4 : UInt8), (4 : UInt8), (4 : UInt8), (4 : UInt8), (5 : UInt8), (5 : UInt8), (5 : UInt8), (5 : UInt8), (5 : UInt8), (5 : UInt8), (5 : UInt8), (5 : UInt8), (5 : UInt8), (5 : UInt8), (5 : UInt8), (5 :
 UInt8), (5 : UInt8), (5 : UInt8), (5 : UInt8), (5 : UInt8), (6 : UInt8), (6 : UInt8), (6 : UInt8), (6 : UInt8), (6 : UInt8), (6 : UInt8), (6 : UInt8), (6 : UInt8), (6 : UInt8), (6 : UInt8), (6 : UInt8), (6 : UInt8), (6 : UInt8), (6 :
 UInt8), (6 : UInt8), (6 : UInt8), (6 : UInt8), (6 : UInt8), (6 : UInt8), (6 : UInt8), (6 : UInt8), (6 : UInt8), (6 : UInt8), (6 : UInt8), (6 : UInt8), (6 : UInt8), (6 : UInt8), (6 : UInt8), (6 : UInt8), (6 : UInt8), (6 : UInt8), (6 :
 UInt8)] [(7 : UInt8), (7 : UInt8), (7 : UInt8), (7 : UInt8), (7 : UInt8), (7 : UInt8), (7 : UInt8), (7 : UInt8), (7 : UInt8), (7 : UInt8), (7 : UInt8), (7 : UInt8), (7 : UInt8), (7 : UInt8), (7 : UInt8), (7 : UInt8), (7 : UInt8), (7 :
 UInt8), (7 : UInt8), (7 : UInt8), (7 : UInt8), (7 : UInt8), (7 : UInt8), (7 : UInt8), (7 : UInt8), (7 : UInt8), (7 : UInt8), (7 : UInt8), (7 : UInt8), (7 : UInt8), (7 : UInt8), (7 : UInt8), (7 : UInt8), (7 : UInt8), (7 : UInt8), (7 :
 UInt8), (7 : UInt8), (7 : UInt8), (7 : UInt8), (7 : UInt8), (7 : UInt8), (7 : UInt8), (7 : UInt8), (7 : UInt8), (7 : UInt8), (7 : UInt8), (7 : UInt8), (7 : UInt8), (7 : UInt8), (7 : UInt8), (7 : UInt8), (7 : UInt8), (7 : UInt8), (7 :
 UInt8), (7 : UInt8), (7 : UInt8), (7 : UInt8), (7 : UInt8), (7 : UInt8), (7 : UInt8), (7 : UInt8), (7 : UInt8), (7 : UInt8), (7 : UInt8)]) (List.append [(8 : UInt8), (8 : UInt8), (8 : UInt8), (8 : UInt8), (8 : UInt8), (8 : UInt8), (8 :
 UInt8), (8 : UInt8), (8 : UInt8), (8 : UInt8), (8 : UInt8), (8 : UInt8), (8 : UInt8), (8 : UInt8), (8 : UInt8), (8 : UInt8), (8 : UInt8), (8 : UInt8), (8 : UInt8), (8 : UInt8), (8 : UInt8), (8 : UInt8), (8 : UInt8), (8 : UInt8), (8 :
 UInt8), (8 : UInt8), (8 : UInt8), (8 : UInt8), (8 : UInt8), (8 : UInt8), (8 : UInt8), (8 : UInt8), (8 : UInt8), (8 : UInt8), (8 : UInt8), (8 : UInt8), (8 : UInt8), (8 : UInt8), (8 : UInt8), (8 : UInt8), (8 : UInt8), (8 : UInt8), (8 :
 UInt8), (8 : UInt8), (8 : UInt8), (8 : UInt8), (8 : UInt8), (8 : UInt8), (8 : UInt8), (8 : UInt8), (8 : UInt8), (8 : UInt8), (8 : UInt8), (8 : UInt8), (8 : UInt8), (8 : UInt8), (8 : UInt8), (8 : UInt8), (8 : UInt8), (8 : UInt8), (8 :
 UInt8), (8 : UInt8), (8 : UInt8), (8 : UInt8)] [(8 : UInt8), (8 : UInt8), (8 : UInt8), (8 : UInt8), (8 : UInt8), (8 : UInt8), (8 : UInt8), (8 : UInt8), (8 : UInt8), (8 : UInt8), (8 : UInt8), (8 : UInt8), (8 : UInt8), (8 : UInt8), (8 :
 UInt8), (8 : UInt8), (8 : UInt8), (8 : UInt8), (8 : UInt8), (8 : UInt8), (8 : UInt8), (8 : UInt8), (8 : UInt8), (8 : UInt8), (8 : UInt8), (8 : UInt8), (8 : UInt8), (8 : UInt8), (8 : UInt8), (8 : UInt8), (8 : UInt8), (8 : UInt8), (8 :
 UInt8), (8 : UInt8), (8 : UInt8), (8 : UInt8), (8 : UInt8), (8 : UInt8), (8 : UInt8), (8 : UInt8), (8 : UInt8), (8 : UInt8), (8 : UInt8), (8 : UInt8), (8 : UInt8), (8 : UInt8), (8 : UInt8), (8 : UInt8), (8 : UInt8), (8 : UInt8), (8 :
 UInt8), (8 : UInt8), (8 : UInt8), (8 : UInt8), (8 : UInt8), (8 : UInt8), (8 : UInt8), (8 : UInt8), (8 : UInt8), (8 : UInt8), (8 : UInt8), (8 : UInt8), (8 : UInt8), (8 : UInt8)])) : ByteArray }.data.toList (Int.toNat (IntKind.wrap IntKind.u8
 v3.1)) (0 : UInt8))) : Int))) else none
theorem D.f119E_le (n : Nat) (h : n ≤ D.fuel) : ∀ x, Le (D.f119E n x) (D.f119F x) := by
  intro x
  unfold D.f119E D.f119F
  repeat' (first | with_reducible exact Le.rfl | with_reducible apply Le.agree | with_reducible apply Le.bind | with_reducible apply Le.iter | with_reducible apply Le.ite | with_reducible apply Le.elim | intro _)
def D.f101E (n : Nat) : Int → Option (Int) := fun (x : Int) => Option.bind (D.f119E n x) fun v1 => some v1
theorem D.f101E_le (n : Nat) (h : n ≤ D.fuel) : ∀ x, Le (D.f101E n x) (D.f101F x) := by
  intro x
  unfold D.f101E D.f101F
  repeat' (first | with_reducible exact Le.rfl | with_reducible exact D.f119E_le n h _ | with_reducible apply Le.agree | with_reducible apply Le.bind | with_reducible apply Le.iter | with_reducible apply Le.ite | with_reducible apply Le.elim | intro _)
def D.f110E (n : Nat) : Int × Int × List Int → Option (List Int) := fun (x : Int × Int × List Int) => Option.bind (iterE n (fun (s1 : Int × List Int) => if decide (s1.1 < x.2.1) = true then Option.bind (iterE n (fun (s2 : Int × List Int) =>
 Option.bind (if decide (s2.1 > x.1) = true then if (0 : Int) ≤ s2.1 ∧ s2.1 < (s2.2.length : Int) then if (0 : Int) ≤ IntKind.i64.wrap (s2.1 - (1 : Int)) ∧ IntKind.i64.wrap (s2.1 - (1 : Int)) < (s2.2.length : Int) then Option.bind (D.f105E n
 (List.getD s2.2 (Int.toNat s2.1) (0 : Int), List.getD s2.2 (Int.toNat (IntKind.i64.wrap (s2.1 - (1 : Int)))) (0 : Int))) fun v3 => some (v3, s2.2) else none else none else some (false, s2.2)) fun (v3 : Bool × List Int) => if v3.1 = true
 then if (0 : Int) ≤ IntKind.i64.wrap (s2.1 - (1 : Int)) ∧ IntKind.i64.wrap (s2.1 - (1 : Int)) < (v3.2.length : Int) then if (0 : Int) ≤ s2.1 ∧ s2.1 < (v3.2.length : Int) then if (0 : Int) ≤ s2.1 ∧ s2.1 < (v3.2.length : Int) then if (0 :
 Int) ≤ IntKind.i64.wrap (s2.1 - (1 : Int)) ∧ IntKind.i64.wrap (s2.1 - (1 : Int)) < (↑(List.length (List.set v3.2 (Int.toNat s2.1) (List.getD v3.2 (Int.toNat (IntKind.i64.wrap (s2.1 - (1 : Int)))) (0 : Int)))) : Int) then some (Sum.inl
 (IntKind.i64.wrap (s2.1 - (1 : Int)), List.set (List.set v3.2 (Int.toNat s2.1) (List.getD v3.2 (Int.toNat (IntKind.i64.wrap (s2.1 - (1 : Int)))) (0 : Int))) (Int.toNat (IntKind.i64.wrap (s2.1 - (1 : Int)))) (List.getD v3.2 (Int.toNat s2.1)
 (0 : Int)))) else none else none else none else none else some (Sum.inr v3.2)) (s1.1, s1.2)) fun (v2 : List Int) => some (Sum.inl (IntKind.i64.wrap (s1.1 + (1 : Int)), v2)) else some (Sum.inr s1.2)) (IntKind.i64.wrap (x.1 + (1 : Int)),
 x.2.2)) fun (v1 : List Int) => some v1
theorem D.f110E_le (n : Nat) (h : n ≤ D.fuel) : ∀ x, Le (D.f110E n x) (D.f110F x) := by
  intro x
  unfold D.f110E D.f110F
  repeat' (first | with_reducible exact Le.rfl | with_reducible exact D.f105E_le n h _ | with_reducible apply Le.agree | with_reducible apply Le.bind | with_reducible apply Le.iter | with_reducible apply Le.ite | with_reducible apply Le.elim | intro _)
def D.f121E (n : Nat) : Int × Int × Int × List Int → Option (List Int) := fun (x : Int × Int × Int × List Int) => Option.bind (iterE n (fun (s1 : Int × List Int) => if decide (IntKind.i64.wrap (IntKind.i64.wrap ((2 : Int) * s1.1) + (1 :
 Int)) ≥ x.2.1) = true then some (Sum.inr (Sum.inl s1.2)) else Option.bind (Option.bind (if decide (IntKind.i64.wrap (IntKind.i64.wrap (IntKind.i64.wrap ((2 : Int) * s1.1) + (1 : Int)) + (1 : Int)) < x.2.1) = true then if (0 : Int) ≤
 IntKind.i64.wrap (x.2.2.1 + IntKind.i64.wrap (IntKind.i64.wrap ((2 : Int) * s1.1) + (1 : Int))) ∧ IntKind.i64.wrap (x.2.2.1 + IntKind.i64.wrap (IntKind.i64.wrap ((2 : Int) * s1.1) + (1 : Int))) < (s1.2.length : Int) then if (0 : Int) ≤
 IntKind.i64.wrap (IntKind.i64.wrap (x.2.2.1 + IntKind.i64.wrap (IntKind.i64.wrap ((2 : Int) * s1.1) + (1 : Int))) + (1 : Int)) ∧ IntKind.i64.wrap (IntKind.i64.wrap (x.2.2.1 + IntKind.i64.wrap (IntKind.i64.wrap ((2 : Int) * s1.1) + (1 :
 Int))) + (1 : Int)) < (s1.2.length : Int) then Option.bind (D.f105E n (List.getD s1.2 (Int.toNat (IntKind.i64.wrap (x.2.2.1 + IntKind.i64.wrap (IntKind.i64.wrap ((2 : Int) * s1.1) + (1 : Int))))) (0 : Int), List.getD s1.2 (Int.toNat
 (IntKind.i64.wrap (IntKind.i64.wrap (x.2.2.1 + IntKind.i64.wrap (IntKind.i64.wrap ((2 : Int) * s1.1) + (1 : Int))) + (1 : Int)))) (0 : Int))) fun v2 => some (v2, s1.2) else none else none else some (false, s1.2)) fun (v2 : Bool × List Int)
 => if v2.1 = true then some (IntKind.i64.wrap (IntKind.i64.wrap (IntKind.i64.wrap ((2 : Int) * s1.1) + (1 : Int)) + (1 : Int)), v2.2) else some (IntKind.i64.wrap (IntKind.i64.wrap ((2 : Int) * s1.1) + (1 : Int)), v2.2)) fun (v2 : Int × List
 Int) => if (0 : Int) ≤ IntKind.i64.wrap (x.2.2.1 + s1.1) ∧ IntKind.i64.wrap (x.2.2.1 + s1.1) < (v2.2.length : Int) then if (0 : Int) ≤ IntKind.i64.wrap (x.2.2.1 + v2.1) ∧ IntKind.i64.wrap (x.2.2.1 + v2.1) < (v2.2.length : Int) then
 Option.bind (D.f105E n (List.getD v2.2 (Int.toNat (IntKind.i64.wrap (x.2.2.1 + s1.1))) (0 : Int), List.getD v2.2 (Int.toNat (IntKind.i64.wrap (x.2.2.1 + v2.1))) (0 : Int))) fun v3 => if (!v3) = true then some (Sum.inr (Sum.inr v2.2)) else
 if (0 : Int) ≤ IntKind.i64.wrap (x.2.2.1 + v2.1) ∧ IntKind.i64.wrap (x.2.2.1 + v2.1) < (v2.2.length : Int) then if (0 : Int) ≤ IntKind.i64.wrap (x.2.2.1 + s1.1) ∧ IntKind.i64.wrap (x.2.2.1 + s1.1) < (v2.2.length : Int) then if (0 : Int) ≤
 IntKind.i64.wrap (x.2.2.1 + s1.1) ∧ IntKind.i64.wrap (x.2.2.1 + s1.1) < (v2.2.length : Int) then if (0 : Int) ≤ IntKind.i64.wrap (x.2.2.1 + v2.1) ∧ IntKind.i64.wrap (x.2.2.1 + v2.1) < (↑(List.length (List.set v2.2 (Int.toNat
 (IntKind.i64.wrap (x.2.2.1 + s1.1))) (List.getD v2.2 (Int.toNat (IntKind.i64.wrap (x.2.2.1 + v2.1))) (0 : Int)))) : Int) then some (Sum.inl (v2.1, List.set (List.set v2.2 (Int.toNat (IntKind.i64.wrap (x.2.2.1 + s1.1))) (List.getD v2.2
 (Int.toNat (IntKind.i64.wrap (x.2.2.1 + v2.1))) (0 : Int))) (Int.toNat (IntKind.i64.wrap (x.2.2.1 + v2.1))) (List.getD v2.2 (Int.toNat (IntKind.i64.wrap (x.2.2.1 + s1.1))) (0 : Int)))) else none else none else none else none else none else
 none) (x.1, x.2.2.2)) fun (v1 : List Int ⊕ List Int) => Sum.elim (fun (p2 : List Int) => some p2) (fun (q2 : List Int) => some q2) v1
theorem D.f121E_le (n : Nat) (h : n ≤ D.fuel) : ∀ x, Le (D.f121E n x) (D.f121F x) := by
  intro x
  unfold D.f121E D.f121F
  repeat' (first | with_reducible exact Le.rfl | with_reducible exact D.f105E_le n h _ | with_reducible apply Le.agree | with_reducible apply Le.bind | with_reducible apply Le.iter | with_reducible apply Le.ite | with_reducible apply Le.elim | intro _)
def D.f111E (n : Nat) : Int × Int × List Int → Option (List Int) := fun (x : Int × Int × List Int) => Option.bind (iterE n (fun (s1 : Int × List Int) => if decide (s1.1 ≥ (0 : Int)) = true then Option.bind (D.f121E n (s1.1, IntKind.i64.wrap
 (x.2.1 - x.1), x.1, s1.2)) fun v2 => some (Sum.inl (IntKind.i64.wrap (s1.1 - (1 : Int)), v2)) else some (Sum.inr s1.2)) (IntKind.i64.wrap (Int.tdiv (IntKind.i64.wrap (IntKind.i64.wrap (x.2.1 - x.1) - (1 : Int))) (2 : Int)), x.2.2)) fun (v1
 : List Int) => Option.bind (iterE n (fun (s2 : Int × List Int) => if decide (s2.1 ≥ (0 : Int)) = true then if (0 : Int) ≤ IntKind.i64.wrap (x.1 + s2.1) ∧ IntKind.i64.wrap (x.1 + s2.1) < (s2.2.length : Int) then if (0 : Int) ≤ x.1 ∧ x.1 <
 (s2.2.length : Int) then if (0 : Int) ≤ x.1 ∧ x.1 < (s2.2.length : Int) then if (0 : Int) ≤ IntKind.i64.wrap (x.1 + s2.1) ∧ IntKind.i64.wrap (x.1 + s2.1) < (↑(List.length (List.set s2.2 (Int.toNat x.1) (List.getD s2.2 (Int.toNat
 (IntKind.i64.wrap (x.1 + s2.1))) (0 : Int)))) : Int) then Option.bind (D.f121E n ((0 : Int), s2.1, x.1, List.set (List.set s2.2 (Int.toNat x.1) (List.getD s2.2 (Int.toNat (IntKind.i64.wrap (x.1 + s2.1))) (0 : Int))) (Int.toNat
 (IntKind.i64.wrap (x.1 + s2.1))) (List.getD s2.2 (Int.toNat x.1) (0 : Int)))) fun v3 => some (Sum.inl (IntKind.i64.wrap (s2.1 - (1 : Int)), v3)) else none else none else none else none else some (Sum.inr s2.2)) (IntKind.i64.wrap
 (IntKind.i64.wrap (x.2.1 - x.1) - (1 : Int)), v1)) fun (v2 : List Int) => some v2
theorem D.f111E_le (n : Nat) (h : n ≤ D.fuel) : ∀ x, Le (D.f111E n x) (D.f111F x) := by
  intro x
  unfold D.f111E D.f111F
  repeat' (first | with_reducible exact Le.rfl | with_reducible exact D.f121E_le n h _ | with_reducible apply Le.agree | with_reducible apply Le.bind | with_reducible apply Le.iter | with_reducible apply Le.ite | with_reducible apply Le.elim | intro _)
def D.f122E (n : Nat) : Int → Option (Int) := fun (x : Int) => Option.bind (D.f101E n (IntKind.wrap IntKind.u64 x)) fun v1 => if v1 < (0 : Int) then none else some (IntKind.wrap IntKind.u64 ((1 : Int) * (2 : Int) ^ Min.min (Int.toNat v1)
 (IntKind.bits IntKind.u64)))
theorem D.f122E_le (n : Nat) (h : n ≤ D.fuel) : ∀ x, Le (D.f122E n x) (D.f122F x) := by
  intro x
  unfold D.f122E D.f122F
  repeat' (first | with_reducible exact Le.rfl | with_reducible exact D.f101E_le n h _ | with_reducible apply Le.agree | with_reducible apply Le.bind | with_reducible apply Le.iter | with_reducible apply Le.ite | with_reducible apply Le.elim | intro _)
def D.f123E (n : Nat) : Int → Option (Int × Int) := fun (x : Int) => some (IntKind.wrap IntKind.u64 (↑(BitVec.toNat (BitVec.ofInt (IntKind.bits IntKind.u64) (IntKind.wrap IntKind.u64 (↑(BitVec.toNat (BitVec.ofInt (IntKind.bits IntKind.u64)
 (IntKind.wrap IntKind.u64 (↑(BitVec.toNat (BitVec.ofInt (IntKind.bits IntKind.u64) x ^^^ BitVec.ofInt (IntKind.bits IntKind.u64) (IntKind.wrap IntKind.u64 (x * (2 : Int) ^ Min.min (Int.toNat (13 : Int)) (IntKind.bits IntKind.u64))))) :
 Int)) ^^^ BitVec.ofInt (IntKind.bits IntKind.u64) (Int.fdiv (IntKind.wrap IntKind.u64 (↑(BitVec.toNat (BitVec.ofInt (IntKind.bits IntKind.u64) x ^^^ BitVec.ofInt (IntKind.bits IntKind.u64) (IntKind.wrap IntKind.u64 (x * (2 : Int) ^ Min.min
 (Int.toNat (13 : Int)) (IntKind.bits IntKind.u64))))) : Int)) ((2 : Int) ^ Min.min (Int.toNat (7 : Int)) (IntKind.bits IntKind.u64))))) : Int)) ^^^ BitVec.ofInt (IntKind.bits IntKind.u64) (IntKind.wrap IntKind.u64 (IntKind.wrap IntKind.u64
 (↑(BitVec.toNat (BitVec.ofInt (IntKind.bits IntKind.u64) (IntKind.wrap IntKind.u64 (↑(BitVec.toNat (BitVec.ofInt (IntKind.bits IntKind.u64) x ^^^ BitVec.ofInt (IntKind.bits IntKind.u64) (IntKind.wrap IntKind.u64 (x * (2 : Int) ^ Min.min
 (Int.toNat (13 : Int)) (IntKind.bits IntKind.u64))))) : Int)) ^^^ BitVec.ofInt (IntKind.bits IntKind.u64) (Int.fdiv (IntKind.wrap IntKind.u64 (↑(BitVec.toNat (BitVec.ofInt (IntKind.bits IntKind.u64) x ^^^ BitVec.ofInt (IntKind.bits
 IntKind.u64) (IntKind.wrap IntKind.u64 (x * (2 : Int) ^ Min.min (Int.toNat (13 : Int)) (IntKind.bits IntKind.u64))))) : Int)) ((2 : Int) ^ Min.min (Int.toNat (7 : Int)) (IntKind.bits IntKind.u64))))) : Int) * (2 : Int) ^ Min.min (Int.toNat
 (17 : Int)) (IntKind.bits IntKind.u64))))) : Int), IntKind.wrap IntKind.u64 (↑(BitVec.toNat (BitVec.ofInt (IntKind.bits IntKind.u64) (IntKind.wrap IntKind.u64 (↑(BitVec.toNat (BitVec.ofInt (IntKind.bits IntKind.u64) (IntKind.wrap
 IntKind.u64 (↑(BitVec.toNat (BitVec.ofInt (IntKind.bits IntKind.u64) x ^^^ BitVec.ofInt (IntKind.bits IntKind.u64) (IntKind.wrap IntKind.u64 (x * (2 : Int) ^ Min.min (Int.toNat (13 : Int)) (IntKind.bits IntKind.u64))))) : Int)) ^^^
 BitVec.ofInt (IntKind.bits IntKind.u64) (Int.fdiv (IntKind.wrap IntKind.u64 (↑(BitVec.toNat (BitVec.ofInt (IntKind.bits IntKind.u64) x ^^^ BitVec.ofInt (IntKind.bits IntKind.u64) (IntKind.wrap IntKind.u64 (x * (2 : Int) ^ Min.min (Int.toNat
 (13 : Int)) (IntKind.bits IntKind.u64))))) : Int)) ((2 : Int) ^ Min.min (Int.toNat (7 : Int)) (IntKind.bits IntKind.u64))))) : Int)) ^^^ BitVec.ofInt (IntKind.bits IntKind.u64) (IntKind.wrap IntKind.u64 (IntKind.wrap IntKind.u64
 (↑(BitVec.toNat (BitVec.ofInt (IntKind.bits IntKind.u64) (IntKind.wrap IntKind.u64 (↑(BitVec.toNat (BitVec.ofInt (IntKind.bits IntKind.u64) x ^^^ BitVec.ofInt (IntKind.bits IntKind.u64) (IntKind.wrap IntKind.u64 (x * (2 : Int) ^ Min.min
 (Int.toNat (13 : Int)) (IntKind.bits IntKind.u64))))) : Int)) ^^^ BitVec.ofInt (IntKind.bits IntKind.u64) (Int.fdiv (IntKind.wrap IntKind.u64 (↑(BitVec.toNat (BitVec.ofInt (IntKind.bits IntKind.u64) x ^^^ BitVec.ofInt (IntKind.bits
 IntKind.u64) (IntKind.wrap IntKind.u64 (x * (2 : Int) ^ Min.min (Int.toNat (13 : Int)) (IntKind.bits IntKind.u64))))) : Int)) ((2 : Int) ^ Min.min (Int.toNat (7 : Int)) (IntKind.bits IntKind.u64))))) : Int) * (2 : Int) ^ Min.min (Int.toNat
 (17 : Int)) (IntKind.bits IntKind.u64))))) : Int))
theorem D.f123E_le (n : Nat) (h : n ≤ D.fuel) : ∀ x, Le (D.f123E n x) (D.f123F x) := by
  intro x
  unfold D.f123E D.f123F
  repeat' (first | with_reducible exact Le.rfl | with_reducible apply Le.agree | with_reducible apply Le.bind | with_reducible apply Le.iter | with_reducible apply Le.ite | with_reducible apply Le.elim | intro _)
def D.f112E (n : Nat) : Int × Int × List Int → Option (List Int) := fun (x : Int × Int × List Int) => if decide (IntKind.i64.wrap (x.2.1 - x.1) ≥ (8 : Int)) = true then Option.bind (D.f122E n (IntKind.i64.wrap (x.2.1 - x.1))) fun v1 =>
 Option.bind (iterE n (fun (s2 : Int × List Int × Int) => if decide (s2.1 ≤ IntKind.i64.wrap (IntKind.i64.wrap (x.1 + IntKind.i64.wrap (IntKind.i64.wrap (Int.tdiv (IntKind.i64.wrap (x.2.1 - x.1)) (4 : Int)) * (2 : Int))) + (1 : Int))) = true
 then Option.bind (D.f123E n s2.2.2) fun v3 => Option.bind (if decide (IntKind.i64.wrap (IntKind.wrap IntKind.u64 (↑(BitVec.toNat (BitVec.ofInt (IntKind.bits IntKind.u64) v3.1 &&& BitVec.ofInt (IntKind.bits IntKind.u64) (IntKind.wrap
 IntKind.u64 (v1 - (1 : Int))))) : Int)) ≥ IntKind.i64.wrap (x.2.1 - x.1)) = true then some (IntKind.i64.wrap (IntKind.i64.wrap (IntKind.wrap IntKind.u64 (↑(BitVec.toNat (BitVec.ofInt (IntKind.bits IntKind.u64) v3.1 &&& BitVec.ofInt
 (IntKind.bits IntKind.u64) (IntKind.wrap IntKind.u64 (v1 - (1 : Int))))) : Int)) - IntKind.i64.wrap (x.2.1 - x.1)), s2.2.1, v3.2) else some (IntKind.i64.wrap (IntKind.wrap IntKind.u64 (↑(BitVec.toNat (BitVec.ofInt (IntKind.bits IntKind.u64)
 v3.1 &&& BitVec.ofInt (IntKind.bits IntKind.u64) (IntKind.wrap IntKind.u64 (v1 - (1 : Int))))) : Int)), s2.2.1, v3.2)) fun (v4 : Int × List Int × Int) => if (0 : Int) ≤ IntKind.i64.wrap (x.1 + v4.1) ∧ IntKind.i64.wrap (x.1 + v4.1) <
 (v4.2.1.length : Int) then if (0 : Int) ≤ s2.1 ∧ s2.1 < (v4.2.1.length : Int) then if (0 : Int) ≤ s2.1 ∧ s2.1 < (v4.2.1.length : Int) then if (0 : Int) ≤ IntKind.i64.wrap (x.1 + v4.1) ∧ IntKind.i64.wrap (x.1 + v4.1) < (↑(List.length
 (List.set v4.2.1 (Int.toNat s2.1) (List.getD v4.2.1 (Int.toNat (IntKind.i64.wrap (x.1 + v4.1))) (0 : Int)))) : Int) then some (Sum.inl (IntKind.i64.wrap (s2.1 + (1 : Int)), List.set (List.set v4.2.1 (Int.toNat s2.1) (List.getD v4.2.1
 (Int.toNat (IntKind.i64.wrap (x.1 + v4.1))) (0 : Int))) (Int.toNat (IntKind.i64.wrap (x.1 + v4.1))) (List.getD v4.2.1 (Int.toNat s2.1) (0 : Int)), v4.2.2)) else none else none else none else none else some (Sum.inr s2.2.1))
 (IntKind.i64.wrap (IntKind.i64.wrap (x.1 + IntKind.i64.wrap (IntKind.i64.wrap (Int.tdiv (IntKind.i64.wrap (x.2.1 - x.1)) (4 : Int)) * (2 : Int))) - (1 : Int)), x.2.2, IntKind.wrap IntKind.u64 (IntKind.i64.wrap (x.2.1 - x.1)))) fun (v2 :
 List Int) => some v2 else some x.2.2
theorem D.f112E_le (n : Nat) (h : n ≤ D.fuel) : ∀ x, Le (D.f112E n x) (D.f112F x) := by
  intro x
  unfold D.f112E D.f112F
  repeat' (first | with_reducible exact Le.rfl | with_reducible exact D.f122E_le n h _ | with_reducible exact D.f123E_le n h _ | with_reducible apply Le.agree | with_reducible apply Le.bind | with_reducible apply Le.iter | with_reducible apply Le.ite | with_reducible apply Le.elim | intro _)
def D.f126E (n : Nat) : Int × Int × List Int × Int → Option (Int × Int × List Int × Int) := fun (x : Int × Int × List Int × Int) => if (0 : Int) ≤ x.2.1 ∧ x.2.1 < (x.2.2.1.length : Int) then if (0 : Int) ≤ x.1 ∧ x.1 < (x.2.2.1.length : Int)
 then Option.bind (D.f105E n (List.getD x.2.2.1 (Int.toNat x.2.1) (0 : Int), List.getD x.2.2.1 (Int.toNat x.1) (0 : Int))) fun v1 => if v1 = true then some (x.2.1, x.1, x.2.2.1, IntKind.i64.wrap (x.2.2.2 + (1 : Int))) else some (x.1, x.2.1,
 x.2.2.1, x.2.2.2) else none else none
theorem D.f126E_le (n : Nat) (h : n ≤ D.fuel) : ∀ x, Le (D.f126E n x) (D.f126F x) := by
  intro x
  unfold D.f126E D.f126F
  repeat' (first | with_reducible exact Le.rfl | with_reducible exact D.f105E_le n h _ | with_reducible apply Le.agree | with_reducible apply Le.bind | with_reducible apply Le.iter | with_reducible apply Le.ite | with_reducible apply Le.elim | intro _)
def D.f125E (n : Nat) : Int × Int × Int × List Int × Int → Option (Int × List Int × Int) := fun (x : Int × Int × Int × List Int × Int) => Option.bind (D.f126E n (x.1, x.2.1, x.2.2.2.1, x.2.2.2.2)) fun v1 => Option.bind (D.f126E n (v1.2.1,
 x.2.2.1, v1.2.2.1, v1.2.2.2)) fun v2 => Option.bind (D.f126E n (v1.1, v2.1, v2.2.2.1, v2.2.2.2)) fun v3 => some (v3.2.1, v3.2.2.1, v3.2.2.2)
theorem D.f125E_le (n : Nat) (h : n ≤ D.fuel) : ∀ x, Le (D.f125E n x) (D.f125F x) := by
  intro x
  unfold D.f125E D.f125F
  repeat' (first | with_reducible exact Le.rfl | with_reducible exact D.f126E_le n h _ | with_reducible apply Le.agree | with_reducible apply Le.bind | with_reducible apply Le.iter | with_reducible apply Le.ite | with_reducible apply Le.elim | intro _)
def D.f124E (n : Nat) : Int × List Int × Int → Option (Int × List Int × Int) := fun (x : Int × List Int × Int) => Option.bind (D.f125E n (IntKind.i64.wrap (x.1 - (1 : Int)), x.1, IntKind.i64.wrap (x.1 + (1 : Int)), x.2.1, x.2.2)) fun v1 =>
 some (v1.1, v1.2.1, v1.2.2)
theorem D.f124E_le (n : Nat) (h : n ≤ D.fuel) : ∀ x, Le (D.f124E n x) (D.f124F x) := by
  intro x
  unfold D.f124E D.f124F
  repeat' (first | with_reducible exact Le.rfl | with_reducible exact D.f125E_le n h _ | with_reducible apply Le.agree | with_reducible apply Le.bind | with_reducible apply Le.iter | with_reducible apply Le.ite | with_reducible apply Le.elim | intro _)
def D.f113E (n : Nat) : Int × Int × List Int → Option (Int × Int × List Int) := fun (x : Int × Int × List Int) => Option.bind (if decide (IntKind.i64.wrap (x.2.1 - x.1) ≥ (8 : Int)) = true then if decide (IntKind.i64.wrap (x.2.1 - x.1) ≥
 (50 : Int)) = true then Option.bind (D.f124E n (IntKind.i64.wrap (x.1 + IntKind.i64.wrap (IntKind.i64.wrap (Int.tdiv (IntKind.i64.wrap (x.2.1 - x.1)) (4 : Int)) * (1 : Int))), x.2.2, (0 : Int))) fun v1 => Option.bind (D.f124E n
 (IntKind.i64.wrap (x.1 + IntKind.i64.wrap (IntKind.i64.wrap (Int.tdiv (IntKind.i64.wrap (x.2.1 - x.1)) (4 : Int)) * (2 : Int))), v1.2.1, v1.2.2)) fun v2 => Option.bind (D.f124E n (IntKind.i64.wrap (x.1 + IntKind.i64.wrap (IntKind.i64.wrap
 (Int.tdiv (IntKind.i64.wrap (x.2.1 - x.1)) (4 : Int)) * (3 : Int))), v2.2.1, v2.2.2)) fun v3 => Option.bind (D.f125E n (v1.1, v2.1, v3.1, v3.2.1, v3.2.2)) fun v4 => some (v4.1, v4.2.1, v4.2.2) else Option.bind (D.f125E n (IntKind.i64.wrap
 (x.1 + IntKind.i64.wrap (IntKind.i64.wrap (Int.tdiv (IntKind.i64.wrap (x.2.1 - x.1)) (4 : Int)) * (1 : Int))), IntKind.i64.wrap (x.1 + IntKind.i64.wrap (IntKind.i64.wrap (Int.tdiv (IntKind.i64.wrap (x.2.1 - x.1)) (4 : Int)) * (2 : Int))),
 IntKind.i64.wrap (x.1 + IntKind.i64.wrap (IntKind.i64.wrap (Int.tdiv (IntKind.i64.wrap (x.2.1 - x.1)) (4 : Int)) * (3 : Int))), x.2.2, (0 : Int))) fun v1 => some (v1.1, v1.2.1, v1.2.2) else some (IntKind.i64.wrap (x.1 + IntKind.i64.wrap
 (IntKind.i64.wrap (Int.tdiv (IntKind.i64.wrap (x.2.1 - x.1)) (4 : Int)) * (2 : Int))), x.2.2, (0 : Int))) fun (v1 : Int × List Int × Int) => if (v1.2.2 == (0 : Int)) = true then some (v1.1, (1 : Int), v1.2.1) else if (v1.2.2 == (12 : Int))
 = true then some (v1.1, (2 : Int), v1.2.1) else some (v1.1, (0 : Int), v1.2.1)
theorem D.f113E_le (n : Nat) (h : n ≤ D.fuel) : ∀ x, Le (D.f113E n x) (D.f113F x) := by
  intro x
  unfold D.f113E D.f113F
  repeat' (first | with_reducible exact Le.rfl | with_reducible exact D.f124E_le n h _ | with_reducible exact D.f125E_le n h _ | with_reducible apply Le.agree | with_reducible apply Le.bind | with_reducible apply Le.iter | with_reducible apply Le.ite | with_reducible apply Le.elim | intro _)
def D.f114E (n : Nat) : Int × Int × List Int → Option (List Int) := fun (x : Int × Int × List Int) => Option.bind (iterE n (fun (s1 : Int × Int × List Int) => if decide (s1.1 < s1.2.1) = true then if (0 : Int) ≤ s1.2.1 ∧ s1.2.1 <
 (s1.2.2.length : Int) then if (0 : Int) ≤ s1.1 ∧ s1.1 < (s1.2.2.length : Int) then if (0 : Int) ≤ s1.1 ∧ s1.1 < (s1.2.2.length : Int) then if (0 : Int) ≤ s1.2.1 ∧ s1.2.1 < (↑(List.length (List.set s1.2.2 (Int.toNat s1.1) (List.getD s1.2.2
 (Int.toNat s1.2.1) (0 : Int)))) : Int) then some (Sum.inl (IntKind.i64.wrap (s1.1 + (1 : Int)), IntKind.i64.wrap (s1.2.1 - (1 : Int)), List.set (List.set s1.2.2 (Int.toNat s1.1) (List.getD s1.2.2 (Int.toNat s1.2.1) (0 : Int))) (Int.toNat
 s1.2.1) (List.getD s1.2.2 (Int.toNat s1.1) (0 : Int)))) else none else none else none else none else some (Sum.inr s1.2.2)) (x.1, IntKind.i64.wrap (x.2.1 - (1 : Int)), x.2.2)) fun (v1 : List Int) => some v1
theorem D.f114E_le (n : Nat) (h : n ≤ D.fuel) : ∀ x, Le (D.f114E n x) (D.f114F x) := by
  intro x
  unfold D.f114E D.f114F
  repeat' (first | with_reducible exact Le.rfl | with_reducible apply Le.agree | with_reducible apply Le.bind | with_reducible apply Le.iter | with_reducible apply Le.ite | with_reducible apply Le.elim | intro _)
def D.f115E (n : Nat) : Int × Int × List Int → Option (Bool × List Int) := fun (x : Int × Int × List Int) => Option.bind (iterE n (fun (s1 : Int × Int × List Int) => if decide (s1.2.1 < (5 : Int)) = true then Option.bind (iterE n (fun (s2 :
 Int × List Int) => Option.bind (if decide (s2.1 < x.2.1) = true then if (0 : Int) ≤ s2.1 ∧ s2.1 < (s2.2.length : Int) then if (0 : Int) ≤ IntKind.i64.wrap (s2.1 - (1 : Int)) ∧ IntKind.i64.wrap (s2.1 - (1 : Int)) < (s2.2.length : Int) then
 Option.bind (D.f105E n (List.getD s2.2 (Int.toNat s2.1) (0 : Int), List.getD s2.2 (Int.toNat (IntKind.i64.wrap (s2.1 - (1 : Int)))) (0 : Int))) fun v3 => some (!v3, s2.2) else none else none else some (false, s2.2)) fun (v3 : Bool × List
 Int) => if v3.1 = true then some (Sum.inl (IntKind.i64.wrap (s2.1 + (1 : Int)), v3.2)) else some (Sum.inr (s2.1, v3.2))) (s1.1, s1.2.2)) fun (v2 : Int × List Int) => if (v2.1 == x.2.1) = true then some (Sum.inr (Sum.inr (true, v2.2))) else
 if decide (IntKind.i64.wrap (x.2.1 - x.1) < (50 : Int)) = true then some (Sum.inr (Sum.inr (false, v2.2))) else if (0 : Int) ≤ IntKind.i64.wrap (v2.1 - (1 : Int)) ∧ IntKind.i64.wrap (v2.1 - (1 : Int)) < (v2.2.length : Int) then if (0 : Int)
 ≤ v2.1 ∧ v2.1 < (v2.2.length : Int) then if (0 : Int) ≤ v2.1 ∧ v2.1 < (v2.2.length : Int) then if (0 : Int) ≤ IntKind.i64.wrap (v2.1 - (1 : Int)) ∧ IntKind.i64.wrap (v2.1 - (1 : Int)) < (↑(List.length (List.set v2.2 (Int.toNat v2.1)
 (List.getD v2.2 (Int.toNat (IntKind.i64.wrap (v2.1 - (1 : Int)))) (0 : Int)))) : Int) then Option.bind (if decide (IntKind.i64.wrap (v2.1 - x.1) ≥ (2 : Int)) = true then Option.bind (iterE n (fun (s3 : Int × List Int) => if decide (s3.1 ≥
 (1 : Int)) = true then if (0 : Int) ≤ s3.1 ∧ s3.1 < (s3.2.length : Int) then if (0 : Int) ≤ IntKind.i64.wrap (s3.1 - (1 : Int)) ∧ IntKind.i64.wrap (s3.1 - (1 : Int)) < (s3.2.length : Int) then Option.bind (D.f105E n (List.getD s3.2
 (Int.toNat s3.1) (0 : Int), List.getD s3.2 (Int.toNat (IntKind.i64.wrap (s3.1 - (1 : Int)))) (0 : Int))) fun v4 => if (!v4) = true then some (Sum.inr s3.2) else if (0 : Int) ≤ IntKind.i64.wrap (s3.1 - (1 : Int)) ∧ IntKind.i64.wrap (s3.1 -
 (1 : Int)) < (s3.2.length : Int) then if (0 : Int) ≤ s3.1 ∧ s3.1 < (s3.2.length : Int) then if (0 : Int) ≤ s3.1 ∧ s3.1 < (s3.2.length : Int) then if (0 : Int) ≤ IntKind.i64.wrap (s3.1 - (1 : Int)) ∧ IntKind.i64.wrap (s3.1 - (1 : Int)) <
 (↑(List.length (List.set s3.2 (Int.toNat s3.1) (List.getD s3.2 (Int.toNat (IntKind.i64.wrap (s3.1 - (1 : Int)))) (0 : Int)))) : Int) then some (Sum.inl (IntKind.i64.wrap (s3.1 - (1 : Int)), List.set (List.set s3.2 (Int.toNat s3.1)
 (List.getD s3.2 (Int.toNat (IntKind.i64.wrap (s3.1 - (1 : Int)))) (0 : Int))) (Int.toNat (IntKind.i64.wrap (s3.1 - (1 : Int)))) (List.getD s3.2 (Int.toNat s3.1) (0 : Int)))) else none else none else none else none else none else none else
 some (Sum.inr s3.2)) (IntKind.i64.wrap (v2.1 - (1 : Int)), List.set (List.set v2.2 (Int.toNat v2.1) (List.getD v2.2 (Int.toNat (IntKind.i64.wrap (v2.1 - (1 : Int)))) (0 : Int))) (Int.toNat (IntKind.i64.wrap (v2.1 - (1 : Int)))) (List.getD
 v2.2 (Int.toNat v2.1) (0 : Int)))) fun (v3 : List Int) => some v3 else some (List.set (List.set v2.2 (Int.toNat v2.1) (List.getD v2.2 (Int.toNat (IntKind.i64.wrap (v2.1 - (1 : Int)))) (0 : Int))) (Int.toNat (IntKind.i64.wrap (v2.1 - (1 :
 Int)))) (List.getD v2.2 (Int.toNat v2.1) (0 : Int)))) fun (v3 : List Int) => if decide (IntKind.i64.wrap (x.2.1 - v2.1) ≥ (2 : Int)) = true then Option.bind (iterE n (fun (s4 : Int × List Int) => if decide (s4.1 < x.2.1) = true then if (0 :
 Int) ≤ s4.1 ∧ s4.1 < (s4.2.length : Int) then if (0 : Int) ≤ IntKind.i64.wrap (s4.1 - (1 : Int)) ∧ IntKind.i64.wrap (s4.1 - (1 : Int)) < (s4.2.length : Int) then Option.bind (D.f105E n (List.getD s4.2 (Int.toNat s4.1) (0 : Int), List.getD
 s4.2 (Int.toNat (IntKind.i64.wrap (s4.1 - (1 : Int)))) (0 : Int))) fun v5 => if (!v5) = true then some (Sum.inr s4.2) else if (0 : Int) ≤ IntKind.i64.wrap (s4.1 - (1 : Int)) ∧ IntKind.i64.wrap (s4.1 - (1 : Int)) < (s4.2.length : Int) then
 if (0 : Int) ≤ s4.1 ∧ s4.1 < (s4.2.length : Int) then if (0 : Int) ≤ s4.1 ∧ s4.1 < (s4.2.length : Int) then if (0 : Int) ≤ IntKind.i64.wrap (s4.1 - (1 : Int)) ∧ IntKind.i64.wrap (s4.1 - (1 : Int)) < (↑(List.length (List.set s4.2 (Int.toNat
 s4.1) (List.getD s4.2 (Int.toNat (IntKind.i64.wrap (s4.1 - (1 : Int)))) (0 : Int)))) : Int) then some (Sum.inl (IntKind.i64.wrap (s4.1 + (1 : Int)), List.set (List.set s4.2 (Int.toNat s4.1) (List.getD s4.2 (Int.toNat (IntKind.i64.wrap (s4.1
 - (1 : Int)))) (0 : Int))) (Int.toNat (IntKind.i64.wrap (s4.1 - (1 : Int)))) (List.getD s4.2 (Int.toNat s4.1) (0 : Int)))) else none else none else none else none else none else none else some (Sum.inr s4.2)) (IntKind.i64.wrap (v2.1 + (1 :
 Int)), v3)) fun (v4 : List Int) => some (Sum.inl (v2.1, IntKind.i64.wrap (s1.2.1 + (1 : Int)), v4)) else some (Sum.inl (v2.1, IntKind.i64.wrap (s1.2.1 + (1 : Int)), v3)) else none else none else none else none else some (Sum.inr (Sum.inl
 s1.2.2))) (IntKind.i64.wrap (x.1 + (1 : Int)), (0 : Int), x.2.2)) fun (v1 : List Int ⊕ Bool × List Int) => Sum.elim (fun (p2 : List Int) => some (false, p2)) (fun (q2 : Bool × List Int) => some (q2.1, q2.2)) v1
theorem D.f115E_le (n : Nat) (h : n ≤ D.fuel) : ∀ x, Le (D.f115E n x) (D.f115F x) := by
  intro x
  unfold D.f115E D.f115F
  repeat' (first | with_reducible exact Le.rfl | with_reducible exact D.f105E_le n h _ | with_reducible apply Le.agree | with_reducible apply Le.bind | with_reducible apply Le.iter | with_reducible apply Le.ite | with_reducible apply Le.elim | intro _)
def D.f116E (n : Nat) : Int × Int × Int × List Int → Option (Int × List Int) := fun (x : Int × Int × Int × List Int) => if (0 : Int) ≤ x.2.2.1 ∧ x.2.2.1 < (x.2.2.2.length : Int) then if (0 : Int) ≤ x.1 ∧ x.1 < (x.2.2.2.length : Int) then if
 (0 : Int) ≤ x.1 ∧ x.1 < (x.2.2.2.length : Int) then if (0 : Int) ≤ x.2.2.1 ∧ x.2.2.1 < (↑(List.length (List.set x.2.2.2 (Int.toNat x.1) (List.getD x.2.2.2 (Int.toNat x.2.2.1) (0 : Int)))) : Int) then Option.bind (iterE n (fun (s1 : Int ×
 Int × List Int) => Option.bind (iterE n (fun (s2 : Int × List Int) => Option.bind (if decide (s2.1 ≤ s1.2.1) = true then if (0 : Int) ≤ x.1 ∧ x.1 < (s2.2.length : Int) then if (0 : Int) ≤ s2.1 ∧ s2.1 < (s2.2.length : Int) then Option.bind
 (D.f105E n (List.getD s2.2 (Int.toNat x.1) (0 : Int), List.getD s2.2 (Int.toNat s2.1) (0 : Int))) fun v3 => some (!v3, s2.2) else none else none else some (false, s2.2)) fun (v3 : Bool × List Int) => if v3.1 = true then some (Sum.inl
 (IntKind.i64.wrap (s2.1 + (1 : Int)), v3.2)) else some (Sum.inr (s2.1, v3.2))) (s1.1, s1.2.2)) fun (v2 : Int × List Int) => Option.bind (iterE n (fun (s3 : Int × List Int) => Option.bind (if decide (v2.1 ≤ s3.1) = true then if (0 : Int) ≤
 x.1 ∧ x.1 < (s3.2.length : Int) then if (0 : Int) ≤ s3.1 ∧ s3.1 < (s3.2.length : Int) then Option.bind (D.f105E n (List.getD s3.2 (Int.toNat x.1) (0 : Int), List.getD s3.2 (Int.toNat s3.1) (0 : Int))) fun v4 => some (v4, s3.2) else none
 else none else some (false, s3.2)) fun (v4 : Bool × List Int) => if v4.1 = true then some (Sum.inl (IntKind.i64.wrap (s3.1 - (1 : Int)), v4.2)) else some (Sum.inr (s3.1, v4.2))) (s1.2.1, v2.2)) fun (v3 : Int × List Int) => if decide (v2.1 >
 v3.1) = true then some (Sum.inr (v2.1, v3.2)) else if (0 : Int) ≤ v3.1 ∧ v3.1 < (v3.2.length : Int) then if (0 : Int) ≤ v2.1 ∧ v2.1 < (v3.2.length : Int) then if (0 : Int) ≤ v2.1 ∧ v2.1 < (v3.2.length : Int) then if (0 : Int) ≤ v3.1 ∧ v3.1
 < (↑(List.length (List.set v3.2 (Int.toNat v2.1) (List.getD v3.2 (Int.toNat v3.1) (0 : Int)))) : Int) then some (Sum.inl (IntKind.i64.wrap (v2.1 + (1 : Int)), IntKind.i64.wrap (v3.1 - (1 : Int)), List.set (List.set v3.2 (Int.toNat v2.1)
 (List.getD v3.2 (Int.toNat v3.1) (0 : Int))) (Int.toNat v3.1) (List.getD v3.2 (Int.toNat v2.1) (0 : Int)))) else none else none else none else none) (IntKind.i64.wrap (x.1 + (1 : Int)), IntKind.i64.wrap (x.2.1 - (1 : Int)), List.set
 (List.set x.2.2.2 (Int.toNat x.1) (List.getD x.2.2.2 (Int.toNat x.2.2.1) (0 : Int))) (Int.toNat x.2.2.1) (List.getD x.2.2.2 (Int.toNat x.1) (0 : Int)))) fun (v1 : Int × List Int) => some (v1.1, v1.2) else none else none else none else none
theorem D.f116E_le (n : Nat) (h : n ≤ D.fuel) : ∀ x, Le (D.f116E n x) (D.f116F x) := by
  intro x
  unfold D.f116E D.f116F
  repeat' (first | with_reducible exact Le.rfl | with_reducible exact D.f105E_le n h _ | with_reducible apply Le.agree | with_reducible apply Le.bind | with_reducible apply Le.iter | with_reducible apply Le.ite | with_reducible apply Le.elim | intro _)
def D.f117E (n : Nat) : Int × Int × Int × List Int → Option (Int × Bool × List Int) := fun (x : Int × Int × Int × List Int) => if (0 : Int) ≤ x.2.2.1 ∧ x.2.2.1 < (x.2.2.2.length : Int) then if (0 : Int) ≤ x.1 ∧ x.1 < (x.2.2.2.length : Int)
 then if (0 : Int) ≤ x.1 ∧ x.1 < (x.2.2.2.length : Int) then if (0 : Int) ≤ x.2.2.1 ∧ x.2.2.1 < (↑(List.length (List.set x.2.2.2 (Int.toNat x.1) (List.getD x.2.2.2 (Int.toNat x.2.2.1) (0 : Int)))) : Int) then Option.bind (iterE n (fun (s1 :
 Int × List Int) => Option.bind (if decide (s1.1 ≤ IntKind.i64.wrap (x.2.1 - (1 : Int))) = true then if (0 : Int) ≤ s1.1 ∧ s1.1 < (s1.2.length : Int) then if (0 : Int) ≤ x.1 ∧ x.1 < (s1.2.length : Int) then Option.bind (D.f105E n (List.getD
 s1.2 (Int.toNat s1.1) (0 : Int), List.getD s1.2 (Int.toNat x.1) (0 : Int))) fun v2 => some (v2, s1.2) else none else none else some (false, s1.2)) fun (v2 : Bool × List Int) => if v2.1 = true then some (Sum.inl (IntKind.i64.wrap (s1.1 + (1
 : Int)), v2.2)) else some (Sum.inr (s1.1, v2.2))) (IntKind.i64.wrap (x.1 + (1 : Int)), List.set (List.set x.2.2.2 (Int.toNat x.1) (List.getD x.2.2.2 (Int.toNat x.2.2.1) (0 : Int))) (Int.toNat x.2.2.1) (List.getD x.2.2.2 (Int.toNat x.1) (0 :
 Int)))) fun (v1 : Int × List Int) => Option.bind (iterE n (fun (s2 : Int × List Int) => Option.bind (if decide (v1.1 ≤ s2.1) = true then if (0 : Int) ≤ s2.1 ∧ s2.1 < (s2.2.length : Int) then if (0 : Int) ≤ x.1 ∧ x.1 < (s2.2.length : Int)
 then Option.bind (D.f105E n (List.getD s2.2 (Int.toNat s2.1) (0 : Int), List.getD s2.2 (Int.toNat x.1) (0 : Int))) fun v3 => some (!v3, s2.2) else none else none else some (false, s2.2)) fun (v3 : Bool × List Int) => if v3.1 = true then
 some (Sum.inl (IntKind.i64.wrap (s2.1 - (1 : Int)), v3.2)) else some (Sum.inr (s2.1, v3.2))) (IntKind.i64.wrap (x.2.1 - (1 : Int)), v1.2)) fun (v2 : Int × List Int) => if decide (v1.1 > v2.1) = true then if (0 : Int) ≤ x.1 ∧ x.1 <
 (v2.2.length : Int) then if (0 : Int) ≤ v2.1 ∧ v2.1 < (v2.2.length : Int) then if (0 : Int) ≤ v2.1 ∧ v2.1 < (v2.2.length : Int) then if (0 : Int) ≤ x.1 ∧ x.1 < (↑(List.length (List.set v2.2 (Int.toNat v2.1) (List.getD v2.2 (Int.toNat x.1)
 (0 : Int)))) : Int) then some (v2.1, true, List.set (List.set v2.2 (Int.toNat v2.1) (List.getD v2.2 (Int.toNat x.1) (0 : Int))) (Int.toNat x.1) (List.getD v2.2 (Int.toNat v2.1) (0 : Int))) else none else none else none else none else if (0
 : Int) ≤ v2.1 ∧ v2.1 < (v2.2.length : Int) then if (0 : Int) ≤ v1.1 ∧ v1.1 < (v2.2.length : Int) then if (0 : Int) ≤ v1.1 ∧ v1.1 < (v2.2.length : Int) then if (0 : Int) ≤ v2.1 ∧ v2.1 < (↑(List.length (List.set v2.2 (Int.toNat v1.1)
 (List.getD v2.2 (Int.toNat v2.1) (0 : Int)))) : Int) then Option.bind (iterE n (fun (s3 : Int × Int × List Int) => Option.bind (iterE n (fun (s4 : Int × List Int) => Option.bind (if decide (s4.1 ≤ s3.2.1) = true then if (0 : Int) ≤ s4.1 ∧
 s4.1 < (s4.2.length : Int) then if (0 : Int) ≤ x.1 ∧ x.1 < (s4.2.length : Int) then Option.bind (D.f105E n (List.getD s4.2 (Int.toNat s4.1) (0 : Int), List.getD s4.2 (Int.toNat x.1) (0 : Int))) fun v5 => some (v5, s4.2) else none else none
 else some (false, s4.2)) fun (v5 : Bool × List Int) => if v5.1 = true then some (Sum.inl (IntKind.i64.wrap (s4.1 + (1 : Int)), v5.2)) else some (Sum.inr (s4.1, v5.2))) (s3.1, s3.2.2)) fun (v4 : Int × List Int) => Option.bind (iterE n (fun
 (s5 : Int × List Int) => Option.bind (if decide (v4.1 ≤ s5.1) = true then if (0 : Int) ≤ s5.1 ∧ s5.1 < (s5.2.length : Int) then if (0 : Int) ≤ x.1 ∧ x.1 < (s5.2.length : Int) then Option.bind (D.f105E n (List.getD s5.2 (Int.toNat s5.1) (0 :
 Int), List.getD s5.2 (Int.toNat x.1) (0 : Int))) fun v6 => some (!v6, s5.2) else none else none else some (false, s5.2)) fun (v6 : Bool × List Int) => if v6.1 = true then some (Sum.inl (IntKind.i64.wrap (s5.1 - (1 : Int)), v6.2)) else some
 (Sum.inr (s5.1, v6.2))) (s3.2.1, v4.2)) fun (v5 : Int × List Int) => if decide (v4.1 > v5.1) = true then some (Sum.inr (v5.1, v5.2)) else if (0 : Int) ≤ v5.1 ∧ v5.1 < (v5.2.length : Int) then if (0 : Int) ≤ v4.1 ∧ v4.1 < (v5.2.length : Int)
 then if (0 : Int) ≤ v4.1 ∧ v4.1 < (v5.2.length : Int) then if (0 : Int) ≤ v5.1 ∧ v5.1 < (↑(List.length (List.set v5.2 (Int.toNat v4.1) (List.getD v5.2 (Int.toNat v5.1) (0 : Int)))) : Int) then some (Sum.inl (IntKind.i64.wrap (v4.1 + (1 :
 Int)), IntKind.i64.wrap (v5.1 - (1 : Int)), List.set (List.set v5.2 (Int.toNat v4.1) (List.getD v5.2 (Int.toNat v5.1) (0 : Int))) (Int.toNat v5.1) (List.getD v5.2 (Int.toNat v4.1) (0 : Int)))) else none else none else none else none)
 (IntKind.i64.wrap (v1.1 + (1 : Int)), IntKind.i64.wrap (v2.1 - (1 : Int)), List.set (List.set v2.2 (Int.toNat v1.1) (List.getD v2.2 (Int.toNat v2.1) (0 : Int))) (Int.toNat v2.1) (List.getD v2.2 (Int.toNat v1.1) (0 : Int)))) fun (v3 : Int ×
 List Int) => if (0 : Int) ≤ x.1 ∧ x.1 < (v3.2.length : Int) then if (0 : Int) ≤ v3.1 ∧ v3.1 < (v3.2.length : Int) then if (0 : Int) ≤ v3.1 ∧ v3.1 < (v3.2.length : Int) then if (0 : Int) ≤ x.1 ∧ x.1 < (↑(List.length (List.set v3.2 (Int.toNat
 v3.1) (List.getD v3.2 (Int.toNat x.1) (0 : Int)))) : Int) then some (v3.1, false, List.set (List.set v3.2 (Int.toNat v3.1) (List.getD v3.2 (Int.toNat x.1) (0 : Int))) (Int.toNat x.1) (List.getD v3.2 (Int.toNat v3.1) (0 : Int))) else none
 else none else none else none else none else none else none else none else none else none else none else none
theorem D.f117E_le (n : Nat) (h : n ≤ D.fuel) : ∀ x, Le (D.f117E n x) (D.f117F x) := by
  intro x
  unfold D.f117E D.f117F
  repeat' (first | with_reducible exact Le.rfl | with_reducible exact D.f105E_le n h _ | with_reducible apply Le.agree | with_reducible apply Le.bind | with_reducible apply Le.iter | with_reducible apply Le.ite | with_reducible apply Le.elim | intro _)
def D.f100SE (n : Nat) (r100 : Int × Int × Int × List Int → Option (List Int)) : Int × Int × Int × List Int → Option (List Int) := fun (x : Int × Int × Int × List Int) => Option.bind (iterE n (fun (s1 : Int × Int × Bool × Bool × Int × List
 Int) => if decide (IntKind.i64.wrap (s1.2.2.2.2.1 - s1.2.1) ≤ (12 : Int)) = true then Option.bind (D.f110E n (s1.2.1, s1.2.2.2.2.1, s1.2.2.2.2.2)) fun v2 => some (Sum.inr v2) else if (s1.1 == (0 : Int)) = true then Option.bind (D.f111E n
 (s1.2.1, s1.2.2.2.2.1, s1.2.2.2.2.2)) fun v2 => some (Sum.inr v2) else Option.bind (if (!s1.2.2.2.1) = true then Option.bind (D.f112E n (s1.2.1, s1.2.2.2.2.1, s1.2.2.2.2.2)) fun v2 => some (IntKind.i64.wrap (s1.1 - (1 : Int)), v2) else some
 (s1.1, s1.2.2.2.2.2)) fun (v2 : Int × List Int) => Option.bind (D.f113E n (s1.2.1, s1.2.2.2.2.1, v2.2)) fun v3 => Option.bind (if (v3.2.1 == (2 : Int)) = true then Option.bind (D.f114E n (s1.2.1, s1.2.2.2.2.1, v3.2.2)) fun v4 => some
 (IntKind.i64.wrap (IntKind.i64.wrap (s1.2.2.2.2.1 - (1 : Int)) - IntKind.i64.wrap (v3.1 - s1.2.1)), (1 : Int), v4) else some (v3.1, v3.2.1, v3.2.2)) fun (v4 : Int × Int × List Int) => Option.bind (Option.bind (if s1.2.2.2.1 = true then if
 s1.2.2.1 = true then some (v4.2.1 == (1 : Int), v4.2.2) else some (false, v4.2.2) else some (false, v4.2.2)) fun (v5 : Bool × List Int) => if v5.1 = true then Option.bind (D.f115E n (s1.2.1, s1.2.2.2.2.1, v5.2)) fun v6 => if v6.1 = true
 then some (Sum.inl v6.2) else some (Sum.inr v6.2) else some (Sum.inr v5.2)) fun (v5 : List Int ⊕ List Int) => Sum.elim (fun (p6 : List Int) => some (Sum.inr p6)) (fun (q6 : List Int) => Option.bind (if decide (s1.2.1 > (0 : Int)) = true
 then if (0 : Int) ≤ IntKind.i64.wrap (s1.2.1 - (1 : Int)) ∧ IntKind.i64.wrap (s1.2.1 - (1 : Int)) < (q6.length : Int) then if (0 : Int) ≤ v4.1 ∧ v4.1 < (q6.length : Int) then Option.bind (D.f105E n (List.getD q6 (Int.toNat (IntKind.i64.wrap
 (s1.2.1 - (1 : Int)))) (0 : Int), List.getD q6 (Int.toNat v4.1) (0 : Int))) fun v7 => some (!v7, q6) else none else none else some (false, q6)) fun (v7 : Bool × List Int) => if v7.1 = true then Option.bind (D.f116E n (s1.2.1, s1.2.2.2.2.1,
 v4.1, v7.2)) fun v8 => some (Sum.inl (v2.1, v8.1, s1.2.2.1, s1.2.2.2.1, s1.2.2.2.2.1, v8.2)) else Option.bind (D.f117E n (s1.2.1, s1.2.2.2.2.1, v4.1, v7.2)) fun v8 => if decide (IntKind.i64.wrap (v8.1 - s1.2.1) < IntKind.i64.wrap
 (s1.2.2.2.2.1 - v8.1)) = true then Option.bind (r100 (s1.2.1, v8.1, v2.1, v8.2.2)) fun (v9 : List Int) => some (Sum.inl (v2.1, IntKind.i64.wrap (v8.1 + (1 : Int)), v8.2.1, decide (IntKind.i64.wrap (v8.1 - s1.2.1) ≥ IntKind.i64.wrap
 (Int.tdiv (IntKind.i64.wrap (s1.2.2.2.2.1 - s1.2.1)) (8 : Int))), s1.2.2.2.2.1, v9)) else Option.bind (r100 (IntKind.i64.wrap (v8.1 + (1 : Int)), s1.2.2.2.2.1, v2.1, v8.2.2)) fun (v9 : List Int) => some (Sum.inl (v2.1, s1.2.1, v8.2.1,
 decide (IntKind.i64.wrap (s1.2.2.2.2.1 - v8.1) ≥ IntKind.i64.wrap (Int.tdiv (IntKind.i64.wrap (s1.2.2.2.2.1 - s1.2.1)) (8 : Int))), v8.1, v9))) v5) (x.2.2.1, x.1, true, true, x.2.1, x.2.2.2)) fun (v1 : List Int) => some v1
theorem D.f100SE_le (n : Nat) (h : n ≤ D.fuel) {r r'} (hr : ∀ x, Le (r x) (r' x)) : ∀ x, Le (D.f100SE n r x) (D.f100S r' x) := by
  intro x
  unfold D.f100SE D.f100S
  repeat' (first | with_reducible exact Le.rfl | with_reducible exact hr _ | with_reducible exact D.f105E_le n h _ | with_reducible exact D.f110E_le n h _ | with_reducible exact D.f111E_le n h _ | with_reducible exact D.f112E_le n h _ | with_reducible exact D.f113E_le n h _ | with_reducible exact D.f114E_le n h _ | with_reducible exact D.f115E_le n h _ | with_reducible exact D.f116E_le n h _ | with_reducible exact D.f117E_le n h _ | with_reducible apply Le.agree | with_reducible apply Le.bind | with_reducible apply Le.iter | with_reducible apply Le.ite | with_reducible apply Le.elim | intro _)
def D.f100NE (n : Nat) (k : Nat) : Int × Int × Int × List Int → Option (List Int) := Nat.rec (fun _ => none) (fun _ r => D.f100SE n r) k
theorem D.f100NE_le (n : Nat) (h : n ≤ D.fuel) : ∀ k, k ≤ D.fuel → ∀ x, Le (D.f100NE n k x) (D.f100F x) := by
  suffices hh : ∀ k m, k ≤ m → ∀ x, Le (D.f100NE n k x) (D.f100N m x) from fun k hk x => hh k _ hk x
  intro k
  induction k with
  | zero => intro m _ x y hy; cases hy
  | succ k ih =>
    intro m hm x
    cases m with
    | zero => omega
    | succ m => exact D.f100SE_le n h (ih m (by omega)) x
def D.f100E (n : Nat) : Int × Int × Int × List Int → Option (List Int) := D.f100NE n n
theorem D.f100E_le (n : Nat) (h : n ≤ D.fuel) : ∀ x, Le (D.f100E n x) (D.f100F x) := fun x => D.f100NE_le n h n h x
def D.f74E (n : Nat) : List Int → Option (List Int) := fun (x : List Int) => Option.bind (D.f101E n (IntKind.wrap IntKind.u64 (x.length : Int))) fun v1 => Option.bind (D.f100E n ((0 : Int), (x.length : Int), v1, x)) fun v2 => some v2
theorem D.f74E_le (n : Nat) (h : n ≤ D.fuel) : ∀ x, Le (D.f74E n x) (D.f74F x) := by
  intro x
  unfold D.f74E D.f74F
  repeat' (first | with_reducible exact Le.rfl | with_reducible exact D.f100E_le n h _ | with_reducible exact D.f101E_le n h _ | with_reducible apply Le.agree | with_reducible apply Le.bind | with_reducible apply Le.iter | with_reducible apply Le.ite | with_reducible apply Le.elim | intro _)
def D.s16E (n : Nat) : List (Int × List (Int × Int) × Int × Int) × List Int × Int → Option (List Int) := fun (x : List (Int × List (Int × Int) × Int × Int) × List Int × Int) => Option.bind (iterE n (fun (s1 : Int × List Int) => if decide
 (s1.1 < (x.2.1.length : Int)) = true then if (0 : Int) ≤ s1.1 ∧ s1.1 < (x.2.1.length : Int) then Option.bind (if decide (List.getD x.2.1 (Int.toNat s1.1) (0 : Int) ≥ (0 : Int)) = true then if decide (List.getD x.2.1 (Int.toNat s1.1) (0 :
 Int) < (x.1.length : Int)) = true then if (0 : Int) ≤ List.getD x.2.1 (Int.toNat s1.1) (0 : Int) ∧ List.getD x.2.1 (Int.toNat s1.1) (0 : Int) < (x.1.length : Int) then if ((List.getD x.1 (Int.toNat (List.getD x.2.1 (Int.toNat s1.1) (0 :
 Int))) ((0 : Int), [], (0 : Int), (0 : Int))).1 == (1 : Int)) = true then if (0 : Int) ≤ List.getD x.2.1 (Int.toNat s1.1) (0 : Int) ∧ List.getD x.2.1 (Int.toNat s1.1) (0 : Int) < (x.1.length : Int) then Option.bind (D.f73E n ((List.getD x.1
 (Int.toNat (List.getD x.2.1 (Int.toNat s1.1) (0 : Int))) ((0 : Int), [], (0 : Int), (0 : Int))).2.1, x.2.2)) fun v2 => some (v2, s1.2) else none else some (false, s1.2) else none else some (false, s1.2) else some (false, s1.2)) fun (v2 :
 Bool × List Int) => if v2.1 = true then if roomOk (List.length v2.2 + (1 : Nat)) (8 : Nat) then some (Sum.inl (IntKind.i64.wrap (s1.1 + (1 : Int)), v2.2 ++ [IntKind.i64.wrap (List.getD x.2.1 (Int.toNat s1.1) (0 : Int) + (1 : Int))])) else
 none else some (Sum.inl (IntKind.i64.wrap (s1.1 + (1 : Int)), v2.2)) else none else some (Sum.inr s1.2)) ((0 : Int), [])) fun (v1 : List Int) => Option.bind (D.f74E n v1) fun v2 => Option.bind (D.f75E n v2) fun v3 => some v3
theorem D.s16E_le (n : Nat) (h : n ≤ D.fuel) : ∀ x, Le (D.s16E n x) (D.s16F x) := by
  intro x
  unfold D.s16E D.s16F
  repeat' (first | with_reducible exact Le.rfl | with_reducible exact D.f73E_le n h _ | with_reducible exact D.f74E_le n h _ | with_reducible exact D.f75E_le n h _ | with_reducible apply Le.agree | with_reducible apply Le.bind | with_reducible apply Le.iter | with_reducible apply Le.ite | with_reducible apply Le.elim | intro _)
def D.f19E (n : Nat) : List (Int × List (Int × Int) × Int × Int) × List Int × Int → Option (List Int) := fun (x : List (Int × List (Int × Int) × Int × Int) × List Int × Int) => Option.bind (D.f42E n x.1) fun v1 => if (!v1) = true then some
 [] else Option.bind (D.s16E n (x.1, x.2.1, x.2.2)) fun v2 => some v2
theorem D.f19E_le (n : Nat) (h : n ≤ D.fuel) : ∀ x, Le (D.f19E n x) (D.f19F x) := by
  intro x
  unfold D.f19E D.f19F
  repeat' (first | with_reducible exact Le.rfl | with_reducible exact D.f42E_le n h _ | with_reducible exact D.s16E_le n h _ | with_reducible apply Le.agree | with_reducible apply Le.bind | with_reducible apply Le.iter | with_reducible apply Le.ite | with_reducible apply Le.elim | intro _)
def D.f87E (n : Nat) : (List (Int × List (Int × Int) × Int × Int) × Int × List (List Int × Bool × List (Int × Int)) × Int) × (List Int × Bool × List (Int × Int)) × Int → Option (List Int) := fun (x : (List (Int × List (Int × Int) × Int ×
 Int) × Int × List (List Int × Bool × List (Int × Int)) × Int) × (List Int × Bool × List (Int × Int)) × Int) => Option.bind (D.f83E n (x.1, (x.2.1.1, x.2.1.2.1, x.2.1.2.2), false)) fun v1 => Option.bind (D.f19E n (x.1.1, v1, x.2.2)) fun v2
 => some v2
theorem D.f87E_le (n : Nat) (h : n ≤ D.fuel) : ∀ x, Le (D.f87E n x) (D.f87F x) := by
  intro x
  unfold D.f87E D.f87F
  repeat' (first | with_reducible exact Le.rfl | with_reducible exact D.f19E_le n h _ | with_reducible exact D.f83E_le n h _ | with_reducible apply Le.agree | with_reducible apply Le.bind | with_reducible apply Le.iter | with_reducible apply Le.ite | with_reducible apply Le.elim | intro _)
def D.f88E (n : Nat) : (List (Int × List (Int × Int) × Int × Int) × Int × List (List Int × Bool × List (Int × Int)) × Int) × (List Int × Bool × List (Int × Int)) × Int × Int → Option (Bool) := fun (x : (List (Int × List (Int × Int) × Int ×
 Int) × Int × List (List Int × Bool × List (Int × Int)) × Int) × (List Int × Bool × List (Int × Int)) × Int × Int) => Option.bind (D.f87E n (x.1, (x.2.1.1, x.2.1.2.1, x.2.1.2.2), x.2.2.1)) fun v1 => if ((v1.length : Int) == (0 : Int)) = true
 then some (x.2.2.2 == (-1 : Int)) else if (x.2.2.2 != (-1 : Int)) = true then Option.bind (D.f82E n (x.1, v1, false)) fun v2 => some (x.2.2.2 == v2) else some false
theorem D.f88E_le (n : Nat) (h : n ≤ D.fuel) : ∀ x, Le (D.f88E n x) (D.f88F x) := by
  intro x
  unfold D.f88E D.f88F
  repeat' (first | with_reducible exact Le.rfl | with_reducible exact D.f82E_le n h _ | with_reducible exact D.f87E_le n h _ | with_reducible apply Le.agree | with_reducible apply Le.bind | with_reducible apply Le.iter | with_reducible apply Le.ite | with_reducible apply Le.elim | intro _)
def D.f56E (n : Nat) : (List (Int × List (Int × Int) × Int × Int) × Int × List (List Int × Bool × List (Int × Int)) × Int) × Int → Option (Bool) := fun (x : (List (Int × List (Int × Int) × Int × Int) × Int × List (List Int × Bool × List
 (Int × Int)) × Int) × Int) => if (0 : Int) ≤ x.2 ∧ x.2 < (x.1.2.2.1.length : Int) then Option.bind (Option.bind (D.f57E n ((List.getD x.1.2.2.1 (Int.toNat x.2) ([], false, [])).1, (x.1.1.length : Int))) fun v1 => if (!v1) = true then some
 (true, (List.getD x.1.2.2.1 (Int.toNat x.2) ([], false, [])).1, (List.getD x.1.2.2.1 (Int.toNat x.2) ([], false, [])).2.1, (List.getD x.1.2.2.1 (Int.toNat x.2) ([], false, [])).2.2) else Option.bind (D.f82E n (x.1, (List.getD x.1.2.2.1
 (Int.toNat x.2) ([], false, [])).1, (List.getD x.1.2.2.1 (Int.toNat x.2) ([], false, [])).2.1)) fun v2 => some (v2 != x.2, (List.getD x.1.2.2.1 (Int.toNat x.2) ([], false, [])).1, (List.getD x.1.2.2.1 (Int.toNat x.2) ([], false, [])).2.1,
 (List.getD x.1.2.2.1 (Int.toNat x.2) ([], false, [])).2.2)) fun (v1 : Bool × List Int × Bool × List (Int × Int)) => if v1.1 = true then some false else Option.bind (iterE n (fun (s2 : Int × List Int × Bool × List (Int × Int) × List (Int ×
 Bool)) => if decide (s2.1 < (v1.2.2.2.length : Int)) = true then if (0 : Int) ≤ s2.1 ∧ s2.1 < (v1.2.2.2.length : Int) then Option.bind (if Option.getD (mgetX (Ty.int IntKind.i64) Ty.bool s2.2.2.2.2 (List.getD v1.2.2.2 (Int.toNat s2.1) ((0 :
 Int), (0 : Int))).1) false = true then some (true, s2.2.1, s2.2.2.1, s2.2.2.2.1, s2.2.2.2.2, (List.getD v1.2.2.2 (Int.toNat s2.1) ((0 : Int), (0 : Int))).1, (List.getD v1.2.2.2 (Int.toNat s2.1) ((0 : Int), (0 : Int))).2) else Option.bind
 (D.f88E n (x.1, (s2.2.1, s2.2.2.1, s2.2.2.2.1), (List.getD v1.2.2.2 (Int.toNat s2.1) ((0 : Int), (0 : Int))).1, (List.getD v1.2.2.2 (Int.toNat s2.1) ((0 : Int), (0 : Int))).2)) fun v3 => some (!v3, s2.2.1, s2.2.2.1, s2.2.2.2.1, s2.2.2.2.2,
 (List.getD v1.2.2.2 (Int.toNat s2.1) ((0 : Int), (0 : Int))).1, (List.getD v1.2.2.2 (Int.toNat s2.1) ((0 : Int), (0 : Int))).2)) fun (v3 : Bool × List Int × Bool × List (Int × Int) × List (Int × Bool) × Int × Int) => if v3.1 = true then
 some (Sum.inr (Sum.inr false)) else some (Sum.inl (IntKind.i64.wrap (s2.1 + (1 : Int)), v3.2.1, v3.2.2.1, v3.2.2.2.1, mputX (Ty.int IntKind.i64) Ty.bool v3.2.2.2.2.1 v3.2.2.2.2.2.1 true)) else none else some (Sum.inr (Sum.inl ()))) ((0 :
 Int), v1.2.1, v1.2.2.1, v1.2.2.2, [])) fun v2 => Sum.elim (fun (p3 : PUnit) => some true) (fun (q3 : Bool) => some q3) v2 else none
theorem D.f56E_le (n : Nat) (h : n ≤ D.fuel) : ∀ x, Le (D.f56E n x) (D.f56F x) := by
  intro x
  unfold D.f56E D.f56F
  repeat' (first | with_reducible exact Le.rfl | with_reducible exact D.f57E_le n h _ | with_reducible exact D.f82E_le n h _ | with_reducible exact D.f88E_le n h _ | with_reducible apply Le.agree | with_reducible apply Le.bind | with_reducible apply Le.iter | with_reducible apply Le.ite | with_reducible apply Le.elim | intro _)
def D.f30E (n : Nat) : List (Int × List (Int × Int) × Int × Int) × Int × List (List Int × Bool × List (Int × Int)) × Int → Option (Bool) := fun (x : List (Int × List (Int × Int) × Int × Int) × Int × List (List Int × Bool × List (Int × Int))
 × Int) => Option.bind (Option.bind (D.f42E n x.1) fun v1 => if (!v1) = true then some (true, x.1, x.2.1, x.2.2.1, x.2.2.2) else if decide (x.2.1 < (2 : Int)) = true then some (true, x.1, x.2.1, x.2.2.1, x.2.2.2) else if decide (x.2.1 >
 (1000 : Int)) = true then some (true, x.1, x.2.1, x.2.2.1, x.2.2.2) else if decide (x.2.2.2 < (0 : Int)) = true then some (true, x.1, x.2.1, x.2.2.1, x.2.2.2) else some (decide ((x.2.2.1.length : Int) > x.2.1), x.1, x.2.1, x.2.2.1,
 x.2.2.2)) fun (v1 : Bool × List (Int × List (Int × Int) × Int × Int) × Int × List (List Int × Bool × List (Int × Int)) × Int) => if v1.1 = true then some false else Option.bind (iterE n (fun (s2 : Int × List (Int × List (Int × Int) × Int ×
 Int) × Int × List (List Int × Bool × List (Int × Int)) × Int) => if decide (s2.1 < (v1.2.2.2.1.length : Int)) = true then Option.bind (D.f56E n ((s2.2.1, s2.2.2.1, s2.2.2.2.1, s2.2.2.2.2), s2.1)) fun v3 => if (!v3) = true then some (Sum.inr
 (Sum.inr false)) else some (Sum.inl (IntKind.i64.wrap (s2.1 + (1 : Int)), s2.2.1, s2.2.2.1, s2.2.2.2.1, s2.2.2.2.2)) else some (Sum.inr (Sum.inl ()))) ((0 : Int), v1.2.1, v1.2.2.1, v1.2.2.2.1, v1.2.2.2.2)) fun v2 => Sum.elim (fun (p3 :
 PUnit) => some true) (fun (q3 : Bool) => some q3) v2
theorem D.f30E_le (n : Nat) (h : n ≤ D.fuel) : ∀ x, Le (D.f30E n x) (D.f30F x) := by
  intro x
  unfold D.f30E D.f30F
  repeat' (first | with_reducible exact Le.rfl | with_reducible exact D.f42E_le n h _ | with_reducible exact D.f56E_le n h _ | with_reducible apply Le.agree | with_reducible apply Le.bind | with_reducible apply Le.iter | with_reducible apply Le.ite | with_reducible apply Le.elim | intro _)
instance dE1 : DecidableEq (List (Int × Int)) := inferInstance
instance dE2 : DecidableEq (Bool × List (Int × Int)) := inferInstance
instance dE3 : DecidableEq (Bool × Bool × List (Int × Int)) := inferInstance
instance dE4 : DecidableEq (List Int × Bool × Bool × List (Int × Int)) := inferInstance
instance dE5 : DecidableEq (List (List Int × Bool × Bool × List (Int × Int))) := inferInstance
def D.f79E (n : Nat) : List (List Int × Bool × List (Int × Int)) → Option (List (List Int × Bool × Bool × List (Int × Int))) := fun (x : List (List Int × Bool × List (Int × Int))) => if Nat.beq (List.length x) (0 : Nat) = true then agreeE
 (R := List (List Int × Bool × Bool × List (Int × Int))) (some []) (if roomOk ((0 : Nat) + List.length (List.map (Ty.lift (Ty.st (Ty.pair (Ty.sl (Ty.int IntKind.i64)) (Ty.pair Ty.bool (Ty.osl (Ty.st (Ty.pair (Ty.int IntKind.i64) (Ty.int
 IntKind.i64)))))))) x)) (56 : Nat) then some ([] ++ List.map (Ty.lift (Ty.st (Ty.pair (Ty.sl (Ty.int IntKind.i64)) (Ty.pair Ty.bool (Ty.osl (Ty.st (Ty.pair (Ty.int IntKind.i64) (Ty.int IntKind.i64)))))))) x) else none) else if roomOk ((0 :
 Nat) + List.length (List.map (Ty.lift (Ty.st (Ty.pair (Ty.sl (Ty.int IntKind.i64)) (Ty.pair Ty.bool (Ty.osl (Ty.st (Ty.pair (Ty.int IntKind.i64) (Ty.int IntKind.i64)))))))) x)) (56 : Nat) then some ([] ++ List.map (Ty.lift (Ty.st (Ty.pair
 (Ty.sl (Ty.int IntKind.i64)) (Ty.pair Ty.bool (Ty.osl (Ty.st (Ty.pair (Ty.int IntKind.i64) (Ty.int IntKind.i64)))))))) x) else none
theorem D.f79E_le (n : Nat) (h : n ≤ D.fuel) : ∀ x, Le (D.f79E n x) (D.f79F x) := by
  intro x
  unfold D.f79E D.f79F
  repeat' (first | with_reducible exact Le.rfl | with_reducible apply Le.agree | with_reducible apply Le.bind | with_reducible apply Le.iter | with_reducible apply Le.ite | with_reducible apply Le.elim | intro _)
def D.f81E (n : Nat) : List (Int × Int) → Option (List (Int × Int)) := fun (x : List (Int × Int)) => if Nat.beq (List.length x) (0 : Nat) = true then agreeE (some []) (if roomOk ((0 : Nat) + List.length x) (16 : Nat) then some ([] ++ x)
 else none) else if roomOk ((0 : Nat) + List.length x) (16 : Nat) then some ([] ++ x) else none
theorem D.f81E_le (n : Nat) (h : n ≤ D.fuel) : ∀ x, Le (D.f81E n x) (D.f81F x) := by
  intro x
  unfold D.f81E D.f81F
  repeat' (first | with_reducible exact Le.rfl | with_reducible apply Le.agree | with_reducible apply Le.bind | with_reducible apply Le.iter | with_reducible apply Le.ite | with_reducible apply Le.elim | intro _)
def D.f52E (n : Nat) : List (Int × List (Int × Int) × Int × Int) × Int × List (List Int × Bool × List (Int × Int)) × Int → Option (List (Int × List (Int × Int) × Int × Int) × Int × Int × List (List Int × Bool × Bool × List (Int × Int))) :=
 fun (x : List (Int × List (Int × Int) × Int × Int) × Int × List (List Int × Bool × List (Int × Int)) × Int) => Option.bind (D.f79E n x.2.2.1) fun v1 => Option.bind (iterE n (fun (s2 : Int × List (Int × List (Int × Int) × Int × Int) × Int ×
 Int × List (List Int × Bool × Bool × List (Int × Int))) => if decide (s2.1 < (v1.length : Int)) = true then if (0 : Int) ≤ s2.1 ∧ s2.1 < (s2.2.2.2.2.length : Int) then Option.bind (D.f80E n (List.getD s2.2.2.2.2 (Int.toNat s2.1) ([], false,
 false, [])).1) fun v3 => Option.bind (D.f81E n (List.getD s2.2.2.2.2 (Int.toNat s2.1) ([], false, false, [])).2.2.2) fun v4 => if (0 : Int) ≤ s2.1 ∧ s2.1 < (↑(List.length (List.map (Ty.weak (Ty.st (Ty.pair (Ty.sl (Ty.int IntKind.i64))
 (Ty.pair Ty.bool (Ty.osl (Ty.st (Ty.pair (Ty.int IntKind.i64) (Ty.int IntKind.i64)))))))) s2.2.2.2.2)) : Int) then if (0 : Int) ≤ s2.1 ∧ s2.1 < (↑(List.length (List.map (Ty.weak (Ty.st (Ty.pair (Ty.sl (Ty.int IntKind.i64)) (Ty.pair Ty.bool
 (Ty.osl (Ty.st (Ty.pair (Ty.int IntKind.i64) (Ty.int IntKind.i64)))))))) (List.set s2.2.2.2.2 (Int.toNat s2.1) (v3, (List.getD s2.2.2.2.2 (Int.toNat s2.1) ([], false, false, [])).2)))) : Int) then some (Sum.inl (IntKind.i64.wrap (s2.1 + (1
 : Int)), s2.2.1, s2.2.2.1, s2.2.2.2.1, List.set (List.set s2.2.2.2.2 (Int.toNat s2.1) (v3, (List.getD s2.2.2.2.2 (Int.toNat s2.1) ([], false, false, [])).2)) (Int.toNat s2.1) ((List.getD (List.set s2.2.2.2.2 (Int.toNat s2.1) (v3, (List.getD
 s2.2.2.2.2 (Int.toNat s2.1) ([], false, false, [])).2)) (Int.toNat s2.1) ([], false, false, [])).1, (List.getD (List.set s2.2.2.2.2 (Int.toNat s2.1) (v3, (List.getD s2.2.2.2.2 (Int.toNat s2.1) ([], false, false, [])).2)) (Int.toNat s2.1)
 ([], false, false, [])).2.1, true, v4))) else none else none else none else some (Sum.inr (s2.2.1, s2.2.2.1, s2.2.2.2.1, s2.2.2.2.2))) ((0 : Int), x.1, x.2.1, x.2.2.2, v1)) fun (v2 : List (Int × List (Int × Int) × Int × Int) × Int × Int ×
 List (List Int × Bool × Bool × List (Int × Int))) => some (v2.1, v2.2.1, v2.2.2.1, v2.2.2.2)
theorem D.f52E_le (n : Nat) (h : n ≤ D.fuel) : ∀ x, Le (D.f52E n x) (D.f52F x) := by
  intro x
  unfold D.f52E D.f52F
  repeat' (first | with_reducible exact Le.rfl | with_reducible exact D.f79E_le n h _ | with_reducible exact D.f80E_le n h _ | with_reducible exact D.f81E_le n h _ | with_reducible apply Le.agree | with_reducible apply Le.bind | with_reducible apply Le.iter | with_reducible apply Le.ite | with_reducible apply Le.elim | intro _)
def D.f53E (n : Nat) : List Int × Bool × List (Int × List (Int × Int) × Int × Int) × Int × Int × List (List Int × Bool × Bool × List (Int × Int)) → Option (Int × Bool × List (Int × List (Int × Int) × Int × Int) × Int × Int × List (List Int
 × Bool × Bool × List (Int × Int))) := fun (x : List Int × Bool × List (Int × List (Int × Int) × Int × Int) × Int × Int × List (List Int × Bool × Bool × List (Int × Int))) => Option.bind (D.f82E n ((x.2.2.1, x.2.2.2.1, List.map (Ty.erD
 (Ty.st (Ty.pair (Ty.sl (Ty.int IntKind.i64)) (Ty.pair Ty.bool (Ty.osl (Ty.st (Ty.pair (Ty.int IntKind.i64) (Ty.int IntKind.i64)))))))) x.2.2.2.2.2, x.2.2.2.2.1), x.1, x.2.1)) fun v1 => if (v1 != (-1 : Int)) = true then some (v1, false,
 x.2.2.1, x.2.2.2.1, x.2.2.2.2.1, x.2.2.2.2.2) else Option.bind (if ((x.2.2.2.2.2.length : Int) == x.2.2.2.1) = true then if (0 : Int) ≤ (0 : Int) ∧ (0 : Int) ≤ (↑(List.length (List.replicate (List.length x.2.2.2.2.2) ([], false, false, [])
 ++ List.drop (List.length x.2.2.2.2.2) x.2.2.2.2.2)) : Int) then some ((x.2.2.2.2.2.length : Int) == x.2.2.2.1, x.2.2.1, x.2.2.2.1, IntKind.i64.wrap (x.2.2.2.2.1 + (1 : Int)), List.take (Int.toNat (0 : Int)) (List.replicate (List.length
 x.2.2.2.2.2) ([], false, false, []) ++ List.drop (List.length x.2.2.2.2.2) x.2.2.2.2.2)) else none else some ((x.2.2.2.2.2.length : Int) == x.2.2.2.1, x.2.2.1, x.2.2.2.1, x.2.2.2.2.1, x.2.2.2.2.2)) fun (v2 : Bool × List (Int × List (Int ×
 Int) × Int × Int) × Int × Int × List (List Int × Bool × Bool × List (Int × Int))) => Option.bind (D.f80E n x.1) fun v3 => if roomOk (List.length v2.2.2.2.2 + (1 : Nat)) (56 : Nat) then some (IntKind.i64.wrap ((↑(List.length (v2.2.2.2.2 ++
 [(v3, x.2.1, true, [])])) : Int) - (1 : Int)), v2.1, v2.2.1, v2.2.2.1, v2.2.2.2.1, v2.2.2.2.2 ++ [(v3, x.2.1, true, [])]) else none
theorem D.f53E_le (n : Nat) (h : n ≤ D.fuel) : ∀ x, Le (D.f53E n x) (D.f53F x) := by
  intro x
  unfold D.f53E D.f53F
  repeat' (first | with_reducible exact Le.rfl | with_reducible exact D.f80E_le n h _ | with_reducible exact D.f82E_le n h _ | with_reducible apply Le.agree | with_reducible apply Le.bind | with_reducible apply Le.iter | with_reducible apply Le.ite | with_reducible apply Le.elim | intro _)
def D.f84E (n : Nat) : Int × List (Int × List (Int × Int) × Int × Int) × Int × Int × List (List Int × Bool × Bool × List (Int × Int)) → Option (Bool × List (Int × List (Int × Int) × Int × Int) × Int × Int × List (List Int × Bool × Bool ×
 List (Int × Int))) := fun (x : Int × List (Int × List (Int × Int) × Int × Int) × Int × Int × List (List Int × Bool × Bool × List (Int × Int))) => if (0 : Int) ≤ x.1 ∧ x.1 < (x.2.1.length : Int) then some ((List.getD x.2.1 (Int.toNat x.1)
 ((0 : Int), [], (0 : Int), (0 : Int))).1 == (0 : Int), x.2.1, x.2.2.1, x.2.2.2.1, x.2.2.2.2) else none
theorem D.f84E_le (n : Nat) (h : n ≤ D.fuel) : ∀ x, Le (D.f84E n x) (D.f84F x) := by
  intro x
  unfold D.f84E D.f84F
  repeat' (first | with_reducible exact Le.rfl | with_reducible apply Le.agree | with_reducible apply Le.bind | with_reducible apply Le.iter | with_reducible apply Le.ite | with_reducible apply Le.elim | intro _)
def D.s13E (n : Nat) : List Int × List (Int × List (Int × Int) × Int × Int) × Int × Int × List (List Int × Bool × Bool × List (Int × Int)) → Option (Int × List (Int × List (Int × Int) × Int × Int) × Int × Int × List (List Int × Bool × Bool
 × List (Int × Int))) := fun (x : List Int × List (Int × List (Int × Int) × Int × Int) × Int × Int × List (List Int × Bool × Bool × List (Int × Int))) => Option.bind (iterE n (fun (s1 : Int × List (Int × List (Int × Int) × Int × Int) × Int ×
 Int × List (List Int × Bool × Bool × List (Int × Int))) => if decide (s1.1 < (x.1.length : Int)) = true then if (0 : Int) ≤ s1.1 ∧ s1.1 < (x.1.length : Int) then Option.bind (D.f84E n (List.getD x.1 (Int.toNat s1.1) (0 : Int), s1.2.1,
 s1.2.2.1, s1.2.2.2.1, s1.2.2.2.2)) fun v2 => if v2.1 = true then some (Sum.inr (Sum.inr (s1.1, v2.2.1, v2.2.2.1, v2.2.2.2.1, v2.2.2.2.2))) else some (Sum.inl (IntKind.i64.wrap (s1.1 + (1 : Int)), v2.2.1, v2.2.2.1, v2.2.2.2.1, v2.2.2.2.2))
 else none else some (Sum.inr (Sum.inl (s1.2.1, s1.2.2.1, s1.2.2.2.1, s1.2.2.2.2)))) ((0 : Int), x.2.1, x.2.2.1, x.2.2.2.1, x.2.2.2.2)) fun (v1 : List (Int × List (Int × Int) × Int × Int) × Int × Int × List (List Int × Bool × Bool × List
 (Int × Int)) ⊕ Int × List (Int × List (Int × Int) × Int × Int) × Int × Int × List (List Int × Bool × Bool × List (Int × Int))) => Sum.elim (fun (p2 : List (Int × List (Int × Int) × Int × Int) × Int × Int × List (List Int × Bool × Bool ×
 List (Int × Int))) => some ((-1 : Int), p2.1, p2.2.1, p2.2.2.1, p2.2.2.2)) (fun (q2 : Int × List (Int × List (Int × Int) × Int × Int) × Int × Int × List (List Int × Bool × Bool × List (Int × Int))) => some (q2.1, q2.2.1, q2.2.2.1,
 q2.2.2.2.1, q2.2.2.2.2)) v1
theorem D.s13E_le (n : Nat) (h : n ≤ D.fuel) : ∀ x, Le (D.s13E n x) (D.s13F x) := by
  intro x
  unfold D.s13E D.s13F
  repeat' (first | with_reducible exact Le.rfl | with_reducible exact D.f84E_le n h _ | with_reducible apply Le.agree | with_reducible apply Le.bind | with_reducible apply Le.iter | with_reducible apply Le.ite | with_reducible apply Le.elim | intro _)
def D.s14E (n : Nat) : List Int × List (Int × List (Int × Int) × Int × Int) × Int × Int × List (List Int × Bool × Bool × List (Int × Int)) → Option (Bool × List (Int × List (Int × Int) × Int × Int) × Int × Int × List (List Int × Bool × Bool
 × List (Int × Int))) := fun (x : List Int × List (Int × List (Int × Int) × Int × Int) × Int × Int × List (List Int × Bool × Bool × List (Int × Int))) => Option.bind (D.s13E n (x.1, x.2.1, x.2.2.1, x.2.2.2.1, x.2.2.2.2)) fun v1 => some
 (decide (v1.1 ≥ (0 : Int)), v1.2.1, v1.2.2.1, v1.2.2.2.1, v1.2.2.2.2)
theorem D.s14E_le (n : Nat) (h : n ≤ D.fuel) : ∀ x, Le (D.s14E n x) (D.s14F x) := by
  intro x
  unfold D.s14E D.s14F
  repeat' (first | with_reducible exact Le.rfl | with_reducible exact D.s13E_le n h _ | with_reducible apply Le.agree | with_reducible apply Le.bind | with_reducible apply Le.iter | with_reducible apply Le.ite | with_reducible apply Le.elim | intro _)
def D.f54E (n : Nat) : (List Int × Bool × List (Int × Int)) × Bool × List (Int × List (Int × Int) × Int × Int) × Int × Int × List (List Int × Bool × Bool × List (Int × Int)) → Option (Bool × List (Int × List (Int × Int) × Int × Int) × Int ×
 Int × List (List Int × Bool × Bool × List (Int × Int))) := fun (x : (List Int × Bool × List (Int × Int)) × Bool × List (Int × List (Int × Int) × Int × Int) × Int × Int × List (List Int × Bool × Bool × List (Int × Int))) => Option.bind
 (D.f83E n ((x.2.2.1, x.2.2.2.1, List.map (Ty.erD (Ty.st (Ty.pair (Ty.sl (Ty.int IntKind.i64)) (Ty.pair Ty.bool (Ty.osl (Ty.st (Ty.pair (Ty.int IntKind.i64) (Ty.int IntKind.i64)))))))) x.2.2.2.2.2, x.2.2.2.2.1), (x.1.1, x.1.2.1, x.1.2.2),
 x.2.1)) fun v1 => Option.bind (D.s14E n (v1, x.2.2.1, x.2.2.2.1, x.2.2.2.2.1, x.2.2.2.2.2)) fun v2 => some (v2.1, v2.2.1, v2.2.2.1, v2.2.2.2.1, v2.2.2.2.2)
theorem D.f54E_le (n : Nat) (h : n ≤ D.fuel) : ∀ x, Le (D.f54E n x) (D.f54F x) := by
  intro x
  unfold D.f54E D.f54F
  repeat' (first | with_reducible exact Le.rfl | with_reducible exact D.f83E_le n h _ | with_reducible exact D.s14E_le n h _ | with_reducible apply Le.agree | with_reducible apply Le.bind | with_reducible apply Le.iter | with_reducible apply Le.ite | with_reducible apply Le.elim | intro _)
def D.f86E (n : Nat) : (Int × Int) × Int → Option (Bool × Int) := fun (x : (Int × Int) × Int) => some (x.1.1 == x.2, x.2)
theorem D.f86E_le (n : Nat) (h : n ≤ D.fuel) : ∀ x, Le (D.f86E n x) (D.f86F x) := by
  intro x
  unfold D.f86E D.f86F
  repeat' (first | with_reducible exact Le.rfl | with_reducible apply Le.agree | with_reducible apply Le.bind | with_reducible apply Le.iter | with_reducible apply Le.ite | with_reducible apply Le.elim | intro _)
def D.s11E (n : Nat) : List (Int × Int) × Int → Option (Int × Int) := fun (x : List (Int × Int) × Int) => Option.bind (iterE n (fun (s1 : Int × Int) => if decide (s1.1 < (x.1.length : Int)) = true then if (0 : Int) ≤ s1.1 ∧ s1.1 <
 (x.1.length : Int) then Option.bind (D.f86E n (List.getD x.1 (Int.toNat s1.1) ((0 : Int), (0 : Int)), s1.2)) fun v2 => if v2.1 = true then some (Sum.inr (Sum.inr (s1.1, v2.2))) else some (Sum.inl (IntKind.i64.wrap (s1.1 + (1 : Int)), v2.2))
 else none else some (Sum.inr (Sum.inl s1.2))) ((0 : Int), x.2)) fun v1 => Sum.elim (fun (p2 : Int) => some ((-1 : Int), p2)) (fun (q2 : Int × Int) => some (q2.1, q2.2)) v1
theorem D.s11E_le (n : Nat) (h : n ≤ D.fuel) : ∀ x, Le (D.s11E n x) (D.s11F x) := by
  intro x
  unfold D.s11E D.s11F
  repeat' (first | with_reducible exact Le.rfl | with_reducible exact D.f86E_le n h _ | with_reducible apply Le.agree | with_reducible apply Le.bind | with_reducible apply Le.iter | with_reducible apply Le.ite | with_reducible apply Le.elim | intro _)
def D.f55E (n : Nat) : Int × Int × List (Int × List (Int × Int) × Int × Int) × Int × Int × List (List Int × Bool × Bool × List (Int × Int)) → Option (Int × List (Int × List (Int × Int) × Int × Int) × Int × Int × List (List Int × Bool × Bool
 × List (Int × Int))) := fun (x : Int × Int × List (Int × List (Int × Int) × Int × Int) × Int × Int × List (List Int × Bool × Bool × List (Int × Int))) => if (0 : Int) ≤ x.1 ∧ x.1 < (x.2.2.2.2.2.length : Int) then Option.bind (D.s11E n
 ((List.getD x.2.2.2.2.2 (Int.toNat x.1) ([], false, false, [])).2.2.2, x.2.1)) fun v1 => if decide (v1.1 ≥ (0 : Int)) = true then if (0 : Int) ≤ v1.1 ∧ v1.1 < (↑(List.length (Ty.erD (Ty.st (Ty.pair (Ty.sl (Ty.int IntKind.i64)) (Ty.pair
 Ty.bool (Ty.osl (Ty.st (Ty.pair (Ty.int IntKind.i64) (Ty.int IntKind.i64))))))) (List.getD x.2.2.2.2.2 (Int.toNat x.1) ([], false, false, []))).2.2) : Int) then some ((List.getD (Ty.erD (Ty.st (Ty.pair (Ty.sl (Ty.int IntKind.i64)) (Ty.pair
 Ty.bool (Ty.osl (Ty.st (Ty.pair (Ty.int IntKind.i64) (Ty.int IntKind.i64))))))) (List.getD x.2.2.2.2.2 (Int.toNat x.1) ([], false, false, []))).2.2 (Int.toNat v1.1) ((0 : Int), (0 : Int))).2, x.2.2.1, x.2.2.2.1, x.2.2.2.2.1, x.2.2.2.2.2)
 else none else Option.bind (Option.bind (D.f87E n ((x.2.2.1, x.2.2.2.1, List.map (Ty.erD (Ty.st (Ty.pair (Ty.sl (Ty.int IntKind.i64)) (Ty.pair Ty.bool (Ty.osl (Ty.st (Ty.pair (Ty.int IntKind.i64) (Ty.int IntKind.i64)))))))) x.2.2.2.2.2,
 x.2.2.2.2.1), ((List.getD x.2.2.2.2.2 (Int.toNat x.1) ([], false, false, [])).1, (List.getD x.2.2.2.2.2 (Int.toNat x.1) ([], false, false, [])).2.1, (List.getD x.2.2.2.2.2 (Int.toNat x.1) ([], false, false, [])).2.2.2), v1.2)) fun v2 => if
 decide ((v2.length : Int) > (0 : Int)) = true then Option.bind (D.f53E n (v2, false, x.2.2.1, x.2.2.2.1, x.2.2.2.2.1, x.2.2.2.2.2)) fun v3 => some (v3.1, v3.2.1, v3.2.2.1, v3.2.2.2.1, v3.2.2.2.2.1, v1.2, v3.2.2.2.2.2) else some ((-1 : Int),
 false, x.2.2.1, x.2.2.2.1, x.2.2.2.2.1, v1.2, x.2.2.2.2.2)) fun (v2 : Int × Bool × List (Int × List (Int × Int) × Int × Int) × Int × Int × Int × List (List Int × Bool × Bool × List (Int × Int))) => if (!v2.2.1) = true then if (0 : Int) ≤
 x.1 ∧ x.1 < (v2.2.2.2.2.2.2.length : Int) then if ownedP (List.getD v2.2.2.2.2.2.2 (Int.toNat x.1) ([], false, false, [])).2.2.1 then if roomOk (List.length (List.getD v2.2.2.2.2.2.2 (Int.toNat x.1) ([], false, false, [])).2.2.2 + (1 :
 Nat)) (16 : Nat) then some (v2.1, v2.2.2.1, v2.2.2.2.1, v2.2.2.2.2.1, List.set (List.set v2.2.2.2.2.2.2 (Int.toNat x.1) ((List.getD v2.2.2.2.2.2.2 (Int.toNat x.1) ([], false, false, [])).1, (List.getD v2.2.2.2.2.2.2 (Int.toNat x.1) ([],
 false, false, [])).2.1, false, (List.getD v2.2.2.2.2.2.2 (Int.toNat x.1) ([], false, false, [])).2.2.2)) (Int.toNat x.1) ((List.getD (List.set v2.2.2.2.2.2.2 (Int.toNat x.1) ((List.getD v2.2.2.2.2.2.2 (Int.toNat x.1) ([], false, false,
 [])).1, (List.getD v2.2.2.2.2.2.2 (Int.toNat x.1) ([], false, false, [])).2.1, false, (List.getD v2.2.2.2.2.2.2 (Int.toNat x.1) ([], false, false, [])).2.2.2)) (Int.toNat x.1) ([], false, false, [])).1, (List.getD (List.set v2.2.2.2.2.2.2
 (Int.toNat x.1) ((List.getD v2.2.2.2.2.2.2 (Int.toNat x.1) ([], false, false, [])).1, (List.getD v2.2.2.2.2.2.2 (Int.toNat x.1) ([], false, false, [])).2.1, false, (List.getD v2.2.2.2.2.2.2 (Int.toNat x.1) ([], false, false, [])).2.2.2))
 (Int.toNat x.1) ([], false, false, [])).2.1, true, (List.getD v2.2.2.2.2.2.2 (Int.toNat x.1) ([], false, false, [])).2.2.2 ++ [(v2.2.2.2.2.2.1, v2.1)])) else none else none else none else some (v2.1, v2.2.2.1, v2.2.2.2.1, v2.2.2.2.2.1,
 v2.2.2.2.2.2.2) else none
theorem D.f55E_le (n : Nat) (h : n ≤ D.fuel) : ∀ x, Le (D.f55E n x) (D.f55F x) := by
  intro x
  unfold D.f55E D.f55F
  repeat' (first | with_reducible exact Le.rfl | with_reducible exact D.f53E_le n h _ | with_reducible exact D.f87E_le n h _ | with_reducible exact D.s11E_le n h _ | with_reducible apply Le.agree | with_reducible apply Le.bind | with_reducible apply Le.iter | with_reducible apply Le.ite | with_reducible apply Le.elim | intro _)
def D.f29E (n : Nat) : (List (Int × List (Int × Int) × Int × Int) × Int × List (List Int × Bool × List (Int × Int)) × Int) × List Int × Int → Option ((List (Int × List (Int × Int) × Int × Int) × Int × List (List Int × Bool × List (Int ×
 Int)) × Int) × Int × Int) := fun (x : (List (Int × List (Int × Int) × Int × Int) × Int × List (List Int × Bool × List (Int × Int)) × Int) × List Int × Int) => Option.bind (if decide (x.2.2 < (0 : Int)) = true then some (true, x.1.1,
 x.1.2.1, x.1.2.2.1, x.1.2.2.2, (0 : Int), (0 : Int), [], []) else if decide (x.2.2 > (x.2.1.length : Int)) = true then some (true, x.1.1, x.1.2.1, x.1.2.2.1, x.1.2.2.2, (0 : Int), (0 : Int), [], []) else Option.bind (D.f30E n (x.1.1,
 x.1.2.1, x.1.2.2.1, x.1.2.2.2)) fun v1 => some (!v1, x.1.1, x.1.2.1, x.1.2.2.1, x.1.2.2.2, (0 : Int), (0 : Int), [], [])) fun (v1 : Bool × List (Int × List (Int × Int) × Int × Int) × Int × List (List Int × Bool × List (Int × Int)) × Int ×
 Int × Int × List (Int × List (Int × Int) × Int × Int) × List (List Int × Bool × Bool × List (Int × Int))) => if v1.1 = true then some ((v1.2.1, v1.2.2.1, v1.2.2.2.1, v1.2.2.2.2.1), (-1 : Int), (0 : Int)) else Option.bind (D.f52E n (v1.2.1,
 v1.2.2.1, v1.2.2.2.1, v1.2.2.2.2.1)) fun v2 => Option.bind (D.f53E n ([(0 : Int)], x.2.2 == (0 : Int), v2.1, v2.2.1, v2.2.2.1, v2.2.2.2)) fun v3 => Option.bind (iterE n (fun (s4 : Int × Int × Int × Int × Int × Int × List (Int × List (Int ×
 Int) × Int × Int) × List (List Int × Bool × Bool × List (Int × Int)) × List (Int × List (Int × Int) × Int × Int) × Int × Int × List (List Int × Bool × Bool × List (Int × Int))) => if (s4.2.2.1 != (-1 : Int)) = true then Option.bind (if (0 :
 Int) ≤ s4.2.2.1 ∧ s4.2.2.1 < (s4.2.2.2.2.2.2.2.2.2.2.2.length : Int) then Option.bind (D.f54E n ((Ty.erD (Ty.sl (Ty.int IntKind.i64)) (List.getD s4.2.2.2.2.2.2.2.2.2.2.2 (Int.toNat s4.2.2.1) ([], false, false, [])).1, Ty.erD (Ty.pair
 Ty.bool (Ty.osl (Ty.st (Ty.pair (Ty.int IntKind.i64) (Ty.int IntKind.i64))))) (List.getD s4.2.2.2.2.2.2.2.2.2.2.2 (Int.toNat s4.2.2.1) ([], false, false, [])).2), s4.2.2.2.1 == (x.2.1.length : Int), s4.2.2.2.2.2.2.2.2.1,
 s4.2.2.2.2.2.2.2.2.2.1, s4.2.2.2.2.2.2.2.2.2.2.1, s4.2.2.2.2.2.2.2.2.2.2.2)) fun v5 => if v5.1 = true then some (s4.2.2.2.1, s4.2.2.2.2.1, s4.2.2.2.2.2.1, s4.2.2.2.2.2.2.1, s4.2.2.2.2.2.2.2.1, v5.2.1, v5.2.2.1, v5.2.2.2.1, v5.2.2.2.2) else
 some (s4.2.1, s4.2.2.2.2.1, s4.2.2.2.2.2.1, s4.2.2.2.2.2.2.1, s4.2.2.2.2.2.2.2.1, v5.2.1, v5.2.2.1, v5.2.2.2.1, v5.2.2.2.2) else none) fun (v5 : Int × Int × Int × List (Int × List (Int × Int) × Int × Int) × List (List Int × Bool × Bool ×
 List (Int × Int)) × List (Int × List (Int × Int) × Int × Int) × Int × Int × List (List Int × Bool × Bool × List (Int × Int))) => if (s4.2.2.2.1 == (x.2.1.length : Int)) = true then some (Sum.inr (IntKind.i64.wrap (s4.1 + (1 : Int)), v5.1,
 v5.2.1, v5.2.2.1, v5.2.2.2.1, v5.2.2.2.2.1, v5.2.2.2.2.2.1, v5.2.2.2.2.2.2.1, v5.2.2.2.2.2.2.2.1, v5.2.2.2.2.2.2.2.2)) else if (0 : Int) ≤ s4.2.2.2.1 ∧ s4.2.2.2.1 < (x.2.1.length : Int) then Option.bind (D.f55E n (s4.2.2.1, List.getD x.2.1
 (Int.toNat s4.2.2.2.1) (0 : Int), v5.2.2.2.2.2.1, v5.2.2.2.2.2.2.1, v5.2.2.2.2.2.2.2.1, v5.2.2.2.2.2.2.2.2)) fun v6 => some (Sum.inl (IntKind.i64.wrap (s4.1 + (1 : Int)), v5.1, v6.1, IntKind.i64.wrap (s4.2.2.2.1 + (1 : Int)), v5.2.1,
 v5.2.2.1, v5.2.2.2.1, v5.2.2.2.2.1, v6.2.1, v6.2.2.1, v6.2.2.2.1, v6.2.2.2.2)) else none else some (Sum.inr (s4.1, s4.2.1, s4.2.2.2.2.1, s4.2.2.2.2.2.1, s4.2.2.2.2.2.2.1, s4.2.2.2.2.2.2.2.1, s4.2.2.2.2.2.2.2.2.1, s4.2.2.2.2.2.2.2.2.2.1,
 s4.2.2.2.2.2.2.2.2.2.2.1, s4.2.2.2.2.2.2.2.2.2.2.2))) ((0 : Int), (-1 : Int), v3.1, x.2.2, v1.2.2.2.2.2.1, v1.2.2.2.2.2.2.1, v1.2.2.2.2.2.2.2.1, v1.2.2.2.2.2.2.2.2, v3.2.2.1, v3.2.2.2.1, v3.2.2.2.2.1, v3.2.2.2.2.2)) fun (v4 : Int × Int ×
 Int × Int × List (Int × List (Int × Int) × Int × Int) × List (List Int × Bool × Bool × List (Int × Int)) × List (Int × List (Int × Int) × Int × Int) × Int × Int × List (List Int × Bool × Bool × List (Int × Int))) => some ((v4.2.2.2.2.2.2.1,
 v4.2.2.2.2.2.2.2.1, List.map (Ty.erD (Ty.st (Ty.pair (Ty.sl (Ty.int IntKind.i64)) (Ty.pair Ty.bool (Ty.osl (Ty.st (Ty.pair (Ty.int IntKind.i64) (Ty.int IntKind.i64)))))))) v4.2.2.2.2.2.2.2.2.2, v4.2.2.2.2.2.2.2.2.1), v4.2.1, v4.1)
theorem D.f29E_le (n : Nat) (h : n ≤ D.fuel) : ∀ x, Le (D.f29E n x) (D.f29F x) := by
  intro x
  unfold D.f29E D.f29F
  repeat' (first | with_reducible exact Le.rfl | with_reducible exact D.f30E_le n h _ | with_reducible exact D.f52E_le n h _ | with_reducible exact D.f53E_le n h _ | with_reducible exact D.f54E_le n h _ | with_reducible exact D.f55E_le n h _ | with_reducible apply Le.agree | with_reducible apply Le.bind | with_reducible apply Le.iter | with_reducible apply Le.ite | with_reducible apply Le.elim | intro _)
def D.f31E (n : Nat) : (List (Int × List (Int × Int) × Int × Int) × Int × List (List Int × Bool × List (Int × Int)) × Int) × List Int × Bool → Option ((List (Int × List (Int × Int) × Int × Int) × Int × List (List Int × Bool × List (Int ×
 Int)) × Int) × Int) := fun (x : (List (Int × List (Int × Int) × Int × Int) × Int × List (List Int × Bool × List (Int × Int)) × Int) × List Int × Bool) => Option.bind (Option.bind (D.f30E n (x.1.1, x.1.2.1, x.1.2.2.1, x.1.2.2.2)) fun v1 =>
 if (!v1) = true then some (true, x.1.1, x.1.2.1, x.1.2.2.1, x.1.2.2.2, (0 : Int), (0 : Int), [], []) else Option.bind (D.f57E n (x.2.1, (x.1.1.length : Int))) fun v2 => some (!v2, x.1.1, x.1.2.1, x.1.2.2.1, x.1.2.2.2, (0 : Int), (0 : Int),
 [], [])) fun (v1 : Bool × List (Int × List (Int × Int) × Int × Int) × Int × List (List Int × Bool × List (Int × Int)) × Int × Int × Int × List (Int × List (Int × Int) × Int × Int) × List (List Int × Bool × Bool × List (Int × Int))) => if
 v1.1 = true then some ((v1.2.1, v1.2.2.1, v1.2.2.2.1, v1.2.2.2.2.1), (-1 : Int)) else Option.bind (D.f52E n (v1.2.1, v1.2.2.1, v1.2.2.2.1, v1.2.2.2.2.1)) fun v2 => Option.bind (D.f53E n (x.2.1, x.2.2, v2.1, v2.2.1, v2.2.2.1, v2.2.2.2)) fun
 v3 => some ((v3.2.2.1, v3.2.2.2.1, List.map (Ty.erD (Ty.st (Ty.pair (Ty.sl (Ty.int IntKind.i64)) (Ty.pair Ty.bool (Ty.osl (Ty.st (Ty.pair (Ty.int IntKind.i64) (Ty.int IntKind.i64)))))))) v3.2.2.2.2.2, v3.2.2.2.2.1), v3.1)
theorem D.f31E_le (n : Nat) (h : n ≤ D.fuel) : ∀ x, Le (D.f31E n x) (D.f31F x) := by
  intro x
  unfold D.f31E D.f31F
  repeat' (first | with_reducible exact Le.rfl | with_reducible exact D.f30E_le n h _ | with_reducible exact D.f52E_le n h _ | with_reducible exact D.f53E_le n h _ | with_reducible exact D.f57E_le n h _ | with_reducible apply Le.agree | with_reducible apply Le.bind | with_reducible apply Le.iter | with_reducible apply Le.ite | with_reducible apply Le.elim | intro _)
def D.f32E (n : Nat) : (List (Int × List (Int × Int) × Int × Int) × Int × List (List Int × Bool × List (Int × Int)) × Int) × Int × Int → Option ((List (Int × List (Int × Int) × Int × Int) × Int × List (List Int × Bool × List (Int × Int)) ×
 Int) × Int) := fun (x : (List (Int × List (Int × Int) × Int × Int) × Int × List (List Int × Bool × List (Int × Int)) × Int) × Int × Int) => Option.bind (if decide (x.2.1 < (0 : Int)) = true then some (true, x.1.1, x.1.2.1, x.1.2.2.1,
 x.1.2.2.2, (0 : Int), (0 : Int), [], []) else if decide (x.2.1 ≥ (x.1.2.2.1.length : Int)) = true then some (true, x.1.1, x.1.2.1, x.1.2.2.1, x.1.2.2.2, (0 : Int), (0 : Int), [], []) else Option.bind (D.f30E n (x.1.1, x.1.2.1, x.1.2.2.1,
 x.1.2.2.2)) fun v1 => some (!v1, x.1.1, x.1.2.1, x.1.2.2.1, x.1.2.2.2, (0 : Int), (0 : Int), [], [])) fun (v1 : Bool × List (Int × List (Int × Int) × Int × Int) × Int × List (List Int × Bool × List (Int × Int)) × Int × Int × Int × List (Int
 × List (Int × Int) × Int × Int) × List (List Int × Bool × Bool × List (Int × Int))) => if v1.1 = true then some ((v1.2.1, v1.2.2.1, v1.2.2.2.1, v1.2.2.2.2.1), (-1 : Int)) else Option.bind (D.f52E n (v1.2.1, v1.2.2.1, v1.2.2.2.1,
 v1.2.2.2.2.1)) fun v2 => Option.bind (D.f55E n (x.2.1, x.2.2, v2.1, v2.2.1, v2.2.2.1, v2.2.2.2)) fun v3 => some ((v3.2.1, v3.2.2.1, List.map (Ty.erD (Ty.st (Ty.pair (Ty.sl (Ty.int IntKind.i64)) (Ty.pair Ty.bool (Ty.osl (Ty.st (Ty.pair
 (Ty.int IntKind.i64) (Ty.int IntKind.i64)))))))) v3.2.2.2.2, v3.2.2.2.1), v3.1)
theorem D.f32E_le (n : Nat) (h : n ≤ D.fuel) : ∀ x, Le (D.f32E n x) (D.f32F x) := by
  intro x
  unfold D.f32E D.f32F
  repeat' (first | with_reducible exact Le.rfl | with_reducible exact D.f30E_le n h _ | with_reducible exact D.f52E_le n h _ | with_reducible exact D.f55E_le n h _ | with_reducible apply Le.agree | with_reducible apply Le.bind | with_reducible apply Le.iter | with_reducible apply Le.ite | with_reducible apply Le.elim | intro _)
def D.f92E (n : Nat) : List (Int × Int) × List (Int × Int) → Option (Bool) := fun (x : List (Int × Int) × List (Int × Int)) => if ((x.1.length : Int) != (x.2.length : Int)) = true then some false else Option.bind (iterE n (fun (s1 : Int) =>
 if decide (s1 < (x.1.length : Int)) = true then if (0 : Int) ≤ s1 ∧ s1 < (x.1.length : Int) then if (0 : Int) ≤ s1 ∧ s1 < (x.2.length : Int) then if (!Ty.eqb (Ty.st (Ty.pair (Ty.int IntKind.i64) (Ty.int IntKind.i64))) (List.getD x.1
 (Int.toNat s1) ((0 : Int), (0 : Int))) (List.getD x.2 (Int.toNat s1) ((0 : Int), (0 : Int)))) = true then some (Sum.inr (Sum.inr false)) else some (Sum.inl (IntKind.i64.wrap (s1 + (1 : Int)))) else none else none else some (Sum.inr (Sum.inl
 ()))) (0 : Int)) fun v1 => Sum.elim (fun (p2 : PUnit) => some true) (fun (q2 : Bool) => some q2) v1
theorem D.f92E_le (n : Nat) (h : n ≤ D.fuel) : ∀ x, Le (D.f92E n x) (D.f92F x) := by
  intro x
  unfold D.f92E D.f92F
  repeat' (first | with_reducible exact Le.rfl | with_reducible apply Le.agree | with_reducible apply Le.bind | with_reducible apply Le.iter | with_reducible apply Le.ite | with_reducible apply Le.elim | intro _)
def D.f91E (n : Nat) : (Int × List (Int × Int) × Int × Int) × Int × List (Int × Int) × Int × Int → Option (Bool) := fun (x : (Int × List (Int × Int) × Int × Int) × Int × List (Int × Int) × Int × Int) => if (x.1.1 == x.2.1) = true then if
 (x.1.2.2.1 == x.2.2.2.1) = true then if (x.1.2.2.2 == x.2.2.2.2) = true then Option.bind (D.f92E n (x.1.2.1, x.2.2.1)) fun v1 => some v1 else some false else some false else some false
theorem D.f91E_le (n : Nat) (h : n ≤ D.fuel) : ∀ x, Le (D.f91E n x) (D.f91F x) := by
  intro x
  unfold D.f91E D.f91F
  repeat' (first | with_reducible exact Le.rfl | with_reducible exact D.f92E_le n h _ | with_reducible apply Le.agree | with_reducible apply Le.bind | with_reducible apply Le.iter | with_reducible apply Le.ite | with_reducible apply Le.elim | intro _)
def D.s9E (n : Nat) : List (Int × List (Int × Int) × Int × Int) × List (Int × List (Int × Int) × Int × Int) → Option (Bool) := fun (x : List (Int × List (Int × Int) × Int × Int) × List (Int × List (Int × Int) × Int × Int)) => if
 ((x.1.length : Int) != (x.2.length : Int)) = true then some false else Option.bind (iterE n (fun (s1 : Int) => if decide (s1 < (x.1.length : Int)) = true then if (0 : Int) ≤ s1 ∧ s1 < (x.1.length : Int) then if (0 : Int) ≤ s1 ∧ s1 <
 (x.2.length : Int) then Option.bind (D.f91E n (((List.getD x.1 (Int.toNat s1) ((0 : Int), [], (0 : Int), (0 : Int))).1, (List.getD x.1 (Int.toNat s1) ((0 : Int), [], (0 : Int), (0 : Int))).2.1, (List.getD x.1 (Int.toNat s1) ((0 : Int), [],
 (0 : Int), (0 : Int))).2.2.1, (List.getD x.1 (Int.toNat s1) ((0 : Int), [], (0 : Int), (0 : Int))).2.2.2), (List.getD x.2 (Int.toNat s1) ((0 : Int), [], (0 : Int), (0 : Int))).1, (List.getD x.2 (Int.toNat s1) ((0 : Int), [], (0 : Int), (0 :
 Int))).2.1, (List.getD x.2 (Int.toNat s1) ((0 : Int), [], (0 : Int), (0 : Int))).2.2.1, (List.getD x.2 (Int.toNat s1) ((0 : Int), [], (0 : Int), (0 : Int))).2.2.2)) fun v2 => if (!v2) = true then some (Sum.inr (Sum.inr false)) else some
 (Sum.inl (IntKind.i64.wrap (s1 + (1 : Int)))) else none else none else some (Sum.inr (Sum.inl ()))) (0 : Int)) fun v1 => Sum.elim (fun (p2 : PUnit) => some true) (fun (q2 : Bool) => some q2) v1
theorem D.s9E_le (n : Nat) (h : n ≤ D.fuel) : ∀ x, Le (D.s9E n x) (D.s9F x) := by
  intro x
  unfold D.s9E D.s9F
  repeat' (first | with_reducible exact Le.rfl | with_reducible exact D.f91E_le n h _ | with_reducible apply Le.agree | with_reducible apply Le.bind | with_reducible apply Le.iter | with_reducible apply Le.ite | with_reducible apply Le.elim | intro _)
def D.f58E (n : Nat) : List (Int × List (Int × Int) × Int × Int) × List (Int × List (Int × Int) × Int × Int) → Option (Bool) := fun (x : List (Int × List (Int × Int) × Int × Int) × List (Int × List (Int × Int) × Int × Int)) => Option.bind
 (D.s9E n (x.1, x.2)) fun v1 => some v1
theorem D.f58E_le (n : Nat) (h : n ≤ D.fuel) : ∀ x, Le (D.f58E n x) (D.f58F x) := by
  intro x
  unfold D.f58E D.f58F
  repeat' (first | with_reducible exact Le.rfl | with_reducible exact D.s9E_le n h _ | with_reducible apply Le.agree | with_reducible apply Le.bind | with_reducible apply Le.iter | with_reducible apply Le.ite | with_reducible apply Le.elim | intro _)
def D.f62E (n : Nat) : List (Int × Int) × List (Int × Int) → Option (Bool) := fun (x : List (Int × Int) × List (Int × Int)) => if ((x.1.length : Int) != (x.2.length : Int)) = true then some false else Option.bind (iterE n (fun (s1 : Int) =>
 if decide (s1 < (x.1.length : Int)) = true then if (0 : Int) ≤ s1 ∧ s1 < (x.1.length : Int) then if (0 : Int) ≤ s1 ∧ s1 < (x.2.length : Int) then if (!Ty.eqb (Ty.st (Ty.pair (Ty.int IntKind.i64) (Ty.int IntKind.i64))) (List.getD x.1
 (Int.toNat s1) ((0 : Int), (0 : Int))) (List.getD x.2 (Int.toNat s1) ((0 : Int), (0 : Int)))) = true then some (Sum.inr (Sum.inr false)) else some (Sum.inl (IntKind.i64.wrap (s1 + (1 : Int)))) else none else none else some (Sum.inr (Sum.inl
 ()))) (0 : Int)) fun v1 => Sum.elim (fun (p2 : PUnit) => some true) (fun (q2 : Bool) => some q2) v1
theorem D.f62E_le (n : Nat) (h : n ≤ D.fuel) : ∀ x, Le (D.f62E n x) (D.f62F x) := by
  intro x
  unfold D.f62E D.f62F
  repeat' (first | with_reducible exact Le.rfl | with_reducible apply Le.agree | with_reducible apply Le.bind | with_reducible apply Le.iter | with_reducible apply Le.ite | with_reducible apply Le.elim | intro _)
def D.f60E (n : Nat) : (List Int × Bool × List (Int × Int)) × List Int × Bool × List (Int × Int) → Option (Bool) := fun (x : (List Int × Bool × List (Int × Int)) × List Int × Bool × List (Int × Int)) => if (x.1.2.1 == x.2.2.1) = true then
 Option.bind (D.f61E n (x.1.1, x.2.1)) fun v1 => if v1 = true then Option.bind (D.f62E n (x.1.2.2, x.2.2.2)) fun v2 => some v2 else some false else some false
theorem D.f60E_le (n : Nat) (h : n ≤ D.fuel) : ∀ x, Le (D.f60E n x) (D.f60F x) := by
  intro x
  unfold D.f60E D.f60F
  repeat' (first | with_reducible exact Le.rfl | with_reducible exact D.f61E_le n h _ | with_reducible exact D.f62E_le n h _ | with_reducible apply Le.agree | with_reducible apply Le.bind | with_reducible apply Le.iter | with_reducible apply Le.ite | with_reducible apply Le.elim | intro _)
def D.s8E (n : Nat) : List (List Int × Bool × List (Int × Int)) × List (List Int × Bool × List (Int × Int)) → Option (Bool) := fun (x : List (List Int × Bool × List (Int × Int)) × List (List Int × Bool × List (Int × Int))) => if
 ((x.1.length : Int) != (x.2.length : Int)) = true then some false else Option.bind (iterE n (fun (s1 : Int) => if decide (s1 < (x.1.length : Int)) = true then if (0 : Int) ≤ s1 ∧ s1 < (x.1.length : Int) then if (0 : Int) ≤ s1 ∧ s1 <
 (x.2.length : Int) then Option.bind (D.f60E n (((List.getD x.1 (Int.toNat s1) ([], false, [])).1, (List.getD x.1 (Int.toNat s1) ([], false, [])).2.1, (List.getD x.1 (Int.toNat s1) ([], false, [])).2.2), (List.getD x.2 (Int.toNat s1) ([],
 false, [])).1, (List.getD x.2 (Int.toNat s1) ([], false, [])).2.1, (List.getD x.2 (Int.toNat s1) ([], false, [])).2.2)) fun v2 => if (!v2) = true then some (Sum.inr (Sum.inr false)) else some (Sum.inl (IntKind.i64.wrap (s1 + (1 : Int))))
 else none else none else some (Sum.inr (Sum.inl ()))) (0 : Int)) fun v1 => Sum.elim (fun (p2 : PUnit) => some true) (fun (q2 : Bool) => some q2) v1
theorem D.s8E_le (n : Nat) (h : n ≤ D.fuel) : ∀ x, Le (D.s8E n x) (D.s8F x) := by
  intro x
  unfold D.s8E D.s8F
  repeat' (first | with_reducible exact Le.rfl | with_reducible exact D.f60E_le n h _ | with_reducible apply Le.agree | with_reducible apply Le.bind | with_reducible apply Le.iter | with_reducible apply Le.ite | with_reducible apply Le.elim | intro _)
def D.f33E (n : Nat) : (List (Int × List (Int × Int) × Int × Int) × Int × List (List Int × Bool × List (Int × Int)) × Int) × List (Int × List (Int × Int) × Int × Int) × Int × List (List Int × Bool × List (Int × Int)) × Int → Option (Bool)
 := fun (x : (List (Int × List (Int × Int) × Int × Int) × Int × List (List Int × Bool × List (Int × Int)) × Int) × List (Int × List (Int × Int) × Int × Int) × Int × List (List Int × Bool × List (Int × Int)) × Int) => if (x.1.2.1 == x.2.2.1)
 = true then if (x.1.2.2.2 == x.2.2.2.2) = true then Option.bind (D.f58E n (x.1.1, x.2.1)) fun v1 => if v1 = true then Option.bind (D.s8E n (x.1.2.2.1, x.2.2.2.1)) fun v2 => some v2 else some false else some false else some false
theorem D.f33E_le (n : Nat) (h : n ≤ D.fuel) : ∀ x, Le (D.f33E n x) (D.f33F x) := by
  intro x
  unfold D.f33E D.f33F
  repeat' (first | with_reducible exact Le.rfl | with_reducible exact D.f58E_le n h _ | with_reducible exact D.s8E_le n h _ | with_reducible apply Le.agree | with_reducible apply Le.bind | with_reducible apply Le.iter | with_reducible apply Le.ite | with_reducible apply Le.elim | intro _)
def D.f27E (n : Nat) : PUnit → Option (Bool) := fun (x : PUnit) => Option.bind (D.f28E n ([((2 : Int), [], (1 : Int), (3 : Int)), ((1 : Int), [((97 : Int), (97 : Int))], (0 : Int), (0 : Int)), ((3 : Int), [], (0 : Int), (0 : Int)), ((0 :
 Int), [], (0 : Int), (0 : Int))], (2 : Int))) fun v1 => Option.bind (D.f28E n ([((2 : Int), [], (1 : Int), (3 : Int)), ((1 : Int), [((97 : Int), (97 : Int))], (0 : Int), (0 : Int)), ((3 : Int), [], (0 : Int), (0 : Int)), ((0 : Int), [], (0
 : Int), (0 : Int))], (1 : Int))) fun v2 => Option.bind (D.f29E n ((v1.1.1, v1.1.2.1, v1.1.2.2.1, v1.1.2.2.2), [(97 : Int), (97 : Int), (98 : Int)], (0 : Int))) fun v3 => Option.bind (if (v1.2 != (0 : Int)) = true then some (true, v3.1.1,
 v3.1.2.1, v3.1.2.2.1, v3.1.2.2.2) else if (v2.2 != (13 : Int)) = true then some (true, v3.1.1, v3.1.2.1, v3.1.2.2.1, v3.1.2.2.2) else if (v3.2.1 != (2 : Int)) = true then some (true, v3.1.1, v3.1.2.1, v3.1.2.2.1, v3.1.2.2.2) else if (v3.2.2
 != (3 : Int)) = true then some (true, v3.1.1, v3.1.2.1, v3.1.2.2.1, v3.1.2.2.2) else if ((v3.1.2.2.1.length : Int) != (2 : Int)) = true then some (true, v3.1.1, v3.1.2.1, v3.1.2.2.1, v3.1.2.2.2) else if (0 : Int) ≤ (1 : Int) ∧ (1 : Int) <
 (v3.1.2.2.1.length : Int) then some ((↑(List.length (List.getD v3.1.2.2.1 (Int.toNat (1 : Int)) ([], false, [])).2.2) : Int) != (2 : Int), v3.1.1, v3.1.2.1, v3.1.2.2.1, v3.1.2.2.2) else none) fun (v4 : Bool × List (Int × List (Int × Int) ×
 Int × Int) × Int × List (List Int × Bool × List (Int × Int)) × Int) => if v4.1 = true then some false else Option.bind (D.f31E n ((v4.2.1, v4.2.2.1, v4.2.2.2.1, v4.2.2.2.2), [(1 : Int)], false)) fun v5 => Option.bind (D.f32E n ((v4.2.1,
 v4.2.2.1, v4.2.2.2.1, v4.2.2.2.2), (1 : Int), (97 : Int))) fun v6 => if (0 : Int) ≤ (0 : Int) ∧ (0 : Int) < (v4.2.2.2.1.length : Int) then if (List.getD v4.2.2.2.1 (Int.toNat (0 : Int)) ([], false, [])).2.1 = true then if (0 : Int) ≤ (1 :
 Int) ∧ (1 : Int) < (v4.2.2.2.1.length : Int) then if (0 : Int) ≤ (1 : Int) ∧ (1 : Int) < (↑(List.length (List.getD v4.2.2.2.1 (Int.toNat (1 : Int)) ([], false, [])).2.2) : Int) then if Ty.eqb (Ty.st (Ty.pair (Ty.int IntKind.i64) (Ty.int
 IntKind.i64))) (List.getD (List.getD v4.2.2.2.1 (Int.toNat (1 : Int)) ([], false, [])).2.2 (Int.toNat (1 : Int)) ((0 : Int), (0 : Int))) ((98 : Int), (-1 : Int)) = true then if (v5.1.2.2.2 == (1 : Int)) = true then if (v5.2 == (0 : Int)) =
 true then if ((v5.1.2.2.1.length : Int) == (1 : Int)) = true then if (v6.2 == (1 : Int)) = true then Option.bind (D.f33E n ((v6.1.1, v6.1.2.1, v6.1.2.2.1, v6.1.2.2.2), v4.2.1, v4.2.2.1, v4.2.2.2.1, v4.2.2.2.2)) fun v7 => if v7 = true then
 Option.bind (D.f30E n (v4.2.1, v4.2.2.1, v4.2.2.2.1, v4.2.2.2.2)) fun v8 => some v8 else some false else some false else some false else some false else some false else some false else none else none else some false else none
theorem D.f27E_le (n : Nat) (h : n ≤ D.fuel) : ∀ x, Le (D.f27E n x) (D.f27F x) := by
  intro x
  unfold D.f27E D.f27F
  repeat' (first | with_reducible exact Le.rfl | with_reducible exact D.f28E_le n h _ | with_reducible exact D.f29E_le n h _ | with_reducible exact D.f30E_le n h _ | with_reducible exact D.f31E_le n h _ | with_reducible exact D.f32E_le n h _ | with_reducible exact D.f33E_le n h _ | with_reducible apply Le.agree | with_reducible apply Le.bind | with_reducible apply Le.iter | with_reducible apply Le.ite | with_reducible apply Le.elim | intro _)
end Go.Sx
namespace Go.Sx
theorem d27_alive : D.f27F () = some true := D.f27E_le 60 (by decide) () true (by decide +kernel)
end Go.Sx
