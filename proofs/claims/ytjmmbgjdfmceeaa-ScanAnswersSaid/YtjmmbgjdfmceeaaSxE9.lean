/- The functions, with a bound on rounds: to be run. -/
import Derived.Test.YtjmmbgjdfmceeaaSxT9b
import Derived.Test.YtjmmbgjdfmceeaaSxEv
set_option linter.unusedVariables false
set_option linter.unusedSimpArgs false
namespace Go.Sx
instance dE1 : DecidableEq (List (Int × Int)) := inferInstance
instance dE2 : DecidableEq (Bool × List (Int × Int)) := inferInstance
instance dE3 : DecidableEq (Bool × Bool × List (Int × Int)) := inferInstance
instance dE4 : DecidableEq (List Int × Bool × Bool × List (Int × Int)) := inferInstance
instance dE5 : DecidableEq (List (List Int × Bool × Bool × List (Int × Int))) := inferInstance
noncomputable def D.s0B : {E : _ → _ // ∀ x, Le (E x) (D.s0F x)} := by
  apply Subtype.mk; intro x; unfold D.s0F
  repeat' with_reducible (first | exact @Le.rfl _ (D.f71F _) | apply Le.bind | apply Le.ite | apply Le.some | apply Le.none | apply Le.iter (n := 60) | apply Le.elim | apply Le.agree | intro _)
noncomputable def D.s1B : {E : _ → _ // ∀ x, Le (E x) (D.s1F x)} := by
  apply Subtype.mk; intro x; unfold D.s1F
  repeat' with_reducible (first | exact D.s0B.2 _ | apply Le.bind | apply Le.ite | apply Le.some | apply Le.none | apply Le.iter (n := 60) | apply Le.elim | apply Le.agree | intro _)
noncomputable def D.f42B : {E : _ → _ // ∀ x, Le (E x) (D.f42F x)} := by
  apply Subtype.mk; intro x; unfold D.f42F
  repeat' with_reducible (first | exact D.s1B.2 _ | apply Le.bind | apply Le.ite | apply Le.some | apply Le.none | apply Le.iter (n := 60) | apply Le.elim | apply Le.agree | intro _)
noncomputable def D.f28B : {E : _ → _ // ∀ x, Le (E x) (D.f28F x)} := by
  apply Subtype.mk; intro x; unfold D.f28F
  repeat' with_reducible (first | exact D.f42B.2 _ | apply Le.bind | apply Le.ite | apply Le.some | apply Le.none | apply Le.iter (n := 60) | apply Le.elim | apply Le.agree | intro _)
noncomputable def D.f89B : {E : _ → _ // ∀ x, Le (E x) (D.f89F x)} := by
  apply Subtype.mk; intro x; unfold D.f89F
  repeat' with_reducible (first | exact @Le.rfl _ (D.f105F _) | apply Le.bind | apply Le.ite | apply Le.some | apply Le.none | apply Le.iter (n := 60) | apply Le.elim | apply Le.agree | intro _)
noncomputable def D.f80B : {E : _ → _ // ∀ x, Le (E x) (D.f80F x)} := by
  apply Subtype.mk; intro x; unfold D.f80F
  repeat' with_reducible (first | apply Le.bind | apply Le.ite | apply Le.some | apply Le.none | apply Le.iter (n := 60) | apply Le.elim | apply Le.agree | intro _)
noncomputable def D.f75B : {E : _ → _ // ∀ x, Le (E x) (D.f75F x)} := by
  apply Subtype.mk; intro x; unfold D.f75F
  repeat' with_reducible (first | apply Le.bind | apply Le.ite | apply Le.some | apply Le.none | apply Le.iter (n := 60) | apply Le.elim | apply Le.agree | intro _)
noncomputable def D.f57B : {E : _ → _ // ∀ x, Le (E x) (D.f57F x)} := by
  apply Subtype.mk; intro x; unfold D.f57F
  repeat' with_reducible (first | exact D.f75B.2 _ | exact D.f80B.2 _ | exact D.f89B.2 _ | apply Le.bind | apply Le.ite | apply Le.some | apply Le.none | apply Le.iter (n := 60) | apply Le.elim | apply Le.agree | intro _)
noncomputable def D.f61B : {E : _ → _ // ∀ x, Le (E x) (D.f61F x)} := by
  apply Subtype.mk; intro x; unfold D.f61F
  repeat' with_reducible (first | apply Le.bind | apply Le.ite | apply Le.some | apply Le.none | apply Le.iter (n := 60) | apply Le.elim | apply Le.agree | intro _)
noncomputable def D.f104B : {E : _ → _ // ∀ x, Le (E x) (D.f104F x)} := by
  apply Subtype.mk; intro x; unfold D.f104F
  repeat' with_reducible (first | exact D.f61B.2 _ | apply Le.bind | apply Le.ite | apply Le.some | apply Le.none | apply Le.iter (n := 60) | apply Le.elim | apply Le.agree | intro _)
noncomputable def D.s10B : {E : _ → _ // ∀ x, Le (E x) (D.s10F x)} := by
  apply Subtype.mk; intro x; unfold D.s10F
  repeat' with_reducible (first | exact D.f104B.2 _ | apply Le.bind | apply Le.ite | apply Le.some | apply Le.none | apply Le.iter (n := 60) | apply Le.elim | apply Le.agree | intro _)
noncomputable def D.f82B : {E : _ → _ // ∀ x, Le (E x) (D.f82F x)} := by
  apply Subtype.mk; intro x; unfold D.f82F
  repeat' with_reducible (first | exact D.s10B.2 _ | apply Le.bind | apply Le.ite | apply Le.some | apply Le.none | apply Le.iter (n := 60) | apply Le.elim | apply Le.agree | intro _)
noncomputable def D.f72SB {r r' : Int × List (Int × List (Int × Int) × Int × Int) × Bool × Bool × Int × List Bool → Option (List (Int × List (Int × Int) × Int × Int) × Bool × Bool × Int × List Bool)} (hr : ∀ x, Le (r x) (r' x)) : {E : _ → _ // ∀ x, Le (E x) (D.f72S r' x)} := by
  apply Subtype.mk; intro x; unfold D.f72S
  repeat' with_reducible (first | exact hr _ | apply Le.bind | apply Le.ite | apply Le.some | apply Le.none | apply Le.iter (n := 60) | apply Le.elim | apply Le.agree | intro _)
noncomputable def D.f72NB : (k m : Nat) → k ≤ m → {E : _ → _ // ∀ x, Le (E x) (D.f72N m x)}
  | 0, m, _ => ⟨fun _ => none, fun x y hy => by cases hy⟩
  | k + 1, 0, h => absurd h (by omega)
  | k + 1, m + 1, h => ⟨(D.f72SB (D.f72NB k m (by omega)).2).1, (D.f72SB (D.f72NB k m (by omega)).2).2⟩
noncomputable def D.f72B : {E : _ → _ // ∀ x, Le (E x) (D.f72F x)} := ⟨(D.f72NB 60 D.fuel (by decide)).1, (D.f72NB 60 D.fuel (by decide)).2⟩
noncomputable def D.f43B : {E : _ → _ // ∀ x, Le (E x) (D.f43F x)} := by
  apply Subtype.mk; intro x; unfold D.f43F
  repeat' with_reducible (first | exact D.f72B.2 _ | apply Le.bind | apply Le.ite | apply Le.some | apply Le.none | apply Le.iter (n := 60) | apply Le.elim | apply Le.agree | intro _)
noncomputable def D.s15B : {E : _ → _ // ∀ x, Le (E x) (D.s15F x)} := by
  apply Subtype.mk; intro x; unfold D.s15F
  repeat' with_reducible (first | apply Le.bind | apply Le.ite | apply Le.some | apply Le.none | apply Le.iter (n := 60) | apply Le.elim | apply Le.agree | intro _)
noncomputable def D.f17B : {E : _ → _ // ∀ x, Le (E x) (D.f17F x)} := by
  apply Subtype.mk; intro x; unfold D.f17F
  repeat' with_reducible (first | exact D.f42B.2 _ | exact D.f43B.2 _ | exact D.s15B.2 _ | apply Le.bind | apply Le.ite | apply Le.some | apply Le.none | apply Le.iter (n := 60) | apply Le.elim | apply Le.agree | intro _)
noncomputable def D.f83B : {E : _ → _ // ∀ x, Le (E x) (D.f83F x)} := by
  apply Subtype.mk; intro x; unfold D.f83F
  repeat' with_reducible (first | exact D.f17B.2 _ | apply Le.bind | apply Le.ite | apply Le.some | apply Le.none | apply Le.iter (n := 60) | apply Le.elim | apply Le.agree | intro _)
noncomputable def D.s2B : {E : _ → _ // ∀ x, Le (E x) (D.s2F x)} := by
  apply Subtype.mk; intro x; unfold D.s2F
  repeat' with_reducible (first | exact @Le.rfl _ (D.f99F _) | apply Le.bind | apply Le.ite | apply Le.some | apply Le.none | apply Le.iter (n := 60) | apply Le.elim | apply Le.agree | intro _)
noncomputable def D.s3B : {E : _ → _ // ∀ x, Le (E x) (D.s3F x)} := by
  apply Subtype.mk; intro x; unfold D.s3F
  repeat' with_reducible (first | exact D.s2B.2 _ | apply Le.bind | apply Le.ite | apply Le.some | apply Le.none | apply Le.iter (n := 60) | apply Le.elim | apply Le.agree | intro _)
noncomputable def D.f73B : {E : _ → _ // ∀ x, Le (E x) (D.f73F x)} := by
  apply Subtype.mk; intro x; unfold D.f73F
  repeat' with_reducible (first | exact D.s3B.2 _ | apply Le.bind | apply Le.ite | apply Le.some | apply Le.none | apply Le.iter (n := 60) | apply Le.elim | apply Le.agree | intro _)
noncomputable def D.f110B : {E : _ → _ // ∀ x, Le (E x) (D.f110F x)} := by
  apply Subtype.mk; intro x; unfold D.f110F
  repeat' with_reducible (first | exact @Le.rfl _ (D.f105F _) | apply Le.bind | apply Le.ite | apply Le.some | apply Le.none | apply Le.iter (n := 60) | apply Le.elim | apply Le.agree | intro _)
noncomputable def D.f121B : {E : _ → _ // ∀ x, Le (E x) (D.f121F x)} := by
  apply Subtype.mk; intro x; unfold D.f121F
  repeat' with_reducible (first | exact @Le.rfl _ (D.f105F _) | apply Le.bind | apply Le.ite | apply Le.some | apply Le.none | apply Le.iter (n := 60) | apply Le.elim | apply Le.agree | intro _)
noncomputable def D.f111B : {E : _ → _ // ∀ x, Le (E x) (D.f111F x)} := by
  apply Subtype.mk; intro x; unfold D.f111F
  repeat' with_reducible (first | exact D.f121B.2 _ | apply Le.bind | apply Le.ite | apply Le.some | apply Le.none | apply Le.iter (n := 60) | apply Le.elim | apply Le.agree | intro _)
noncomputable def D.f112B : {E : _ → _ // ∀ x, Le (E x) (D.f112F x)} := by
  apply Subtype.mk; intro x; unfold D.f112F
  repeat' with_reducible (first | exact @Le.rfl _ (D.f122F _) | exact @Le.rfl _ (D.f123F _) | apply Le.bind | apply Le.ite | apply Le.some | apply Le.none | apply Le.iter (n := 60) | apply Le.elim | apply Le.agree | intro _)
noncomputable def D.f114B : {E : _ → _ // ∀ x, Le (E x) (D.f114F x)} := by
  apply Subtype.mk; intro x; unfold D.f114F
  repeat' with_reducible (first | apply Le.bind | apply Le.ite | apply Le.some | apply Le.none | apply Le.iter (n := 60) | apply Le.elim | apply Le.agree | intro _)
noncomputable def D.f115B : {E : _ → _ // ∀ x, Le (E x) (D.f115F x)} := by
  apply Subtype.mk; intro x; unfold D.f115F
  repeat' with_reducible (first | exact @Le.rfl _ (D.f105F _) | apply Le.bind | apply Le.ite | apply Le.some | apply Le.none | apply Le.iter (n := 60) | apply Le.elim | apply Le.agree | intro _)
noncomputable def D.f116B : {E : _ → _ // ∀ x, Le (E x) (D.f116F x)} := by
  apply Subtype.mk; intro x; unfold D.f116F
  repeat' with_reducible (first | exact @Le.rfl _ (D.f105F _) | apply Le.bind | apply Le.ite | apply Le.some | apply Le.none | apply Le.iter (n := 60) | apply Le.elim | apply Le.agree | intro _)
noncomputable def D.f117B : {E : _ → _ // ∀ x, Le (E x) (D.f117F x)} := by
  apply Subtype.mk; intro x; unfold D.f117F
  repeat' with_reducible (first | exact @Le.rfl _ (D.f105F _) | apply Le.bind | apply Le.ite | apply Le.some | apply Le.none | apply Le.iter (n := 60) | apply Le.elim | apply Le.agree | intro _)
noncomputable def D.f100SB {r r' : Int × Int × Int × List Int → Option (List Int)} (hr : ∀ x, Le (r x) (r' x)) : {E : _ → _ // ∀ x, Le (E x) (D.f100S r' x)} := by
  apply Subtype.mk; intro x; unfold D.f100S
  repeat' with_reducible (first | exact hr _ | exact @Le.rfl _ (D.f105F _) | exact D.f110B.2 _ | exact D.f111B.2 _ | exact D.f112B.2 _ | exact @Le.rfl _ (D.f113F _) | exact D.f114B.2 _ | exact D.f115B.2 _ | exact D.f116B.2 _ | exact D.f117B.2 _ | apply Le.bind | apply Le.ite | apply Le.some | apply Le.none | apply Le.iter (n := 60) | apply Le.elim | apply Le.agree | intro _)
noncomputable def D.f100NB : (k m : Nat) → k ≤ m → {E : _ → _ // ∀ x, Le (E x) (D.f100N m x)}
  | 0, m, _ => ⟨fun _ => none, fun x y hy => by cases hy⟩
  | k + 1, 0, h => absurd h (by omega)
  | k + 1, m + 1, h => ⟨(D.f100SB (D.f100NB k m (by omega)).2).1, (D.f100SB (D.f100NB k m (by omega)).2).2⟩
noncomputable def D.f100B : {E : _ → _ // ∀ x, Le (E x) (D.f100F x)} := ⟨(D.f100NB 60 D.fuel (by decide)).1, (D.f100NB 60 D.fuel (by decide)).2⟩
noncomputable def D.f74B : {E : _ → _ // ∀ x, Le (E x) (D.f74F x)} := by
  apply Subtype.mk; intro x; unfold D.f74F
  repeat' with_reducible (first | exact D.f100B.2 _ | exact @Le.rfl _ (D.f101F _) | apply Le.bind | apply Le.ite | apply Le.some | apply Le.none | apply Le.iter (n := 60) | apply Le.elim | apply Le.agree | intro _)
noncomputable def D.s16B : {E : _ → _ // ∀ x, Le (E x) (D.s16F x)} := by
  apply Subtype.mk; intro x; unfold D.s16F
  repeat' with_reducible (first | exact D.f73B.2 _ | exact D.f74B.2 _ | exact D.f75B.2 _ | apply Le.bind | apply Le.ite | apply Le.some | apply Le.none | apply Le.iter (n := 60) | apply Le.elim | apply Le.agree | intro _)
noncomputable def D.f19B : {E : _ → _ // ∀ x, Le (E x) (D.f19F x)} := by
  apply Subtype.mk; intro x; unfold D.f19F
  repeat' with_reducible (first | exact D.f42B.2 _ | exact D.s16B.2 _ | apply Le.bind | apply Le.ite | apply Le.some | apply Le.none | apply Le.iter (n := 60) | apply Le.elim | apply Le.agree | intro _)
noncomputable def D.f87B : {E : _ → _ // ∀ x, Le (E x) (D.f87F x)} := by
  apply Subtype.mk; intro x; unfold D.f87F
  repeat' with_reducible (first | exact D.f19B.2 _ | exact D.f83B.2 _ | apply Le.bind | apply Le.ite | apply Le.some | apply Le.none | apply Le.iter (n := 60) | apply Le.elim | apply Le.agree | intro _)
noncomputable def D.f88B : {E : _ → _ // ∀ x, Le (E x) (D.f88F x)} := by
  apply Subtype.mk; intro x; unfold D.f88F
  repeat' with_reducible (first | exact D.f82B.2 _ | exact D.f87B.2 _ | apply Le.bind | apply Le.ite | apply Le.some | apply Le.none | apply Le.iter (n := 60) | apply Le.elim | apply Le.agree | intro _)
noncomputable def D.f56B : {E : _ → _ // ∀ x, Le (E x) (D.f56F x)} := by
  apply Subtype.mk; intro x; unfold D.f56F
  repeat' with_reducible (first | exact D.f57B.2 _ | exact D.f82B.2 _ | exact D.f88B.2 _ | apply Le.bind | apply Le.ite | apply Le.some | apply Le.none | apply Le.iter (n := 60) | apply Le.elim | apply Le.agree | intro _)
noncomputable def D.f30B : {E : _ → _ // ∀ x, Le (E x) (D.f30F x)} := by
  apply Subtype.mk; intro x; unfold D.f30F
  repeat' with_reducible (first | exact D.f42B.2 _ | exact D.f56B.2 _ | apply Le.bind | apply Le.ite | apply Le.some | apply Le.none | apply Le.iter (n := 60) | apply Le.elim | apply Le.agree | intro _)
noncomputable def D.f79B : {E : _ → _ // ∀ x, Le (E x) (D.f79F x)} := by
  apply Subtype.mk; intro x; unfold D.f79F
  repeat' with_reducible (first | apply Le.bind | apply Le.ite | apply Le.some | apply Le.none | apply Le.iter (n := 60) | apply Le.elim | apply Le.agree | intro _)
noncomputable def D.f81B : {E : _ → _ // ∀ x, Le (E x) (D.f81F x)} := by
  apply Subtype.mk; intro x; unfold D.f81F
  repeat' with_reducible (first | apply Le.bind | apply Le.ite | apply Le.some | apply Le.none | apply Le.iter (n := 60) | apply Le.elim | apply Le.agree | intro _)
noncomputable def D.f52B : {E : _ → _ // ∀ x, Le (E x) (D.f52F x)} := by
  apply Subtype.mk; intro x; unfold D.f52F
  repeat' with_reducible (first | exact D.f79B.2 _ | exact D.f80B.2 _ | exact D.f81B.2 _ | apply Le.bind | apply Le.ite | apply Le.some | apply Le.none | apply Le.iter (n := 60) | apply Le.elim | apply Le.agree | intro _)
noncomputable def D.f53B : {E : _ → _ // ∀ x, Le (E x) (D.f53F x)} := by
  apply Subtype.mk; intro x; unfold D.f53F
  repeat' with_reducible (first | exact D.f80B.2 _ | exact D.f82B.2 _ | apply Le.bind | apply Le.ite | apply Le.some | apply Le.none | apply Le.iter (n := 60) | apply Le.elim | apply Le.agree | intro _)
noncomputable def D.s13B : {E : _ → _ // ∀ x, Le (E x) (D.s13F x)} := by
  apply Subtype.mk; intro x; unfold D.s13F
  repeat' with_reducible (first | exact @Le.rfl _ (D.f84F _) | apply Le.bind | apply Le.ite | apply Le.some | apply Le.none | apply Le.iter (n := 60) | apply Le.elim | apply Le.agree | intro _)
noncomputable def D.s14B : {E : _ → _ // ∀ x, Le (E x) (D.s14F x)} := by
  apply Subtype.mk; intro x; unfold D.s14F
  repeat' with_reducible (first | exact D.s13B.2 _ | apply Le.bind | apply Le.ite | apply Le.some | apply Le.none | apply Le.iter (n := 60) | apply Le.elim | apply Le.agree | intro _)
noncomputable def D.f54B : {E : _ → _ // ∀ x, Le (E x) (D.f54F x)} := by
  apply Subtype.mk; intro x; unfold D.f54F
  repeat' with_reducible (first | exact D.f83B.2 _ | exact D.s14B.2 _ | apply Le.bind | apply Le.ite | apply Le.some | apply Le.none | apply Le.iter (n := 60) | apply Le.elim | apply Le.agree | intro _)
noncomputable def D.s11B : {E : _ → _ // ∀ x, Le (E x) (D.s11F x)} := by
  apply Subtype.mk; intro x; unfold D.s11F
  repeat' with_reducible (first | exact @Le.rfl _ (D.f86F _) | apply Le.bind | apply Le.ite | apply Le.some | apply Le.none | apply Le.iter (n := 60) | apply Le.elim | apply Le.agree | intro _)
noncomputable def D.f55B : {E : _ → _ // ∀ x, Le (E x) (D.f55F x)} := by
  apply Subtype.mk; intro x; unfold D.f55F
  repeat' with_reducible (first | exact D.f53B.2 _ | exact D.f87B.2 _ | exact D.s11B.2 _ | apply Le.bind | apply Le.ite | apply Le.some | apply Le.none | apply Le.iter (n := 60) | apply Le.elim | apply Le.agree | intro _)
noncomputable def D.f29B : {E : _ → _ // ∀ x, Le (E x) (D.f29F x)} := by
  apply Subtype.mk; intro x; unfold D.f29F
  repeat' with_reducible (first | exact D.f30B.2 _ | exact D.f52B.2 _ | exact D.f53B.2 _ | exact D.f54B.2 _ | exact D.f55B.2 _ | apply Le.bind | apply Le.ite | apply Le.some | apply Le.none | apply Le.iter (n := 60) | apply Le.elim | apply Le.agree | intro _)
noncomputable def D.f36B : {E : _ → _ // ∀ x, Le (E x) (D.f36F x)} := by
  apply Subtype.mk; intro x; unfold D.f36F
  repeat' with_reducible (first | exact D.f28B.2 _ | exact D.f29B.2 _ | exact @Le.rfl _ (D.f64F _) | apply Le.bind | apply Le.ite | apply Le.some | apply Le.none | apply Le.iter (n := 60) | apply Le.elim | apply Le.agree | intro _)
noncomputable def D.f44B : {E : _ → _ // ∀ x, Le (E x) (D.f44F x)} := by
  apply Subtype.mk; intro x; unfold D.f44F
  repeat' with_reducible (first | apply Le.bind | apply Le.ite | apply Le.some | apply Le.none | apply Le.iter (n := 60) | apply Le.elim | apply Le.agree | intro _)
noncomputable def D.s4B : {E : _ → _ // ∀ x, Le (E x) (D.s4F x)} := by
  apply Subtype.mk; intro x; unfold D.s4F
  repeat' with_reducible (first | exact @Le.rfl _ (D.f76F _) | apply Le.bind | apply Le.ite | apply Le.some | apply Le.none | apply Le.iter (n := 60) | apply Le.elim | apply Le.agree | intro _)
noncomputable def D.s5B : {E : _ → _ // ∀ x, Le (E x) (D.s5F x)} := by
  apply Subtype.mk; intro x; unfold D.s5F
  repeat' with_reducible (first | exact D.s4B.2 _ | apply Le.bind | apply Le.ite | apply Le.some | apply Le.none | apply Le.iter (n := 60) | apply Le.elim | apply Le.agree | intro _)
noncomputable def D.f46B : {E : _ → _ // ∀ x, Le (E x) (D.f46F x)} := by
  apply Subtype.mk; intro x; unfold D.f46F
  repeat' with_reducible (first | exact D.f73B.2 _ | exact D.f74B.2 _ | exact D.f75B.2 _ | apply Le.bind | apply Le.ite | apply Le.some | apply Le.none | apply Le.iter (n := 60) | apply Le.elim | apply Le.agree | intro _)
noncomputable def D.s6B : {E : _ → _ // ∀ x, Le (E x) (D.s6F x)} := by
  apply Subtype.mk; intro x; unfold D.s6F
  repeat' with_reducible (first | exact D.f42B.2 _ | exact D.f43B.2 _ | exact D.f44B.2 _ | exact D.f46B.2 _ | exact @Le.rfl _ (D.f49F _) | exact D.s5B.2 _ | apply Le.bind | apply Le.ite | apply Le.some | apply Le.none | apply Le.iter (n := 60) | apply Le.elim | apply Le.agree | intro _)
noncomputable def D.f21B : {E : _ → _ // ∀ x, Le (E x) (D.f21F x)} := by
  apply Subtype.mk; intro x; unfold D.f21F
  repeat' with_reducible (first | exact D.s6B.2 _ | apply Le.bind | apply Le.ite | apply Le.some | apply Le.none | apply Le.iter (n := 60) | apply Le.elim | apply Le.agree | intro _)
noncomputable def D.f38B : {E : _ → _ // ∀ x, Le (E x) (D.f38F x)} := by
  apply Subtype.mk; intro x; unfold D.f38F
  repeat' with_reducible (first | exact D.f21B.2 _ | exact D.f42B.2 _ | apply Le.bind | apply Le.ite | apply Le.some | apply Le.none | apply Le.iter (n := 60) | apply Le.elim | apply Le.agree | intro _)
noncomputable def D.f40B : {E : _ → _ // ∀ x, Le (E x) (D.f40F x)} := by
  apply Subtype.mk; intro x; unfold D.f40F
  repeat' with_reducible (first | apply Le.bind | apply Le.ite | apply Le.some | apply Le.none | apply Le.iter (n := 60) | apply Le.elim | apply Le.agree | intro _)
noncomputable def D.f63B : {E : _ → _ // ∀ x, Le (E x) (D.f63F x)} := by
  apply Subtype.mk; intro x; unfold D.f63F
  repeat' with_reducible (first | apply Le.bind | apply Le.ite | apply Le.some | apply Le.none | apply Le.iter (n := 60) | apply Le.elim | apply Le.agree | intro _)
noncomputable def D.s12B : {E : _ → _ // ∀ x, Le (E x) (D.s12F x)} := by
  apply Subtype.mk; intro x; unfold D.s12F
  repeat' with_reducible (first | exact @Le.rfl _ (D.f68F _) | apply Le.bind | apply Le.ite | apply Le.some | apply Le.none | apply Le.iter (n := 60) | apply Le.elim | apply Le.agree | intro _)
noncomputable def D.f41B : {E : _ → _ // ∀ x, Le (E x) (D.f41F x)} := by
  apply Subtype.mk; intro x; unfold D.f41F
  repeat' with_reducible (first | exact D.s12B.2 _ | apply Le.bind | apply Le.ite | apply Le.some | apply Le.none | apply Le.iter (n := 60) | apply Le.elim | apply Le.agree | intro _)
noncomputable def D.f34B : {E : _ → _ // ∀ x, Le (E x) (D.f34F x)} := by
  apply Subtype.mk; intro x; unfold D.f34F
  repeat' with_reducible (first | exact D.f36B.2 _ | exact D.f38B.2 _ | exact D.f40B.2 _ | exact D.f41B.2 _ | exact D.f63B.2 _ | apply Le.bind | apply Le.ite | apply Le.some | apply Le.none | apply Le.iter (n := 60) | apply Le.elim | apply Le.agree | intro _)
theorem d34_alive : D.f34F () = some true := D.f34B.2 () true (by decide +kernel)
end Go.Sx
