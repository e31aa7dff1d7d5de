/- The functions, with a bound on rounds: to be run. -/
import Derived.Test.YtemngcdlgnconaaSxTKd
import Derived.Test.YtemngcdlgnconaaSxEv
set_option linter.unusedVariables false
set_option linter.unusedSimpArgs false
namespace Go.Sx
noncomputable def Z.f78B : {E : _ → _ // ∀ x, Le (E x) (Z.f78F x)} := by
  apply Subtype.mk; intro x; unfold Z.f78F
  repeat' with_reducible (first | exact @Le.rfl _ (Z.f45F _) | apply Le.bind | apply Le.ite | apply Le.some | apply Le.none | apply Le.iter (n := 60) | apply Le.elim | apply Le.agree | intro _)
noncomputable def Z.f66B : {E : _ → _ // ∀ x, Le (E x) (Z.f66F x)} := by
  apply Subtype.mk; intro x; unfold Z.f66F
  repeat' with_reducible (first | exact @Le.rfl _ (Z.f64F _) | exact @Le.rfl _ (Z.f70F _) | exact Z.f78B.2 _ | apply Le.bind | apply Le.ite | apply Le.some | apply Le.none | apply Le.iter (n := 60) | apply Le.elim | apply Le.agree | intro _)
noncomputable def Z.f44B : {E : _ → _ // ∀ x, Le (E x) (Z.f44F x)} := by
  apply Subtype.mk; intro x; unfold Z.f44F
  repeat' with_reducible (first | exact @Le.rfl _ (Z.f64F _) | exact @Le.rfl _ (Z.f65F _) | exact Z.f66B.2 _ | exact @Le.rfl _ (Z.f67F _) | exact @Le.rfl _ (Z.f68F _) | exact @Le.rfl _ (Z.f69F _) | exact @Le.rfl _ (Z.f70F _) | exact @Le.rfl _ (Z.f71F _) | apply Le.bind | apply Le.ite | apply Le.some | apply Le.none | apply Le.iter (n := 60) | apply Le.elim | apply Le.agree | intro _)
noncomputable def Z.tokOfB : {E : _ → _ // ∀ x, Le (E x) (Z.tokOfF x)} := by
  apply Subtype.mk; intro x; unfold Z.tokOfF
  repeat' with_reducible (first | exact Z.f44B.2 _ | apply Le.bind | apply Le.ite | apply Le.some | apply Le.none | apply Le.iter (n := 60) | apply Le.elim | apply Le.agree | intro _)
noncomputable def Z.f17B : {E : _ → _ // ∀ x, Le (E x) (Z.f17F x)} := by
  apply Subtype.mk; intro x; unfold Z.f17F
  repeat' with_reducible (first | exact @Le.rfl _ (Z.f20F _) | apply Le.bind | apply Le.ite | apply Le.some | apply Le.none | apply Le.iter (n := 60) | apply Le.elim | apply Le.agree | intro _)
noncomputable def Z.f24B : {E : _ → _ // ∀ x, Le (E x) (Z.f24F x)} := by
  apply Subtype.mk; intro x; unfold Z.f24F
  repeat' with_reducible (first | apply Le.bind | apply Le.ite | apply Le.some | apply Le.none | apply Le.iter (n := 60) | apply Le.elim | apply Le.agree | intro _)
noncomputable def Z.f15B : {E : _ → _ // ∀ x, Le (E x) (Z.f15F x)} := by
  apply Subtype.mk; intro x; unfold Z.f15F
  repeat' with_reducible (first | exact Z.f17B.2 _ | exact @Le.rfl _ (Z.f20F _) | exact Z.f24B.2 _ | exact Z.tokOfB.2 _ | apply Le.bind | apply Le.ite | apply Le.some | apply Le.none | apply Le.iter (n := 60) | apply Le.elim | apply Le.agree | intro _)
theorem z15_alive : Z.f15F () = some true := Z.f15B.2 () true (by decide +kernel)
end Go.Sx
