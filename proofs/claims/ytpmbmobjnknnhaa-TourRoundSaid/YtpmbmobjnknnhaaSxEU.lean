/- The functions, with a bound on rounds: to be run. -/
import Derived.Test.YtpmbmobjnknnhaaSxTUa
import Derived.Test.YtpmbmobjnknnhaaSxEv
set_option linter.unusedVariables false
set_option linter.unusedSimpArgs false
namespace Go.Sx
noncomputable def U.s0B : {E : _ → _ // ∀ x, Le (E x) (U.s0F x)} := by
  apply Subtype.mk; intro x; unfold U.s0F
  repeat' with_reducible (first | exact @Le.rfl _ (U.f18F _) | exact @Le.rfl _ (U.f26F _) | exact @Le.rfl _ (U.f28F _) | apply Le.bind | apply Le.ite | apply Le.some | apply Le.none | apply Le.iter (n := 30) | apply Le.elim | apply Le.agree | intro _)
noncomputable def U.s1B : {E : _ → _ // ∀ x, Le (E x) (U.s1F x)} := by
  apply Subtype.mk; intro x; unfold U.s1F
  repeat' with_reducible (first | exact @Le.rfl _ (U.f18F _) | exact @Le.rfl _ (U.f28F _) | exact @Le.rfl _ (U.f39F _) | apply Le.bind | apply Le.ite | apply Le.some | apply Le.none | apply Le.iter (n := 30) | apply Le.elim | apply Le.agree | intro _)
noncomputable def U.s4B : {E : _ → _ // ∀ x, Le (E x) (U.s4F x)} := by
  apply Subtype.mk; intro x; unfold U.s4F
  repeat' with_reducible (first | exact U.s0B.2 _ | exact U.s1B.2 _ | apply Le.bind | apply Le.ite | apply Le.some | apply Le.none | apply Le.iter (n := 30) | apply Le.elim | apply Le.agree | intro _)
noncomputable def U.f13B : {E : _ → _ // ∀ x, Le (E x) (U.f13F x)} := by
  apply Subtype.mk; intro x; unfold U.f13F
  repeat' with_reducible (first | exact U.s4B.2 _ | apply Le.bind | apply Le.ite | apply Le.some | apply Le.none | apply Le.iter (n := 30) | apply Le.elim | apply Le.agree | intro _)
noncomputable def U.s2B : {E : _ → _ // ∀ x, Le (E x) (U.s2F x)} := by
  apply Subtype.mk; intro x; unfold U.s2F
  repeat' with_reducible (first | exact @Le.rfl _ (U.f18F _) | exact @Le.rfl _ (U.f29F _) | exact @Le.rfl _ (U.f30F _) | apply Le.bind | apply Le.ite | apply Le.some | apply Le.none | apply Le.iter (n := 30) | apply Le.elim | apply Le.agree | intro _)
noncomputable def U.s3B : {E : _ → _ // ∀ x, Le (E x) (U.s3F x)} := by
  apply Subtype.mk; intro x; unfold U.s3F
  repeat' with_reducible (first | exact @Le.rfl _ (U.f18F _) | exact @Le.rfl _ (U.f30F _) | exact @Le.rfl _ (U.f39F _) | apply Le.bind | apply Le.ite | apply Le.some | apply Le.none | apply Le.iter (n := 30) | apply Le.elim | apply Le.agree | intro _)
noncomputable def U.s5B : {E : _ → _ // ∀ x, Le (E x) (U.s5F x)} := by
  apply Subtype.mk; intro x; unfold U.s5F
  repeat' with_reducible (first | exact U.s2B.2 _ | exact U.s3B.2 _ | apply Le.bind | apply Le.ite | apply Le.some | apply Le.none | apply Le.iter (n := 30) | apply Le.elim | apply Le.agree | intro _)
noncomputable def U.f14B : {E : _ → _ // ∀ x, Le (E x) (U.f14F x)} := by
  apply Subtype.mk; intro x; unfold U.f14F
  repeat' with_reducible (first | exact U.s5B.2 _ | apply Le.bind | apply Le.ite | apply Le.some | apply Le.none | apply Le.iter (n := 30) | apply Le.elim | apply Le.agree | intro _)
noncomputable def U.f37B : {E : _ → _ // ∀ x, Le (E x) (U.f37F x)} := by
  apply Subtype.mk; intro x; unfold U.f37F
  repeat' with_reducible (first | apply Le.bind | apply Le.ite | apply Le.some | apply Le.none | apply Le.iter (n := 30) | apply Le.elim | apply Le.agree | intro _)
noncomputable def U.f23B : {E : _ → _ // ∀ x, Le (E x) (U.f23F x)} := by
  apply Subtype.mk; intro x; unfold U.f23F
  repeat' with_reducible (first | exact U.f37B.2 _ | apply Le.bind | apply Le.ite | apply Le.some | apply Le.none | apply Le.iter (n := 30) | apply Le.elim | apply Le.agree | intro _)
noncomputable def U.f11B : {E : _ → _ // ∀ x, Le (E x) (U.f11F x)} := by
  apply Subtype.mk; intro x; unfold U.f11F
  repeat' with_reducible (first | exact U.f23B.2 _ | apply Le.bind | apply Le.ite | apply Le.some | apply Le.none | apply Le.iter (n := 30) | apply Le.elim | apply Le.agree | intro _)
noncomputable def U.f21B : {E : _ → _ // ∀ x, Le (E x) (U.f21F x)} := by
  apply Subtype.mk; intro x; unfold U.f21F
  repeat' with_reducible (first | apply Le.bind | apply Le.ite | apply Le.some | apply Le.none | apply Le.iter (n := 30) | apply Le.elim | apply Le.agree | intro _)
noncomputable def U.f9B : {E : _ → _ // ∀ x, Le (E x) (U.f9F x)} := by
  apply Subtype.mk; intro x; unfold U.f9F
  repeat' with_reducible (first | exact U.f11B.2 _ | exact U.f21B.2 _ | apply Le.bind | apply Le.ite | apply Le.some | apply Le.none | apply Le.iter (n := 30) | apply Le.elim | apply Le.agree | intro _)
noncomputable def U.f8B : {E : _ → _ // ∀ x, Le (E x) (U.f8F x)} := by
  apply Subtype.mk; intro x; unfold U.f8F
  repeat' with_reducible (first | apply Le.bind | apply Le.ite | apply Le.some | apply Le.none | apply Le.iter (n := 30) | apply Le.elim | apply Le.agree | intro _)
noncomputable def U.f6B : {E : _ → _ // ∀ x, Le (E x) (U.f6F x)} := by
  apply Subtype.mk; intro x; unfold U.f6F
  repeat' with_reducible (first | exact U.f11B.2 _ | exact U.f13B.2 _ | exact U.f14B.2 _ | exact @Le.rfl _ (U.f18F _) | exact @Le.rfl _ (U.f20F _) | exact U.f8B.2 _ | exact U.f9B.2 _ | apply Le.bind | apply Le.ite | apply Le.some | apply Le.none | apply Le.iter (n := 30) | apply Le.elim | apply Le.agree | intro _)
theorem u6_alive : U.f6F () = some true := U.f6B.2 () true (by decide +kernel)
end Go.Sx
