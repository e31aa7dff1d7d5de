/- Token: the laws. -/
import Derived.Test.YtemngcdlgnconaaSxTKi
import Derived.Test.YtemngcdlgnconaaSxEZ
import Derived.Test.YtemngcdlgnconaaSxR
set_option linter.unusedVariables false
set_option linter.unusedSimpArgs false
namespace Go.Sx
theorem tok_same (x : TknT) : Ty.eqb (Ty.st (Ty.pair (Ty.int IntKind.i64) (Ty.pair (Ty.int IntKind.i64) (Ty.pair (Ty.int IntKind.i64) (Ty.pair (Ty.int IntKind.i64) (Ty.int IntKind.i64)))))) x x = true := by
  simp [Ty.eqb]
theorem tokenEscapes_F (x : Int) : Z.f6F x = some true := by
  unfold Z.f6F
  rw [z15_alive]
  simp only [Option.bind_some, Bool.not_true, Bool.false_eq_true, if_false]
  rw [z19_eq, z20_eq]
  obtain ⟨r, h1, h2⟩ := tok_eq (l := [92, x]) (by simp)
  rw [h2]
  simp only [Option.bind_some]
  have hst : stepM [92, x] false 0 = (if (escM x).2.2 = true then .go [(if (escM x).2.1 = true then 12 else 1, (escM x).1, 0, 0, 0)] 2 false else .err 0 6) := by
    unfold stepM outM
    simp only [Bool.false_eq_true, if_false, List.getElem?_cons_zero, Int.reduceEq]
    unfold singleM charM
    simp only [List.getElem?_cons_zero, List.getElem?_cons_succ, if_true, Nat.zero_add]
    by_cases h : (escM x).2.2 = true
    · rw [if_pos h, if_pos h]; rfl
    · rw [if_neg h, if_neg h]; rfl
  by_cases ho : (escM x).2.2 = true
  · rw [if_pos ho] at hst
    have hd : Rd [92, x] false 2 (.inl []) := .done rfl
    have hr := h1.det (.go hst hd)
    subst hr
    have hs : isSign x = true → (escM x).1 = x ∧ (escM x).2.1 = false := fun h => by rw [sign_esc h]; exact ⟨rfl, rfl⟩
    generalize escM x = q at ho hs ⊢
    obtain ⟨c, g, o⟩ := q
    dsimp only at ho hs
    subst ho
    have tail : (if (!isSign x) = true then some true else if (c == x) = true then some !g else some false) = some true := by
      cases hx : isSign x with
      | false => rfl
      | true =>
        obtain ⟨g1, g2⟩ := hs hx
        subst g1; subst g2
        simp
    cases g <;> (simp only [Sum.map_inl, tokR, Bool.not_true, Bool.false_eq_true, if_false, if_true, Option.bind_some, BEq.rfl, List.append_nil, List.length_cons, List.length_nil, tok_same]; simpa [tok_same] using tail)
  · rw [if_neg ho] at hst
    have hr := h1.det (.err hst)
    subst hr
    have hs : isSign x = false := by
      cases h : isSign x with
      | false => rfl
      | true => rw [sign_esc h] at ho; exact absurd rfl ho
    have ho' : (escM x).2.2 = false := by simpa using ho
    simp only [ho', hs, tokR]
    rfl
theorem tokenEscapes_pure (x : Int) (_ : wfTup [.int .i64] x) : Z.f6F x = some true := tokenEscapes_F x
end Go.Sx
