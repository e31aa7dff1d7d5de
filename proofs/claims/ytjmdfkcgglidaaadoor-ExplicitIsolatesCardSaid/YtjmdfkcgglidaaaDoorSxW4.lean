import Derived.Test.YtjmdfkcgglidaaaDoorSxW3
set_option linter.unusedVariables false
set_option linter.unusedSimpArgs false
namespace Go.Sx

theorem f41_eq {k : Nat} {s : St} (h : SInv k k s) (hk : k ≤ 99999) {l : List Int} (hl : l.length ≤ 100000) {i : Nat} (hi : i < l.length) : G.f41F (l, (i : Int), pt s) = some (pt (s.step l i)) := by
  have hb : (0 : Int) ≤ i ∧ (i : Int) < l.length := ⟨by omega, by omega⟩
  have h1 := h.lv
  have h2 := h.cl
  have e51 := f51_top h (by omega)
  have e50 : ∀ c, G.f50F (s.top.1, c, pt s) = some (pt (s.tell s.top.1 c)) := fun c => f50_eq _ _ _ (by omega) (by omega)
  have e52 : ∀ c dir over, G.f52F (dir, over, pt (s.tell s.top.1 c)) = some (pt ((s.tell s.top.1 c).embed dir over)) := fun c dir over => f52_eq (h.tell _ _) (by omega) dir over
  have e53 : ∀ c, G.f53F (pt (s.tell s.top.1 c)) = some (pt (s.tell s.top.1 c).back) := fun c => f53_eq (h.tell _ _) (by omega)
  have e54 : ∀ c, G.f54F (c, pt s) = some (pt (s.place c)) := fun c => f54_eq h (by omega) (by omega) c
  have e55 : ∀ c dir, G.f55F (dir, pt (s.place c)) = some (pt ((s.place c).iso dir)) := fun c dir => f55_eq (h.place _) (by omega) dir
  have e56 : G.f56F (pt s) = some (pt s.fin) := f56_eq h (by omega)
  have e54' : ∀ c, G.f54F (c, pt s.fin) = some (pt (s.fin.place c)) := fun c => f54_eq h.fin (by omega) (by omega) c
  have e40 : G.f40F (pt s) = some (pt s.reset) := f40_eq s
  have e50' : ∀ c, G.f50F (s.base, c, pt s.reset) = some (pt (s.reset.tell s.base c)) := fun c => f50_eq _ _ _ (by have := h.reset.lv; omega) (by have := h.reset.cl; omega)
  have e20 : G.f20F (l, (i : Int)) = some (isoS l i) := f20_eq hl _
  simp only [pt] at e50 e52 e53 e54 e55 e56 e54' e40 e50'
  unfold G.f41F St.step
  simp only [pt, if_pos hb, Int.toNat_natCast]
  generalize l.getD i 0 = c
  obtain ⟨b, hb1, hb2⟩ := f49_eq c
  by_cases c14 : c = 14
  · subst c14
    simp only [Int.reduceBEq, Int.reduceEq, reduceIte, Option.bind_some, e51, e50, e52, Bool.false_eq_true]
  by_cases c16 : c = 16
  · subst c16
    simp only [Int.reduceBEq, Int.reduceEq, reduceIte, Option.bind_some, e51, e50, e52, Bool.false_eq_true]
  by_cases c15 : c = 15
  · subst c15
    simp only [Int.reduceBEq, Int.reduceEq, reduceIte, Option.bind_some, e51, e50, e52, Bool.false_eq_true]
  by_cases c17 : c = 17
  · subst c17
    simp only [Int.reduceBEq, Int.reduceEq, reduceIte, Option.bind_some, e51, e50, e52, Bool.false_eq_true]
  by_cases c18 : c = 18
  · subst c18
    simp only [Int.reduceBEq, Int.reduceEq, reduceIte, Option.bind_some, e51, e50, e53, Bool.false_eq_true]
  by_cases c9 : c = 9
  · subst c9
    simp only [Int.reduceBEq, Int.reduceEq, reduceIte, Option.bind_some, e51, e50, Bool.false_eq_true]
  by_cases c19 : c = 19
  · subst c19
    simp only [Int.reduceBEq, Int.reduceEq, reduceIte, Option.bind_some, e54, e55, e20, Bool.false_eq_true, show opens 19 = true from rfl]
  by_cases c20 : c = 20
  · subst c20
    simp only [Int.reduceBEq, Int.reduceEq, reduceIte, Option.bind_some, e54, e55, e20, Bool.false_eq_true, show opens 20 = true from rfl]
  by_cases c21 : c = 21
  · subst c21
    simp only [Int.reduceBEq, Int.reduceEq, reduceIte, Option.bind_some, e54, e55, e20, Bool.false_eq_true, show opens 21 = true from rfl]
  by_cases c22 : c = 22
  · subst c22
    simp only [Int.reduceBEq, Int.reduceEq, reduceIte, Option.bind_some, e54', e56, Bool.false_eq_true, show opens 22 = false from rfl]
  by_cases c10 : c = 10
  · subst c10
    have e50'' := e50'
    simp only [St.reset] at e50''
    simp only [Int.reduceBEq, Int.reduceEq, reduceIte, Option.bind_some, e40, e50'', Bool.false_eq_true, show opens 10 = false from rfl, St.reset]
  have f (n : Int) (hn : c ≠ n) : (c == n) = false := by simpa using hn
  have ho : opens c = false := by unfold opens; rw [f 19 c19, f 20 c20, f 21 c21]; rfl
  simp only [f 14 c14, f 16 c16, f 15 c15, f 17 c17, f 18 c18, f 9 c9, f 19 c19, f 20 c20, f 21 c21, f 22 c22, f 10 c10, c14, c16, c15, c17, c18, c9, c22, c10, ho, Bool.false_eq_true, if_false, Option.bind_some, hb1, hb2]
  by_cases hw : c < 0 ∨ 23 ≤ c
  · simp only [hw, decide_true, if_true, e54, Option.bind_some]
  · simp only [hw, decide_false, Bool.false_eq_true, if_false, e54, Option.bind_some]
end Go.Sx
