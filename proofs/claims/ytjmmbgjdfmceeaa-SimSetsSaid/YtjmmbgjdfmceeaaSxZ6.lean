/- Sim, plain: the law SimSets. -/
import Derived.Test.YtjmmbgjdfmceeaaSxYA
set_option linter.unusedVariables false
set_option linter.unusedSimpArgs false
namespace Go.Sx

/-- What isn't too great has few instructions. -/
theorem s15_few {p : List Inst} (hl : p.length ≤ 9223372036854775807) (h : S.f15F p = some false) : p.length ≤ 1000 := by
  rcases Nat.lt_or_ge 1000 p.length with hp | hp
  · exfalso
    unfold S.f15F at h
    rw [iter_inr (e := (p.length : Int)) (by
      dsimp only
      rw [if_pos (by rw [decide_eq_true_eq]; omega)]
      simp only [Option.bind_some]
      rw [if_neg (by rw [decide_eq_true_eq]; omega)])] at h
    simp only [Option.bind_some, Option.some.injEq, decide_eq_false_iff_not] at h
    omega
  · exact hp

theorem s17_eq {p : List Inst} {st sp : Bool} {A : List Int} (hp : rightS p = true) (hA : A.length ≤ 100000) : S.f17F (p, A, st, sp) = some (reachS p A st sp) := by
  obtain ⟨m, h1, h2⟩ := s17_ok (st := st) (sp := sp) hp hA
  rw [h1, h2.reachS]

theorem simSets_pure (x : List Inst × List Int × Int) (h : wfTup [.sl (.st (.pair (.int .i64) (.pair (.sl (.st (.pair (.int .i64) (.int .i64)))) (.pair (.int .i64) (.int .i64))))), .sl (.int .i64), .int .i64] x) : S.f3F x = some true := by
  obtain ⟨p, A, c⟩ := x
  have hpl : p.length ≤ 9223372036854775807 := h.1.1
  have hr : ranged p := ranged_of h.1.2
  unfold S.f3F
  rw [sAlive]
  simp only [Option.bind_some, Bool.not_true, Bool.false_eq_true, if_false]
  obtain ⟨g, hg⟩ := s15_some p hpl
  rw [hg]
  simp only [Option.bind_some]
  cases g with
  | true => rfl
  | false =>
  have hpn := s15_few hpl hg
  simp only [Bool.false_eq_true, if_false, Option.bind_some]
  by_cases h2 : (A.length : Int) > 300
  · rw [if_pos (by rw [decide_eq_true_eq]; exact h2)]
  rw [if_neg (by rw [decide_eq_true_eq]; exact h2)]
  have hsame : ∀ st sp : Bool, ∃ r : List Int, S.f17F (p, A, st, sp) = some r ∧ S.f18F (p, A, st, sp) = some r ∧ r.length ≤ 1000 := by
    intro st sp
    cases hp : rightS p with
    | false => exact ⟨[], s17_wrong hp (by omega), s18_wrong hp (by omega), by simp⟩
    | true => exact ⟨_, s17_eq hp (by omega), s18_eq hp (by omega), Nat.le_trans (reachS_len _ _ _ _) hpn⟩
  suffices hh : ∃ r, Option.bind _ _ = some r ∧ r = true by
    obtain ⟨r, h1, rfl⟩ := hh
    exact h1
  refine bind_ex (Q := fun (e : PUnit ⊕ Bool) => e = .inl ()) (iter_rule (I := fun (s : Int) => ∃ i : Nat, s = (i : Int) ∧ i ≤ 4) (fun s => (4 - s).toNat) ?_ _ ⟨0, rfl, by omega⟩) ?_
  · rintro _ ⟨i, rfl, hi⟩
    by_cases hi4 : i < 4
    · rw [if_pos (by rw [decide_eq_true_eq]; omega)]
      obtain ⟨r, r1, r2, r3⟩ := hsame (Int.tmod (i : Int) 2 == 1) (IntKind.i64.wrap (Int.tdiv (i : Int) 2) == 1)
      rw [r1]
      simp only [Option.bind_some]
      rw [r2]
      simp only [Option.bind_some]
      rw [s16_eq _ _ (by omega), wrap_i64 (x := (i : Int) + 1) (by omega) (by omega)]
      simp only [Option.bind_some, decide_true, Bool.not_true, Bool.false_eq_true, if_false]
      exact .inl ⟨_, rfl, ⟨i + 1, rfl, by omega⟩, by omega⟩
    · rw [if_neg (by rw [decide_eq_true_eq]; omega)]
      exact .inr ⟨_, rfl, rfl⟩
  · rintro _ rfl
    dsimp only [Sum.elim_inl]
    cases hp : rightS p with
    | false =>
      have e1 : S.f19F (p, A, c) = some [] := by
        unfold S.f19F
        dsimp only
        rw [s42_eq _ (by omega), hp]
        rfl
      have e2 : S.f20F (p, A, c) = some [] := by
        unfold S.f20F
        dsimp only
        rw [s26_eq _ (by omega), hp]
        rfl
      rw [e1]
      simp only [Option.bind_some]
      rw [e2]
      simp only [Option.bind_some]
      rw [s16_eq _ _ (by simp)]
      exact ⟨_, rfl, by simp⟩
    | true =>
      obtain ⟨r, q1, q2, q3, q4⟩ := s46_ok (p := p) (A := A) (by omega) (by omega) hr c
      obtain ⟨t, t1, t2, t3⟩ := s20_any (p := p) (A := A) (by omega) hp hr c
      have hrt : r = t := rise_ext q2 t2 fun k => (q3 k).trans (t3 k).symm
      subst hrt
      have hlen : r.length ≤ 100000 := by omega
      have e1 : S.f19F (p, A, c) = some r := by
        unfold S.f19F
        dsimp only
        rw [s42_eq _ (by omega), hp]
        simp only [Option.bind_some, Bool.not_true, Bool.false_eq_true, if_false]
        rw [q1]
        rfl
      rw [e1]
      simp only [Option.bind_some]
      rw [t1]
      simp only [Option.bind_some]
      rw [s16_eq _ _ hlen]
      exact ⟨_, rfl, by simp⟩
end Go.Sx
