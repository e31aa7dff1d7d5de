/- Sim, plain: the laws SimRuns and SimLongests. -/
import Derived.Test.YtjmmbgjdfmceeaaSxY9
set_option linter.unusedVariables false
set_option linter.unusedSimpArgs false
namespace Go.Sx

theorem ranged_of {p : List Inst} (h : ∀ y ∈ p, Ty.wf (.st (.pair (.int .i64) (.pair (.sl (.st (.pair (.int .i64) (.int .i64)))) (.pair (.int .i64) (.int .i64))))) y) : ranged p := fun x hx => (h x hx).2.1.1

theorem simRuns_pure (x : List Inst × List Int × List Int) (h : wfTup [.sl (.st (.pair (.int .i64) (.pair (.sl (.st (.pair (.int .i64) (.int .i64)))) (.pair (.int .i64) (.int .i64))))), .sl (.int .i64), .arr 2 (.int .i64)] x) : S.f4F x = some true := by
  obtain ⟨p, l, two⟩ := x
  have hpl : p.length ≤ 9223372036854775807 := h.1.1
  have hr : ranged p := ranged_of h.1.2
  unfold S.f4F
  rw [sAlive]
  simp only [Option.bind_some, Bool.not_true, Bool.false_eq_true, if_false]
  obtain ⟨g, hg⟩ := s15_some p hpl
  rw [hg]
  simp only [Option.bind_some]
  cases g with
  | true => rfl
  | false =>
  simp only [Bool.false_eq_true, if_false]
  by_cases h1 : (p.length : Int) > 200
  · rw [if_pos (by rw [decide_eq_true_eq]; exact h1)]; rfl
  rw [if_neg (by rw [decide_eq_true_eq]; exact h1)]
  simp only [Option.bind_some]
  by_cases h2 : (l.length : Int) > 40
  · rw [if_pos (by rw [decide_eq_true_eq]; exact h2)]
  rw [if_neg (by rw [decide_eq_true_eq]; exact h2)]
  have hb : (0 : Int) ≤ 0 ∧ (0 : Int) < ((2 : Nat) : Int) := by decide
  have hb1 : (0 : Int) ≤ 1 ∧ (1 : Int) < ((2 : Nat) : Int) := by decide
  simp only [if_pos hb, if_pos hb1, s21_eq (show p.length ≤ 100000 by omega) hr l (by omega), s22_eq (show p.length ≤ 100000 by omega) hr l (by omega), s23_eq (show p.length ≤ 100000 by omega) hr l (by omega), s24_eq (show p.length ≤ 100000 by omega) hr l (by omega), Option.bind_some, beq_self_eq_true, if_true]

theorem lastOr_in {e : Int} {l : List Int} (h : l ≠ []) : lastOr e l ∈ l := by
  unfold lastOr
  rw [List.getLastD_eq_getLast?, List.getLast?_eq_some_getLast h]
  exact List.getLast_mem h

theorem lastOr_max {e : Int} {l : List Int} (h : l.Pairwise (· < ·)) : ∀ x ∈ l, x ≤ lastOr e l := by
  intro x hx
  have h0 : l ≠ [] := List.ne_nil_of_mem hx
  unfold lastOr
  rw [List.getLastD_eq_getLast?, List.getLast?_eq_some_getLast h0]
  obtain ⟨i, hi, rfl⟩ := List.mem_iff_getElem.1 hx
  show l[i] ≤ l.getLast h0
  rw [List.getLast_eq_getElem h0]
  exact rise_le h (by omega) (by omega)

theorem simLongests_pure (x : List Inst × List Int × Int) (h : wfTup [.sl (.st (.pair (.int .i64) (.pair (.sl (.st (.pair (.int .i64) (.int .i64)))) (.pair (.int .i64) (.int .i64))))), .sl (.int .i64), .int .u8] x) : S.f6F x = some true := by
  obtain ⟨p, l, from_⟩ := x
  have hpl : p.length ≤ 9223372036854775807 := h.1.1
  have hr : ranged p := ranged_of h.1.2
  have hf : 0 ≤ from_ ∧ from_ ≤ 255 := by
    have : Ty.wf (.int .u8) from_ := h.2.2
    simpa [Ty.wf, IntKind.min, IntKind.max, IntKind.signed, IntKind.bits] using this
  unfold S.f6F
  rw [sAlive]
  simp only [Option.bind_some, Bool.not_true, Bool.false_eq_true, if_false]
  obtain ⟨g, hg⟩ := s15_some p hpl
  rw [hg]
  simp only [Option.bind_some]
  cases g with
  | true => rfl
  | false =>
  simp only [Bool.false_eq_true, if_false]
  by_cases h1 : (p.length : Int) > 100
  · rw [if_pos (by rw [decide_eq_true_eq]; exact h1)]; rfl
  rw [if_neg (by rw [decide_eq_true_eq]; exact h1)]
  simp only [Option.bind_some]
  by_cases h2 : (l.length : Int) > 30
  · rw [if_pos (by rw [decide_eq_true_eq]; exact h2)]
  rw [if_neg (by rw [decide_eq_true_eq]; exact h2)]
  have hw : IntKind.i64.wrap ((l.length : Int) + 1) = (l.length : Int) + 1 := wrap_i64 (by omega) (by omega)
  have hw2 : IntKind.i64.wrap from_ = from_ := wrap_i64 (by omega) (by omega)
  rw [hw, hw2, if_neg (by omega)]
  have hkm : Int.tmod from_ ((l.length : Int) + 1) = from_ % ((l.length : Int) + 1) := Int.tmod_eq_emod_of_nonneg hf.1
  have hk0 := Int.emod_nonneg from_ (show (l.length : Int) + 1 ≠ 0 by omega)
  have hk1 := Int.emod_lt_of_pos from_ (show (0 : Int) < (l.length : Int) + 1 by omega)
  rw [hkm]
  generalize from_ % ((l.length : Int) + 1) = k at *
  have hpl' : p.length ≤ 100000 := by omega
  have hll : l.length ≤ 10000 := by omega
  simp only [s21_eq hpl' hr l hll, s23_eq hpl' hr l hll, s26_eq p hpl', Option.bind_some]
  have hneg : runS p l (-1) = ([], 0) := by
    unfold runS runOk
    simp
  rw [hneg]
  cases hp : rightS p with
  | false =>
    have hrun : runS p l k = ([], 0) := by
      unfold runS runOk
      rw [hp]
      simp
    rw [hrun]
    rfl
  | true =>
  simp only [Bool.not_true, Bool.false_eq_true, if_false]
  obtain ⟨hn, hpos, _, _⟩ := rightS_all hp
  obtain ⟨k, rfl⟩ := Int.eq_ofNat_of_zero_le hk0
  have hrun : runS p l (k : Int) = walkS p (l.drop k) k [0] := by
    unfold runS runOk
    rw [hp, decide_eq_true hk0, decide_eq_true (show (k : Int) ≤ l.length by omega)]
    simp
  rw [hrun]
  have hge := walkS_ge p (l.drop k) k [0]
  have hri := walkS_rise p (l.drop k) k [0]
  have hsp : 0 < (walkS p (l.drop k) k [0]).2 := by
    have hz : ∀ st sp, 0 < (reachS p [0] st sp).length := fun st sp => by
      have : (0 : Int) ∈ reachS p [0] st sp := by
        obtain ⟨m, _, hm⟩ := s17_ok (st := st) (sp := sp) (A := [0]) hp (by simp)
        rw [← hm.reachS, hm.mem]
        exact ⟨by omega, .base (by simp) (by omega) (by omega)⟩
      exact List.length_pos_of_mem this
    cases hd : l.drop k with
    | nil => rw [walkS_last p (by simp)]; exact hz _ _
    | cons c l' => rw [walkS_cons p (by simp)]; have := hz (decide (k = 0)) false; dsimp only; omega
  have hst := walkS_steps p (l.drop k) k [0]
  generalize walkS p (l.drop k) k [0] = w at *
  obtain ⟨o, st⟩ := w
  dsimp only at hge hri hsp ⊢
  rw [List.length_drop] at hge
  have hlast : lastOr (-1) o = -1 ∧ o = [] ∨ (lastOr (-1) o ∈ o ∧ (k : Int) ≤ lastOr (-1) o ∧ lastOr (-1) o ≤ l.length) := by
    by_cases h0 : o = []
    · subst h0; exact .inl ⟨rfl, rfl⟩
    · have h3 := lastOr_in (e := -1) h0
      have := hge _ h3
      exact .inr ⟨h3, by omega, by omega⟩
  have hmax := lastOr_max (e := -1) hri
  generalize lastOr (-1) o = e at *
  have hv5 : (if decide (e ≥ 0) = true then (if decide (e < (k : Int)) = true then some true else (if decide (e > (l.length : Int)) = true then some true else some (!decide (e ∈ o)))) else some false) = some false := by
    rcases hlast with ⟨h3, h4⟩ | ⟨h3, h4, h5⟩
    · rw [if_neg (by rw [decide_eq_true_eq]; omega)]
    · rw [if_pos (by rw [decide_eq_true_eq]; omega), if_neg (by rw [decide_eq_true_eq]; omega), if_neg (by rw [decide_eq_true_eq]; omega), decide_eq_true h3]
      rfl
  rw [hv5]
  simp only [Option.bind_some, Bool.false_eq_true, if_false]
  have he : -1 ≤ e ∧ e ≤ l.length := by rcases hlast with ⟨h3, h4⟩ | ⟨h3, h4, h5⟩ <;> omega
  rw [wrap_i64 (x := e + 1) (by omega) (by omega), wrap_i64 (x := (k : Int) - 1) (by omega) (by omega)]
  have h0 : (if e + 1 > 0 then e + 1 else 0) = e + 1 := by split <;> omega
  rw [h0]
  suffices hh : ∃ r, Option.bind _ _ = some r ∧ r = true by
    obtain ⟨r, h1, rfl⟩ := hh
    exact h1
  refine bind_ex (iter_rule (I := fun (s : Int) => e + 1 ≤ s ∧ s ≤ (l.length : Int) + 1) (Q := fun (r : Unit ⊕ Bool) => r = .inl ()) (fun s => ((l.length : Int) + 1 - s).toNat) ?_ _ ⟨Int.le_refl _, by omega⟩) ?_
  · rintro s ⟨hs1, hs2⟩
    by_cases hsl : s ≤ (l.length : Int)
    · have hno : decide (s ∈ o) = false := decide_eq_false fun hm => by have := hmax s hm; omega
      rw [if_pos (by rw [decide_eq_true_eq]; exact hsl), hno, if_neg (by simp), wrap_i64 (by omega) (by omega)]
      exact .inl ⟨_, rfl, ⟨by omega, by omega⟩, by omega⟩
    · rw [if_neg (by rw [decide_eq_true_eq]; exact hsl)]
      exact .inr ⟨_, rfl, rfl⟩
  · rintro _ rfl
    have hno : decide (((k : Int) - 1) ∈ o) = false := decide_eq_false fun hm => by have := hge _ hm; omega
    simp only [Sum.elim_inl]
    rw [if_pos (by rw [decide_eq_true_eq]; omega), hno]
    exact ⟨_, rfl, rfl⟩
end Go.Sx
