import Derived.Test.YtjmdfkcgglidaaaDoorSxW5
set_option linter.unusedVariables false
set_option linter.unusedSimpArgs false
namespace Go.Sx

theorem aliveE : G.f23F () = some true := by
  unfold G.f23F
  have h1 : G.f24F ([17, 0, 19, 3, 22, 18, 0], 0) = some ([0, 1, 1, 2, 1, 1, 0], [17, 1, 1, 3, 1, 18, 0]) := by
    rw [f24_eq (by simp)]
    have e1 : (runS [17, 0, 19, 3, 22, 18, 0] (baseOf 0) 7).lv = [0, 1, 1, 2, 1, 1, 0] := by decide +kernel
    have e2 : (runS [17, 0, 19, 3, 22, 18, 0] (baseOf 0) 7).cl = [17, 1, 1, 3, 1, 18, 0] := by decide +kernel
    rw [show ([17, 0, 19, 3, 22, 18, 0] : List Int).length = 7 from rfl, e1, e2]
  have h2 : G.f26F ([16, 14, 18, 20], 0) = some 3 := by
    rw [f26_eq (by simp)]
    have e1 : (runS [16, 14, 18, 20] (baseOf 0) 4).most = 3 := by decide +kernel
    rw [show ([16, 14, 18, 20] : List Int).length = 4 from rfl, e1]
  simp only [h1, h2, Option.bind_some, f13_eq [0, 1, 1, 2, 1, 1, 0] [0, 1, 1, 2, 1, 1, 0] (by simp), f13_eq [17, 1, 1, 3, 1, 18, 0] [17, 1, 1, 3, 1, 18, 0] (by simp), decide_true, if_true, f28_eq 1 1 (by omega) (by omega), f28_eq 1 0 (by omega) (by omega), f28_none 126 0 (by omega), show nextS 1 1 = 3 from rfl, show nextS 1 0 = 2 from rfl, beq_self_eq_true]

theorem explicitNexts_pure (x : Int × Bool) (h : wfTup [.int .u8, .bool] x) : G.f10F x = some true := by
  obtain ⟨level, right⟩ := x
  have hl : 0 ≤ level ∧ level ≤ 255 := by
    have := h.1
    simpa [Ty.wf, IntKind.min, IntKind.max, IntKind.signed, IntKind.bits] using this
  unfold G.f10F
  have hw : IntKind.i64.wrap level = level := wrap_i64 (by omega) (by omega)
  simp only [aliveE, Option.bind_some, Bool.not_true, Bool.false_eq_true, if_false, hw]
  obtain ⟨n0, n1⟩ := tmod_bounds hl.1 (show (0 : Int) < 126 by omega)
  generalize level.tmod 126 = n at *
  obtain ⟨d, hd, hdd⟩ : ∃ d : Int, (if right = true then some (1 : Int) else some 0) = some d ∧ (d = 0 ∨ d = 1) := by
    cases right
    · exact ⟨0, rfl, .inl rfl⟩
    · exact ⟨1, rfl, .inr rfl⟩
  rw [hd]
  have hb := nextS_bounds (level := n) (dir := d) n0
  have hx : nextS n d % 2 = d ∧ (nextS n d = n + 1 ∨ n % 2 = d) := by
    unfold nextS
    rcases hdd with rfl | rfl
    · rw [if_neg (by omega)]; omega
    · rw [if_pos rfl]; omega
  simp only [Option.bind_some, f28_eq n d n0 (by omega)]
  generalize nextS n d = x at *
  rw [if_pos (by rw [decide_eq_true_eq]; omega), wrap_i64 (by omega) (by omega), if_pos (by rw [decide_eq_true_eq]; omega), Int.tmod_eq_emod_of_nonneg (by omega), if_pos (by rw [beq_iff_eq]; omega),
    wrap_i64 (by omega) (by omega), wrap_i64 (by omega) (by omega), wrap_i64 (by omega) (by omega), Int.tmod_eq_emod_of_nonneg (by omega), f28_none (-1 - level) d (by omega), f28_none (126 + level) d (by omega)]
  simp only [Option.bind_some, beq_self_eq_true, if_true]
  rcases hx.2 with h1 | h1
  · rw [if_pos (by rw [beq_iff_eq]; exact h1)]
  · split
    · rfl
    · rw [if_pos (by rw [beq_iff_eq]; exact h1)]
end Go.Sx
