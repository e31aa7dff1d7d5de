/- Dfa: the laws DfaCaches and DfaBounds. -/
import Derived.Test.YtjmmbgjdfmceeaaSxDk
import Derived.Test.YtjmmbgjdfmceeaaSxT9c
set_option linter.unusedVariables false
set_option linter.unusedSimpArgs false
namespace Go.Sx
theorem dfaCaches_core (p : List Inst) (l : List (List Int)) (most : Int) (hl : p.length ≤ 9223372036854775807) (hr : ranged p) (hm : 0 ≤ most ∧ most ≤ 65535) : D.f7F (p, l, most) = some true := by
  unfold D.f7F
  rw [d27_alive]
  simp only [Option.bind_some, Bool.not_true, Bool.false_eq_true, if_false]
  obtain ⟨g, hg⟩ := s15_some p hl
  rw [hg]
  simp only [Option.bind_some]
  cases g with
  | true => rfl
  | false =>
  rw [if_neg (by decide)]
  by_cases h60 : (p.length : Int) > 60
  · rw [if_pos (by rw [decide_eq_true_eq]; exact h60)]; rfl
  rw [if_neg (by rw [decide_eq_true_eq]; exact h60)]
  simp only [Option.bind_some]
  by_cases h8 : (l.length : Int) > 8
  · rw [if_pos (by rw [decide_eq_true_eq]; exact h8)]
  rw [if_neg (by rw [decide_eq_true_eq]; exact h8)]
  obtain ⟨c0, hc0, hc0'⟩ : ∃ c : Int, IntKind.i64.wrap (2 + Int.tmod (IntKind.i64.wrap most) 999) = c ∧ 2 ≤ c ∧ c ≤ 1000 := by
    rw [wrap_i64 (x := most) (by omega) (by omega), Int.tmod_eq_emod_of_nonneg (by omega), wrap_i64 (by omega) (by omega)]
    exact ⟨_, rfl, by omega, by omega⟩
  rw [hc0]
  cases hp : rightS p with
  | false =>
    rw [d28_eq (by omega) c0, hp, if_pos rfl]
    simp only [Option.bind_some]
    rw [if_pos (by decide), if_pos (by decide), s26_any, hp]
    rfl
  | true =>
  obtain ⟨_, _, hp1000⟩ := rightS_last hp
  rw [d28_eq (by omega) c0, hp, if_neg (by decide), if_neg (by omega)]
  simp only [Option.bind_some]
  rw [if_neg (by decide)]
  have hS0 : Small ([] : List StD) 0 := ⟨by simp, fun s hs => by simp at hs, fun s hs => by simp at hs⟩
  refine ex_to ?_
  refine bind_ex (Q := fun e : (List Inst × Int × List StD × Int) ⊕ Bool => e = .inr true ∨ ∃ (S : List StD) (fl : Int), e = .inl (p, c0, S, fl) ∧ CacheI p S ∧ (S.length : Int) ≤ c0 ∧ Small S 1248 ∧ 0 ≤ fl)
    (iter_rule (I := fun s : Int × List Inst × Int × List StD × Int => ∃ (i : Nat) (S : List StD) (fl : Int), s = ((i : Int), p, c0, S, fl) ∧ i ≤ l.length ∧ CacheI p S ∧ (S.length : Int) ≤ c0 ∧ Small S (i * 156) ∧ (0 ≤ fl ∧ fl ≤ i * 169))
    (fun s => ((l.length : Int) - s.1).toNat) ?_ _ ⟨0, [], 0, rfl, Nat.zero_le _, CacheI.nil p, by simp; omega, hS0, by omega⟩) ?_
  rotate_left
  · rintro _ (rfl | ⟨S, fl, rfl, hC, hCl, hSm, hfl⟩)
    · exact ⟨_, rfl, rfl⟩
    · refine ⟨_, ?_, rfl⟩
      show Option.bind (D.f30F (p, c0, S, fl)) _ = some true
      rw [d30_true hp hr hSm (by omega) hc0' hfl hCl hC]
      rfl
  rintro _ ⟨i, S, fl, rfl, hi, hC, hCl, hSm, hfl⟩
  dsimp only
  by_cases hil : i < l.length
  rotate_left
  · rw [if_neg (by rw [decide_eq_true_eq]; omega)]
    exact .inr ⟨_, rfl, .inr ⟨S, fl, rfl, hC, hCl, hSm.more (by omega), hfl.1⟩⟩
  rw [if_pos (by rw [decide_eq_true_eq]; omega), if_pos (by omega), Int.toNat_natCast]
  have hcond : (0 : Int) ≤ (i : Int) ∧ (i : Int) < (l.length : Int) := by omega
  simp only [if_pos hcond]
  generalize List.getD l i [] = t
  by_cases ht : (t.length : Int) > 12
  · rw [if_pos (by rw [decide_eq_true_eq]; exact ht)]
    exact .inr ⟨_, rfl, .inl rfl⟩
  rw [if_neg (by rw [decide_eq_true_eq]; exact ht)]
  refine stp_bind (R := fun e : (List Inst × Int × List StD × Int) ⊕ Bool => ∃ (S : List StD) (fl : Int), e = .inl (p, c0, S, fl) ∧ CacheI p S ∧ (S.length : Int) ≤ c0 ∧ Small S ((i + 1) * 156) ∧ (0 ≤ fl ∧ fl ≤ (i + 1) * 169))
    (iter_rule (I := fun s : Int × List Inst × Int × List StD × Int => ∃ (k : Nat) (S : List StD) (fl : Int), s = ((k : Int), p, c0, S, fl) ∧ k ≤ t.length + 1 ∧ CacheI p S ∧ (S.length : Int) ≤ c0 ∧ Small S (i * 156 + k * 12) ∧ (0 ≤ fl ∧ fl ≤ i * 169 + k * 13))
      (fun s => ((t.length : Int) + 1 - s.1).toNat) ?_ _ ⟨0, S, fl, rfl, Nat.zero_le _, hC, hCl, hSm.more (by omega), by omega⟩) ?_
  rotate_left
  · rintro _ ⟨S2, fl2, rfl, q1, q2, q3, q4⟩
    left
    refine ⟨_, rfl, ⟨i + 1, S2, fl2, ?_, hil, q1, q2, q3, by omega⟩, ?_⟩
    · rw [wrap_i64 (x := (i : Int) + 1) (by omega) (by omega)]
      rfl
    · show ((l.length : Int) - IntKind.i64.wrap ((i : Int) + 1)).toNat < ((l.length : Int) - (i : Int)).toNat
      rw [wrap_i64 (x := (i : Int) + 1) (by omega) (by omega)]
      omega
  clear hC hCl hSm hfl S fl
  rintro _ ⟨k, S, fl, rfl, hk, hC, hCl, hSm, hfl⟩
  dsimp only
  by_cases hkl : k ≤ t.length
  rotate_left
  · rw [if_neg (by rw [decide_eq_true_eq]; omega)]
    exact .inr ⟨_, rfl, S, fl, rfl, hC, hCl, hSm.more (by omega), by omega⟩
  rw [if_pos (by rw [decide_eq_true_eq]; omega)]
  obtain ⟨hd, hd2⟩ := d29_eq (most := c0) (fl := fl) (l := t) (k := k) hp hr hSm (by omega) hc0' (by omega) hCl hC (by omega) hkl
  obtain ⟨T, fl', g1, g2, g3, g4, g5⟩ := longS_ok (most := c0) hp (by omega) hC hCl fl t hkl
  rw [g1] at hd hd2
  dsimp only at hd hd2
  rw [hd]
  simp only [Option.bind_some]
  rw [s22_eq (by omega) hr t (by omega) k]
  simp only [Option.bind_some]
  have hro : roundsS p (t.drop k) k [0] ≤ t.length - k + 1 := by
    have := roundsS_le p (t.drop k) k [0]
    rw [List.length_drop] at this
    omega
  have hro1 := roundsS_pos p (t.drop k) k (A := [0]) (by simp)
  generalize roundsS p (t.drop k) k [0] = n at *
  rw [if_neg (by simp), if_neg (by rw [decide_eq_true_eq]; omega), if_neg (by simp), if_neg (by rw [decide_eq_true_eq]; omega), if_neg (by rw [decide_eq_true_eq]; omega)]
  rw [wrap_i64 (x := (t.length : Int) - (k : Int)) (by omega) (by omega), wrap_i64 (x := (t.length : Int) - (k : Int) + 1) (by omega) (by omega), decide_eq_false (show ¬ (n : Int) > (t.length : Int) - (k : Int) + 1 by omega)]
  simp only [Option.bind_some, Bool.false_eq_true, if_false]
  rw [wrap_i64 (x := (k : Int) + 1) (by omega) (by omega)]
  exact .inl ⟨_, rfl, ⟨k + 1, T, fl', rfl, by omega, g2, g3, hd2.more (by omega), by omega⟩, by show ((t.length : Int) + 1 - ((k : Int) + 1)).toNat < ((t.length : Int) + 1 - (k : Int)).toNat; omega⟩
theorem dfaCaches_pure (x : List Inst × List (List Int) × Int) (h : wfTup [.sl (.st (.pair (.int .i64) (.pair (.sl (.st (.pair (.int .i64) (.int .i64)))) (.pair (.int .i64) (.int .i64))))), .sl (.sl (.int .i64)), .int .u16] x) : D.f7F x = some true := by
  obtain ⟨p, l, c⟩ := x
  refine dfaCaches_core p l c h.1.1 (ranged_of h.1.2) ?_
  have : Ty.wf (.int .u16) c := h.2.2
  simpa [Ty.wf, IntKind.min, IntKind.max, IntKind.signed, IntKind.bits] using this
end Go.Sx
