/- Token: the laws. -/
import Derived.Test.YtemngcdlgnconaaSxTKi
import Derived.Test.YtemngcdlgnconaaSxEZ
import Derived.Test.YtemngcdlgnconaaSxR
set_option linter.unusedVariables false
set_option linter.unusedSimpArgs false
namespace Go.Sx
theorem bind_iter {S E R : Type} {f : S → Option (S ⊕ E)} {k : E → Option R} {y : R} {s0 : S} (I : S → Prop) (e0 : E) (μ : S → Nat) (h0 : I s0) (hk : k e0 = some y)
    (h : ∀ s, I s → (∃ s', f s = some (.inl s') ∧ I s' ∧ μ s' < μ s) ∨ ∃ e, f s = some (.inr e) ∧ e = e0) : (iter f s0).bind k = some y := by
  obtain ⟨e, he, rfl⟩ := iter_rule (Q := fun e => e = e0) μ h s0 h0
  rw [he]
  exact hk
theorem z17_eq {x : List Int} (hx : x.length ≤ 300) : Z.f17F x = some (qM x) := by
  unfold Z.f17F
  refine bind_iter (fun s : Int × List Int => ∃ k : Nat, s = ((k : Int), qM (x.take k)) ∧ k ≤ x.length) (qM x) (fun s => ((x.length : Int) - s.1).toNat) ⟨0, rfl, Nat.zero_le _⟩ rfl ?_
  · rintro _ ⟨k, rfl, hk⟩
    dsimp only
    by_cases h : k < x.length
    · left
      have hl := qM_len (x.take k)
      rw [List.length_take] at hl
      have ht : qM (x.take (k + 1)) = qM (x.take k) ++ (if isSign x[k] = true then [92, x[k]] else [x[k]]) := by
        rw [List.take_add_one, List.getElem?_eq_getElem h, qM_app]
        simp only [Option.toList, qM, List.append_nil]
      have hw : IntKind.i64.wrap ((k : Int) + 1) = ((k + 1 : Nat) : Int) := by rw [wrap_i64 (by omega) (by omega)]; push_cast; rfl
      rw [if_pos (by rw [decide_eq_true_eq]; omega), if_pos (by omega), Int.toNat_natCast, tgetD h, z20_eq, hw]
      simp only [Option.bind_some]
      by_cases hs : isSign x[k] = true
      · rw [if_pos hs, if_pos (by unfold roomOk; omega), if_pos (by rw [List.length_append]; unfold roomOk; simp only [List.length_cons, List.length_nil]; omega)]
        refine ⟨_, rfl, ⟨k + 1, ?_, by omega⟩, by dsimp only; omega⟩
        rw [ht, if_pos hs, List.append_assoc]
        rfl
      · rw [if_neg hs, if_pos (by unfold roomOk; omega)]
        refine ⟨_, rfl, ⟨k + 1, ?_, by omega⟩, by dsimp only; omega⟩
        rw [ht, if_neg hs]
    · right
      rw [if_neg (by rw [decide_eq_true_eq]; omega)]
      exact ⟨_, rfl, by rw [List.take_of_length_le (by omega)]⟩
theorem tokenQuotes_F (x : List Int) : Z.f3F x = some true := by
  unfold Z.f3F
  rw [z15_alive]
  simp only [Option.bind_some, Bool.not_true, Bool.false_eq_true, if_false]
  by_cases hx : x.length ≤ 100
  · rw [if_neg (by rw [decide_eq_true_eq]; omega), z17_eq (by omega)]
    simp only [Option.bind_some]
    have hq := qM_len x
    obtain ⟨r, h1, h2⟩ := tok_eq (l := qM x) (by omega)
    obtain ⟨ts, h3, h4⟩ := quote_rd x []
    have hr := h1.det h3
    subst hr
    have hl : ts.length = x.length := by have := congrArg List.length h4; simpa using this
    rw [h2]
    simp only [tokR, Option.bind_some, hl, bne_self_eq_false, Bool.false_eq_true, if_false]
    refine bind_iter (fun s : Int => ∃ k : Nat, s = (k : Int) ∧ k ≤ x.length) (.inl ()) (fun s => ((x.length : Int) - s).toNat) ⟨0, rfl, Nat.zero_le _⟩ rfl ?_
    · rintro _ ⟨k, rfl, hk⟩
      by_cases h : k < x.length
      · left
        have hw : IntKind.i64.wrap ((k : Int) + 1) = ((k + 1 : Nat) : Int) := by rw [wrap_i64 (by omega) (by omega)]; push_cast; rfl
        have hg : ts.getD k (0, 0, 0, 0, 0) = ts[k]'(by omega) := by simp [List.getD_eq_getElem?_getD, show k < ts.length by omega]
        have hk2 : ((ts[k]'(by omega)).1, (ts[k]'(by omega)).2.1) = ((1 : Int), x[k]) := by
          have h5 : (ts.map (fun t => (t.1, t.2.1)))[k]? = (x.map (fun c => ((1 : Int), c)))[k]? := by rw [h4]
          rw [List.getElem?_map, List.getElem?_map, List.getElem?_eq_getElem (show k < ts.length by omega), List.getElem?_eq_getElem h] at h5
          exact Option.some.inj h5
        rw [if_pos (by rw [decide_eq_true_eq]; omega), if_pos (by omega), Int.toNat_natCast, tgetD h, hg, (Prod.mk.inj hk2).1, (Prod.mk.inj hk2).2]
        have hr : (0 ≤ (k : Int) ∧ (k : Int) < (x.length : Int)) := by omega
        simp only [bne_self_eq_false, Bool.false_eq_true, if_false, Option.bind_some, hr, and_self, if_true]
        exact ⟨_, rfl, ⟨k + 1, hw, by omega⟩, by rw [hw]; omega⟩
      · right
        rw [if_neg (by rw [decide_eq_true_eq]; omega)]
        exact ⟨_, rfl, rfl⟩
  · rw [if_pos (by rw [decide_eq_true_eq]; omega)]
theorem tokenQuotes_pure (x : List Int) (_ : wfTup [.sl (.int .i64)] x) : Z.f3F x = some true := tokenQuotes_F x
end Go.Sx
