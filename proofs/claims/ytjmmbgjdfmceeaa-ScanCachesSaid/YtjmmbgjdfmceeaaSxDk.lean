/- Scan: 'First', 'Cover', and the laws ScanCaches, ScanCovers, ScanFirsts. -/
import Derived.Test.YtjmmbgjdfmceeaaSxDj
set_option linter.unusedVariables false
set_option linter.unusedSimpArgs false
namespace Go.Sx
def FirstI (p : List Inst) (l : List Int) (a : Nat) (r : (Int × Int) × Bool) : Prop :=
  (∃ k : Nat, a ≤ k ∧ k ≤ l.length ∧ (∀ j : Nat, a ≤ j → j < k → lgS p l j < 0) ∧ 0 ≤ lgS p l k ∧ r = (((k : Int), lgS p l k), true)) ∨
  ((∀ j : Nat, a ≤ j → j ≤ l.length → lgS p l j < 0) ∧ r = ((0, 0), false))
theorem d38_ok {p : List Inst} (hp : rightS p = true) (hr : ranged p) {l : List Int} (hll : l.length ≤ 10000) (a : Nat) (ha : a ≤ l.length + 1) : ∃ r, D.f38F (p, l, (a : Int)) = some r ∧ FirstI p l a r := by
  obtain ⟨_, _, hp1000⟩ := rightS_last hp
  unfold D.f38F
  dsimp only
  rw [if_neg (by rw [decide_eq_true_eq]; omega), s42_any, hp]
  simp only [Option.bind_some, Bool.not_true, Bool.false_eq_true, if_false]
  refine bind_ex (Q := fun e : (Int × Int) ⊕ (Bool × Int × Int) => ((∀ j : Nat, a ≤ j → j ≤ l.length → lgS p l j < 0) ∧ e = .inl (0, 0)) ∨ ∃ k : Nat, a ≤ k ∧ k ≤ l.length ∧ (∀ j : Nat, a ≤ j → j < k → lgS p l j < 0) ∧ 0 ≤ lgS p l k ∧ e = .inr (true, (k : Int), lgS p l k))
    (iter_rule (I := fun s : Int × Int × Int => ∃ k : Nat, s = ((k : Int), 0, 0) ∧ a ≤ k ∧ k ≤ l.length + 1 ∧ ∀ j : Nat, a ≤ j → j < k → lgS p l j < 0) (fun s => ((l.length : Int) + 1 - s.1).toNat) ?_ _ ⟨a, rfl, Nat.le_refl _, ha, fun j h1 h2 => by omega⟩) ?_
  · rintro _ ⟨k, rfl, h1, h2, h3⟩
    dsimp only
    by_cases hk : k ≤ l.length
    · rw [if_pos (by rw [decide_eq_true_eq]; omega), s21_eq (by omega) hr l hll k]
      simp only [Option.bind_some]
      have hlg : lastOr (-1) (runS p l k).1 = lgS p l k := rfl
      rw [hlg]
      by_cases hl : 0 ≤ lgS p l k
      · rw [if_pos (by rw [decide_eq_true_eq]; exact hl)]
        exact .inr ⟨_, rfl, .inr ⟨k, h1, hk, h3, hl, rfl⟩⟩
      · rw [if_neg (by rw [decide_eq_true_eq]; exact hl), wrap_i64 (by omega) (by omega)]
        refine .inl ⟨_, rfl, ⟨k + 1, rfl, by omega, by omega, fun j q1 q2 => ?_⟩, by show ((l.length : Int) + 1 - ((k : Int) + 1)).toNat < ((l.length : Int) + 1 - (k : Int)).toNat; omega⟩
        rcases Nat.eq_or_lt_of_le (show j ≤ k by omega) with e | e
        · rw [e]; omega
        · exact h3 j q1 e
    · rw [if_neg (by rw [decide_eq_true_eq]; omega)]
      exact .inr ⟨_, rfl, .inl ⟨fun j q1 q2 => h3 j q1 (by omega), rfl⟩⟩
  · rintro e (⟨h, rfl⟩ | ⟨k, h1, h2, h3, h4, rfl⟩)
    · exact ⟨_, rfl, .inr ⟨h, rfl⟩⟩
    · exact ⟨_, rfl, .inl ⟨k, h1, h2, h3, h4, rfl⟩⟩
theorem d35_ok (p : List Inst) (l : List Int) (hl : p.length ≤ 9223372036854775807) : ∃ b, D.f35F (p, l) = some b ∧ (b = false → p.length ≤ 100 ∧ l.length ≤ 30) := by
  unfold D.f35F
  dsimp only
  obtain ⟨g, hg⟩ := s15_some p hl
  rw [hg]
  simp only [Option.bind_some]
  cases g with
  | true => exact ⟨_, rfl, fun h => by cases h⟩
  | false =>
    rw [if_neg (by decide)]
    by_cases h1 : (p.length : Int) > 100
    · rw [if_pos (by rw [decide_eq_true_eq]; exact h1)]
      exact ⟨_, rfl, fun h => by cases h⟩
    · rw [if_neg (by rw [decide_eq_true_eq]; exact h1)]
      refine ⟨_, rfl, fun h => ?_⟩
      rw [decide_eq_false_iff_not] at h
      omega
theorem d40_self (a : List (Int × Int)) (hl : a.length ≤ 9223372036854775807) : D.f40F (a, a) = some true := by
  unfold D.f40F
  dsimp only
  rw [if_neg (by simp)]
  rw [all_ok a.length hl (fun i hi => ?_) ?_]
  · rfl
  · rw [if_neg (by rw [decide_eq_true_eq]; omega)]
  · rw [if_pos (by rw [decide_eq_true_eq]; omega), if_pos (by omega), if_pos (by omega), pair_same, if_neg (by decide)]
theorem AllI.len {p : List Inst} {l : List Int} {a : Nat} {r : List (Int × Int)} (h : AllI p l a r) (ha : a ≤ l.length + 1) : r.length ≤ l.length + 1 - a := by
  induction h with
  | nil _ => simp
  | @cons a k r h1 h2 h3 h4 h5 ih =>
    have hin := (lgS_in p l k).resolve_left (by omega)
    have := ih (by omega)
    rw [List.length_cons]
    omega
theorem scanCaches_core (p : List Inst) (l : List Int) (two : List Int) (hl : p.length ≤ 9223372036854775807) (hr : ranged p) (h2 : ∀ i, ∃ n : Nat, two.getD i 0 = (n : Int) ∧ n ≤ 65535) : D.f11F (p, l, two) = some true := by
  unfold D.f11F
  rw [d34_alive]
  simp only [Option.bind_some, Bool.not_true, Bool.false_eq_true, if_false]
  obtain ⟨g, hg, hg2⟩ := d35_ok p l hl
  rw [hg]
  simp only [Option.bind_some]
  cases g with
  | true => rfl
  | false =>
  obtain ⟨hp100, hll⟩ := hg2 rfl
  rw [if_neg (by decide), s26_any]
  simp only [Option.bind_some]
  cases hp : rightS p with
  | false => rfl
  | true =>
  rw [if_neg (by decide), if_pos (by decide)]
  obtain ⟨n0, e0, r0⟩ := h2 0
  obtain ⟨n1, e1, r1⟩ := h2 1
  have e0' : List.getD two (nat_lit 0) (0 : Int) = (n0 : Int) := e0
  have e1' : List.getD two (nat_lit 1) (0 : Int) = (n1 : Int) := e1
  have hm : ∀ n : Nat, n ≤ 65535 → ∃ c : Int, IntKind.i64.wrap (2 + Int.tmod (IntKind.i64.wrap (n : Int)) 999) = c ∧ 2 ≤ c ∧ c ≤ 1000 := by
    intro n hn
    rw [wrap_i64 (x := (n : Int)) (by omega) (by omega), Int.tmod_eq_emod_of_nonneg (by omega), wrap_i64 (by omega) (by omega)]
    exact ⟨_, rfl, by omega, by omega⟩
  obtain ⟨c0, hc0, hc0'⟩ := hm n0 r0
  obtain ⟨c1, hc1, hc1'⟩ := hm n1 r1
  rw [e0', e1', hc0, hc1, d36_eq hp hr hc0' hll]
  simp only [Option.bind_some]
  rw [if_pos (by decide), d36_eq hp hr hc1' hll]
  simp only [Option.bind_some]
  have hA := allS_ok p l (l.length + 1) 0 (by omega)
  have hAl := hA.len (by omega)
  generalize (allS p l (l.length + 1) 0).1 = A at *
  rw [if_neg (by decide), if_neg (by decide), if_neg (by simp), d40_self A (by omega)]
  simp only [Option.bind_some, Bool.not_true]
  rw [if_neg (by decide)]
  refine ex_to ?_
  refine bind_ex (Q := fun e : Int ⊕ Bool => ∃ a : Nat, e = .inl (a : Int) ∧ a ≤ l.length + 1 ∧ AllI p l a []) (iter_rule (I := fun s : Int × Int => ∃ a i : Nat, s = ((a : Int), (i : Int)) ∧ a ≤ l.length + 1 ∧ i ≤ A.length ∧ AllI p l a (A.drop i)) (fun s => ((A.length : Int) - s.2).toNat) ?_ _ ⟨0, 0, rfl, by omega, Nat.zero_le _, hA⟩) ?_
  · rintro _ ⟨a, i, rfl, ha, hi, hd⟩
    dsimp only
    by_cases hil : i < A.length
    · rw [List.drop_eq_getElem_cons hil] at hd
      rw [if_pos (by rw [decide_eq_true_eq]; omega), Int.toNat_natCast]
      obtain ⟨x, hx, fx⟩ := d38_ok hp hr (by omega : l.length ≤ 10000) a ha
      rw [hx]
      simp only [Option.bind_some]
      rw [if_pos (by omega), getD_lt A _ hil]
      generalize hAi : A[i] = y at *
      cases hd with
      | @cons _ k r x1 x2 x3 x4 x5 =>
        rcases fx with ⟨k2, y1, y2, y3, y4, rfl⟩ | ⟨y1, rfl⟩
        rotate_left
        · have := y1 k x1 x2
          omega
        have hk : k2 = k := by
          rcases Nat.lt_trichotomy k2 k with h | h | h
          · have := x3 k2 y1 h; omega
          · exact h
          · have := y3 k x1 h; omega
        subst hk
        dsimp only
        rw [s22_eq (by omega) hr l (by omega) k2]
        simp only [Option.bind_some, Bool.not_true, Bool.false_eq_true, if_false]
        have hlg : lastOr (-1) (runS p l k2).1 = lgS p l k2 := rfl
        rw [hlg, if_pos (by omega), pair_same, if_neg (by decide), if_pos (by omega)]
        simp only [Option.bind_some]
        rw [if_neg (by simp), if_pos (by omega), if_pos (by omega), wrap_i64 (x := (k2 : Int) + 1) (by omega) (by omega), wrap_i64 (x := (i : Int) + 1) (by omega) (by omega), maxI_eq]
        have hin := (lgS_in p l k2).resolve_left (by omega)
        refine .inl ⟨_, rfl, ⟨(max (lgS p l k2) ((k2 : Int) + 1)).toNat, i + 1, ?_, by omega, hil, x5⟩, by show ((A.length : Int) - ((i : Int) + 1)).toNat < ((A.length : Int) - (i : Int)).toNat; omega⟩
        rw [Int.toNat_of_nonneg (by omega)]
        rfl
    · rw [if_neg (by rw [decide_eq_true_eq]; omega)]
      rw [List.drop_of_length_le (by omega)] at hd
      exact .inr ⟨_, rfl, a, rfl, ha, hd⟩
  · rintro _ ⟨a, rfl, ha, hd⟩
    refine ⟨_, ?_, rfl⟩
    show Option.bind (D.f38F (p, l, (a : Int))) _ = some true
    obtain ⟨x, hx, fx⟩ := d38_ok hp hr (by omega : l.length ≤ 10000) a ha
    rw [hx]
    cases hd with
    | nil hn =>
      rcases fx with ⟨k2, y1, y2, y3, y4, rfl⟩ | ⟨y1, rfl⟩
      · have := hn k2 y1 y2; omega
      · rfl
theorem scanCaches_pure (x : List Inst × List Int × List Int) (h : wfTup [.sl (.st (.pair (.int .i64) (.pair (.sl (.st (.pair (.int .i64) (.int .i64)))) (.pair (.int .i64) (.int .i64))))), .sl (.int .i64), .arr 2 (.int .u16)] x) : D.f11F x = some true := by
  obtain ⟨p, l, two⟩ := x
  refine scanCaches_core p l two h.1.1 (ranged_of h.1.2) fun i => ?_
  by_cases hi : i < two.length
  · have := h.2.2.2 (two.getD i 0) (by rw [getD_lt _ _ hi]; exact List.getElem_mem hi)
    obtain ⟨g1, g2⟩ := this
    have e1 : IntKind.min .u16 = 0 := by decide
    have e2 : IntKind.max .u16 = 65535 := by decide
    rw [e1] at g1
    rw [e2] at g2
    have g1' : (0 : Int) ≤ two.getD i 0 := g1
    have g2' : two.getD i 0 ≤ (65535 : Int) := g2
    exact ⟨(two.getD i 0).toNat, by omega, by omega⟩
  · rw [List.getD_eq_getElem?_getD, List.getElem?_eq_none (by omega)]
    exact ⟨0, rfl, by omega⟩
end Go.Sx
