/- Scan: 'First', 'Cover', and the laws ScanCaches, ScanCovers, ScanFirsts. -/
import Derived.Test.YtjmmbgjdfmceeaaSxDj
set_option linter.unusedVariables false
set_option linter.unusedSimpArgs false
namespace Go.Sx
def FirstI (p : List Inst) (l : List Int) (a : Nat) (r : (Int × Int) × Bool) : Prop :=
  (∃ k : Nat, a ≤ k ∧ k ≤ l.length ∧ (∀ j : Nat, a ≤ j → j < k → lgS p l j < 0) ∧ 0 ≤ lgS p l k ∧ r = (((k : Int), lgS p l k), true)) ∨
  ((∀ j : Nat, a ≤ j → j ≤ l.length → lgS p l j < 0) ∧ r = ((0, 0), false))
theorem d38_no {p : List Inst} {l : List Int} {k : Int} (h : rightS p = false ∨ k < 0) : D.f38F (p, l, k) = some ((0, 0), false) := by
  unfold D.f38F
  dsimp only
  by_cases hk : k < 0
  · rw [if_pos (by rw [decide_eq_true_eq]; exact hk)]
    rfl
  · rw [if_neg (by rw [decide_eq_true_eq]; exact hk), s42_any, h.resolve_right hk]
    rfl
theorem d38_ok {p : List Inst} (hp : rightS p = true) (hr : ranged p) {l : List Int} (hll : l.length ≤ 10000) (a : Nat) (ha : a ≤ l.length + 1) : ∃ r, D.f38F (p, l, (a : Int)) = some r ∧ FirstI p l a r := by
  obtain ⟨_, _, hp1000⟩ := rightS_last hp
  unfold D.f38F
  dsimp only
  rw [if_neg (by rw [decide_eq_true_eq]; omega), s42_any, hp]
  simp only [Option.bind_some, Bool.not_true, Bool.false_eq_true, if_false]
  refine bind_ex (Q := fun e : (Int × Int) ⊕ (Bool × Int × Int) => ((∀ j : Nat, a ≤ j → j ≤ l.length → lgS p l j < 0) ∧ e = .inl (0, 0)) ∨ ∃ k : Nat, a ≤ k ∧ k ≤ l.length ∧ (∀ j : Nat, a ≤ j → j < k → lgS p l j < 0) ∧ 0 ≤ lgS p l k ∧ e = .inr (true, (k : Int), lgS p l k))
    (iter_rule (I := fun s : Int × Int × Int => ∃ k : Nat, s = ((k : Int), 0, 0) ∧ a ≤ k ∧ k ≤ l.length + 1 ∧ ∀ j : Nat, a ≤ j → j < k → lgS p l j < 0) (fun s => ((l.length : Int) + 1 - s.1).toNat) ?_ _ ⟨a, rfl, Nat.le_refl _, ha, fun j h1 h2 => by omega⟩) ?_
  · rintro _ ⟨k, rfl, h1, h2, h3⟩
    dsimp only
    by_cases hk : k ≤ l.length
    · rw [if_pos (by rw [decide_eq_true_eq]; omega), s21_eq (by omega) hr l hll k]
      simp only [Option.bind_some]
      have hlg : lastOr (-1) (runS p l k).1 = lgS p l k := rfl
      rw [hlg]
      by_cases hl : 0 ≤ lgS p l k
      · rw [if_pos (by rw [decide_eq_true_eq]; exact hl)]
        exact .inr ⟨_, rfl, .inr ⟨k, h1, hk, h3, hl, rfl⟩⟩
      · rw [if_neg (by rw [decide_eq_true_eq]; exact hl), wrap_i64 (by omega) (by omega)]
        refine .inl ⟨_, rfl, ⟨k + 1, rfl, by omega, by omega, fun j q1 q2 => ?_⟩, by show ((l.length : Int) + 1 - ((k : Int) + 1)).toNat < ((l.length : Int) + 1 - (k : Int)).toNat; omega⟩
        rcases Nat.eq_or_lt_of_le (show j ≤ k by omega) with e | e
        · rw [e]; omega
        · exact h3 j q1 e
    · rw [if_neg (by rw [decide_eq_true_eq]; omega)]
      exact .inr ⟨_, rfl, .inl ⟨fun j q1 q2 => h3 j q1 (by omega), rfl⟩⟩
  · rintro e (⟨h, rfl⟩ | ⟨k, h1, h2, h3, h4, rfl⟩)
    · exact ⟨_, rfl, .inr ⟨h, rfl⟩⟩
    · exact ⟨_, rfl, .inl ⟨k, h1, h2, h3, h4, rfl⟩⟩
theorem d35_ok (p : List Inst) (l : List Int) (hl : p.length ≤ 9223372036854775807) : ∃ b, D.f35F (p, l) = some b ∧ (b = false → p.length ≤ 100 ∧ l.length ≤ 30) := by
  unfold D.f35F
  dsimp only
  obtain ⟨g, hg⟩ := s15_some p hl
  rw [hg]
  simp only [Option.bind_some]
  cases g with
  | true => exact ⟨_, rfl, fun h => by cases h⟩
  | false =>
    rw [if_neg (by decide)]
    by_cases h1 : (p.length : Int) > 100
    · rw [if_pos (by rw [decide_eq_true_eq]; exact h1)]
      exact ⟨_, rfl, fun h => by cases h⟩
    · rw [if_neg (by rw [decide_eq_true_eq]; exact h1)]
      refine ⟨_, rfl, fun h => ?_⟩
      rw [decide_eq_false_iff_not] at h
      omega
theorem minI_eq (a b : Int) : minI a b = min a b := by
  unfold minI
  split <;> omega
theorem scanFirsts_core (p : List Inst) (l : List Int) (two : List Int) (hl : p.length ≤ 9223372036854775807) (hr : ranged p) (h2 : ∀ i, ∃ n : Nat, two.getD i 0 = (n : Int) ∧ n ≤ 255) : D.f13F (p, l, two) = some true := by
  unfold D.f13F
  rw [d34_alive]
  simp only [Option.bind_some, Bool.not_true, Bool.false_eq_true, if_false]
  obtain ⟨g, hg, hg2⟩ := d35_ok p l hl
  rw [hg]
  simp only [Option.bind_some]
  cases g with
  | true => rw [if_pos (by rfl)]
  | false =>
  obtain ⟨hp100, hll⟩ := hg2 rfl
  rw [if_neg (by decide), if_pos (by decide), wrap_i64 (x := (l.length : Int) + 1) (by omega) (by omega), if_neg (by omega), if_pos (by decide), if_neg (by omega)]
  obtain ⟨n0, e0, r0⟩ := h2 0
  obtain ⟨n1, e1, r1⟩ := h2 1
  have e0' : List.getD two (nat_lit 0) (0 : Int) = (n0 : Int) := e0
  have e1' : List.getD two (nat_lit 1) (0 : Int) = (n1 : Int) := e1
  have hm : ∀ n : Nat, n ≤ 255 → Int.tmod (IntKind.i64.wrap (n : Int)) ((l.length : Int) + 1) = ((n % (l.length + 1) : Nat) : Int) := by
    intro n hn
    rw [wrap_i64 (by omega) (by omega), Int.tmod_eq_emod_of_nonneg (by omega), Int.natCast_emod]
    rfl
  rw [e0', e1', hm n0 r0, hm n1 r1]
  have q0 : n0 % (l.length + 1) < l.length + 1 := Nat.mod_lt _ (by omega)
  have q1 : n1 % (l.length + 1) < l.length + 1 := Nat.mod_lt _ (by omega)
  generalize n0 % (l.length + 1) = a at *
  generalize n1 % (l.length + 1) = b at *
  rw [minI_eq, maxI_eq]
  have ea : min (a : Int) (b : Int) = ((min a b : Nat) : Int) := by omega
  have eb : max (a : Int) (b : Int) = ((max a b : Nat) : Int) := by omega
  rw [ea, eb]
  have hmM : min a b ≤ max a b := by omega
  have hM : max a b ≤ l.length := by omega
  generalize min a b = m at *
  generalize max a b = M at *
  have hno : D.f38F (p, l, -1) = some ((0, 0), false) := d38_no (.inr (by omega))
  cases hp : rightS p with
  | false =>
    simp only [d38_no (.inl hp), Option.bind_some, Bool.false_eq_true, if_false, Bool.not_false, if_true]
  | true =>
  obtain ⟨x, hx, fx⟩ := d38_ok hp hr (by omega : l.length ≤ 10000) m (by omega)
  obtain ⟨y, hy, fy⟩ := d38_ok hp hr (by omega : l.length ≤ 10000) M (by omega)
  have hend : D.f38F (p, l, (l.length : Int) + 1) = some ((0, 0), false) := by
    obtain ⟨z, hz, fz⟩ := d38_ok hp hr (by omega : l.length ≤ 10000) (l.length + 1) (by omega)
    rcases fz with ⟨k, h1, h2, _⟩ | ⟨_, rfl⟩
    · omega
    · exact hz
  rw [hx, hy]
  simp only [Option.bind_some, hno, hend]
  rcases fx with ⟨k, x1, x2, x3, x4, rfl⟩ | ⟨x1, rfl⟩
  · have hin := (lgS_in p l k).resolve_left (by omega)
    have c1 : decide ((k : Int) < (m : Int)) = false := decide_eq_false (by omega)
    have c2 : decide ((k : Int) > lgS p l k) = false := decide_eq_false (by omega)
    have c3 : decide (lgS p l k > (l.length : Int)) = false := decide_eq_false (by omega)
    rcases fy with ⟨k2, y1, y2, y3, y4, rfl⟩ | ⟨y1, rfl⟩
    · have hk : k ≤ k2 := by
        rcases Nat.lt_or_ge k2 k with h | h
        · have := x3 k2 (by omega) h
          omega
        · exact h
      have c4 : decide ((k2 : Int) ≥ (M : Int)) = true := decide_eq_true (by omega)
      have c5 : decide ((k2 : Int) ≥ (k : Int)) = true := decide_eq_true (by omega)
      simp only [Bool.not_true, Bool.not_false, Bool.false_eq_true, if_false, if_true, c1, c2, c3, Option.bind_some, c4, c5]
      by_cases hkM : k < M
      · rw [if_pos (by rw [decide_eq_true_eq]; omega)]
      · rw [if_neg (by rw [decide_eq_true_eq]; omega)]
        have : k = k2 := by
          rcases Nat.lt_or_ge k k2 with h | h
          · have := y3 k (by omega) h
            omega
          · omega
        subst this
        have e1 : ∀ z : Int, Ty.eqb (Ty.int IntKind.i64) z z = true := fun z => by
          show (z == z) = true
          simp
        rw [e1, e1]
        rfl
    · simp only [Bool.not_true, Bool.not_false, Bool.false_eq_true, if_false, if_true, c1, c2, c3, Option.bind_some]
  · rcases fy with ⟨k2, y1, y2, y3, y4, rfl⟩ | ⟨y1, rfl⟩
    · have := x1 k2 (by omega) y2
      omega
    · simp only [Bool.not_true, Bool.not_false, Bool.false_eq_true, if_false, if_true, Option.bind_some]
theorem scanFirsts_pure (x : List Inst × List Int × List Int) (h : wfTup [.sl (.st (.pair (.int .i64) (.pair (.sl (.st (.pair (.int .i64) (.int .i64)))) (.pair (.int .i64) (.int .i64))))), .sl (.int .i64), .arr 2 (.int .u8)] x) : D.f13F x = some true := by
  obtain ⟨p, l, two⟩ := x
  refine scanFirsts_core p l two h.1.1 (ranged_of h.1.2) fun i => ?_
  by_cases hi : i < two.length
  · have := h.2.2.2 (two.getD i 0) (by rw [getD_lt _ _ hi]; exact List.getElem_mem hi)
    obtain ⟨g1, g2⟩ := this
    have e1 : IntKind.min .u8 = 0 := by decide
    have e2 : IntKind.max .u8 = 255 := by decide
    rw [e1] at g1
    rw [e2] at g2
    have g1' : (0 : Int) ≤ two.getD i 0 := g1
    have g2' : two.getD i 0 ≤ (255 : Int) := g2
    exact ⟨(two.getD i 0).toNat, by omega, by omega⟩
  · rw [List.getD_eq_getElem?_getD, List.getElem?_eq_none (by omega)]
    exact ⟨0, rfl, by omega⟩
end Go.Sx
