/- Brackets, plain: the law BrackPairs. -/
import Derived.Test.YtemngcdlgnconaaSxBA
set_option linter.unusedVariables false
set_option linter.unusedSimpArgs false
namespace Go.Sx

theorem otS_open {x : Int} (h : (otS x).2.1 = true) : ∃ p ∈ K.brk, p.1 = x ∧ (otS x).1 = p.2 := by
  unfold otS at h ⊢
  cases h1 : K.brk.find? (fun p => p.1 == x) with
  | some p => exact ⟨p, List.mem_of_find?_eq_some h1, by have := List.find?_some h1; simpa using this, rfl⟩
  | none =>
    rw [h1] at h
    cases h2 : K.brk.find? (fun p => p.2 == x) with
    | some p => rw [h2] at h; cases h
    | none => rw [h2] at h; cases h

theorem otS_shut {x : Int} (h : (otS x).2.2 = true) (h' : (otS x).2.1 = false) : ∃ p ∈ K.brk, p.2 = x ∧ (otS x).1 = p.1 := by
  unfold otS at h h' ⊢
  cases h1 : K.brk.find? (fun p => p.1 == x) with
  | some p => rw [h1] at h'; cases h'
  | none =>
    rw [h1] at h
    cases h2 : K.brk.find? (fun p => p.2 == x) with
    | some p => exact ⟨p, List.mem_of_find?_eq_some h2, by have := List.find?_some h2; simpa using this, rfl⟩
    | none => rw [h2] at h; cases h

theorem smS_all : ∀ p ∈ K.brk, ∀ q ∈ K.brk, smS p.1 q.1 = true → smS p.2 q.2 = true := by decide +kernel

theorem smS_swap {x y : Int} (h1 : (otS x).2.1 = true) (h2 : (otS y).2.2 = true) (h3 : (otS y).2.1 = false) (h : smS x (otS y).1 = true) : smS (otS x).1 y = true := by
  obtain ⟨p, hp, rfl, e1⟩ := otS_open h1
  obtain ⟨q, hq, rfl, e2⟩ := otS_shut h2 h3
  rw [e2] at h
  rw [e1]
  exact smS_all p hp q hq h

theorem pairwise_or {A : Type} {R : A → A → Prop} : ∀ {l : List A}, l.Pairwise R → ∀ p ∈ l, ∀ q ∈ l, p ≠ q → R p q ∨ R q p
  | [], _, p, hp, _, _, _ => by simp at hp
  | x :: l, h, p, hp, q, hq, hne => by
    rw [List.pairwise_cons] at h
    rcases List.mem_cons.1 hp with hp1 | hp1
    · rcases List.mem_cons.1 hq with hq1 | hq1
      · exact absurd (hp1.trans hq1.symm) hne
      · rw [hp1]; exact .inl (h.1 q hq1)
    · rcases List.mem_cons.1 hq with hq1 | hq1
      · rw [hq1]; exact .inr (h.1 p hp1)
      · exact pairwise_or h.2 p hp1 q hq1 hne

/-- All that is said of pairs. -/
theorem prS_facts {ch cl : List Int} (hl : ch.length ≤ 1000) {i : Nat} (hi : i < (prS ch cl).length) : ch.length = cl.length ∧ ∃ a b : Nat, (prS ch cl).getD i kd = [(a : Int), (b : Int)] ∧ a < b ∧ b < ch.length ∧
    cl.getD a 0 = 13 ∧ cl.getD b 0 = 13 ∧ (otS (ch.getD a 0)).2.2 = true ∧ (otS (ch.getD a 0)).2.1 = true ∧ smS (otS (ch.getD a 0)).1 (ch.getD b 0) = true ∧
    ∀ k, k < i → ∃ c d : Nat, (prS ch cl).getD k kd = [(c : Int), (d : Int)] ∧ c < a ∧ (d < a ∨ b < d) := by
  have hget : ∀ k, k < (prS ch cl).length → ch.length = cl.length ∧ ∃ a b : Nat, (a, b) ∈ pW ch cl ch.length 0 [] ∧ (prS ch cl).getD k kd = [(a : Int), (b : Int)] ∧ a < b ∧ b < ch.length := by
    intro k hk
    rw [getD_lt _ _ hk]
    exact prS_mem hl (List.getElem_mem hk)
  obtain ⟨hlen, a, b, hab, e, h1, h2⟩ := hget i hi
  refine ⟨hlen, a, b, e, h1, h2, ?_⟩
  obtain ⟨⟨f1, f2, f3⟩, f4, f5, f6, f7⟩ := pW_brk ch cl ch.length 0 [] (by simp) _ hab
  refine ⟨f3, f6, f1, f2, smS_swap f2 f4 f5 f7, fun k hk => ?_⟩
  obtain ⟨_, c, d, hcd, e2, g1, g2⟩ := hget k (by omega)
  have hasc := (prS_put ch cl hl hlen).2.1
  have hlt : c < a := by
    have := List.pairwise_iff_getElem.1 hasc k i (by omega) hi hk
    rw [← getD_lt _ kd, ← getD_lt _ kd, e, e2] at this
    have h' : (c : Int) < (a : Int) := this
    omega
  refine ⟨c, d, e2, hlt, ?_⟩
  rcases pairwise_or (pW_rel ch cl ch.length 0 [] List.Pairwise.nil (by simp)) (a, b) hab (c, d) hcd (fun h => by cases h; omega) with ⟨r1, r2⟩ | ⟨r1, r2⟩
  · right; exact r1
  · left
    simp only at r2
    omega

theorem brackPairs_pure (x : List Int × List Int) (h : wfTup [.sl (.int .i64), .sl (.int .i64)] x) : K.f12F x = some true := by
  obtain ⟨ch, cl⟩ := x
  unfold K.f12F
  rw [kAlive]
  simp only [Option.bind_some, Bool.not_true, Bool.false_eq_true, if_false]
  by_cases h1 : ch.length > 300
  · rw [if_pos (by rw [decide_eq_true_eq]; omega)]; rfl
  rw [if_neg (by rw [decide_eq_true_eq]; omega)]
  simp only [Option.bind_some]
  by_cases h2 : cl.length > 300
  · rw [if_pos (by rw [decide_eq_true_eq]; omega)]
  rw [if_neg (by rw [decide_eq_true_eq]; omega), k35_pr _ _ (by omega)]
  simp only [Option.bind_some]
  have hpl := prS_length ch cl (by omega)
  have hfacts := fun i hi => prS_facts (ch := ch) (cl := cl) (by omega) (i := i) hi
  generalize prS ch cl = P at *
  suffices hh : ∃ r, Option.bind _ _ = some r ∧ r = true by
    obtain ⟨r, g1, rfl⟩ := hh; exact g1
  refine bind_ex (Q := fun e => e = Sum.inl ()) (iter_rule (I := fun (s : Int) => ∃ i : Nat, i ≤ P.length ∧ s = (i : Int)) (fun s => ((P.length : Int) - s).toNat) ?_ _ ⟨0, Nat.zero_le _, rfl⟩) ?_
  rotate_left
  · rintro _ rfl; exact ⟨_, rfl, rfl⟩
  rintro _ ⟨i, hi, rfl⟩
  by_cases hil : i < P.length
  rotate_left
  · rw [if_neg (by rw [decide_eq_true_eq]; omega)]
    exact .inr ⟨_, rfl, rfl⟩
  obtain ⟨hlen, a, b, e, hab, hb, c1, c2, c3, c4, c5, c6⟩ := hfacts i hil
  have hib : (0 : Int) ≤ (i : Int) ∧ (i : Int) < (P.length : Int) := by omega
  have e' : List.getD P i (List.replicate (2 : Nat) (0 : Int)) = [(a : Int), (b : Int)] := e
  have g0 : List.getD [(a : Int), (b : Int)] (Int.toNat (0 : Int)) (0 : Int) = (a : Int) := rfl
  have g1 : List.getD [(a : Int), (b : Int)] (Int.toNat (1 : Int)) (0 : Int) = (b : Int) := rfl
  simp only [Int.toNat_natCast, e', g0, g1]
  rw [if_pos (by rw [decide_eq_true_eq]; omega), if_pos hib, if_pos (by decide), if_pos hib, if_pos (by decide), if_neg (by rw [decide_eq_true_eq]; omega), if_neg (by rw [decide_eq_true_eq]; omega), if_neg (by rw [decide_eq_true_eq]; omega), if_neg (by rw [decide_eq_true_eq]; omega), if_pos (by omega), c1, if_neg (by decide), if_pos (by omega), c2]
  simp only [Option.bind_some]
  rw [if_neg (by decide), if_pos (by omega), k41_ot]
  simp only [Option.bind_some, c3, c4, Bool.not_true, Bool.false_eq_true, if_false]
  rw [if_pos (by omega), k42_eq, c5]
  simp only [Option.bind_some, Bool.not_true, Bool.false_eq_true, if_false]
  refine stp_bind (R := fun e => e = Sum.inl ()) (iter_rule (I := fun (s : Int) => ∃ k : Nat, k ≤ i ∧ s = (k : Int)) (fun s => ((i : Int) - s).toNat) ?_ _ ⟨0, Nat.zero_le _, rfl⟩) ?_
  rotate_left
  · rintro _ rfl
    rw [wrap_i64 (by omega) (by omega)]
    exact .inl ⟨_, rfl, ⟨i + 1, hil, rfl⟩, by omega⟩
  rintro _ ⟨k, hk, rfl⟩
  by_cases hki : k < i
  rotate_left
  · rw [if_neg (by rw [decide_eq_true_eq]; omega)]
    exact .inr ⟨_, rfl, rfl⟩
  obtain ⟨c, d, e2, hca, hd⟩ := c6 k hki
  have hkb : (0 : Int) ≤ (k : Int) ∧ (k : Int) < (P.length : Int) := by omega
  have e2' : List.getD P k (List.replicate (2 : Nat) (0 : Int)) = [(c : Int), (d : Int)] := e2
  have g2 : List.getD [(c : Int), (d : Int)] (Int.toNat (0 : Int)) (0 : Int) = (c : Int) := rfl
  have g3 : List.getD [(c : Int), (d : Int)] (Int.toNat (1 : Int)) (0 : Int) = (d : Int) := rfl
  have hz : (0 : Int) ≤ (0 : Int) ∧ (0 : Int) < ((2 : Nat) : Int) := by decide
  have ho : (0 : Int) ≤ (1 : Int) ∧ (1 : Int) < ((2 : Nat) : Int) := by decide
  have n1 : decide ((c : Int) ≥ (a : Int)) = false := by rw [decide_eq_false_iff_not]; omega
  have n3 : ((d : Int) == (a : Int)) = false := by simp; omega
  have n4 : ((d : Int) == (b : Int)) = false := by simp; omega
  simp only [Int.toNat_natCast, e2', g2, g3, if_pos hkb, if_pos hz, if_pos ho, n1, n3, n4, Bool.false_eq_true, if_false]
  rw [if_pos (by rw [decide_eq_true_eq]; omega), wrap_i64 (by omega) (by omega)]
  refine .inl ⟨((k + 1 : Nat) : Int), ?_, ⟨k + 1, hki, rfl⟩, by omega⟩
  by_cases hda : (d : Int) > (a : Int)
  · rw [if_pos (by rw [decide_eq_true_eq]; exact hda), if_neg (by rw [decide_eq_true_eq]; omega)]
    rfl
  · rw [if_neg (by rw [decide_eq_true_eq]; exact hda)]
    rfl
end Go.Sx
