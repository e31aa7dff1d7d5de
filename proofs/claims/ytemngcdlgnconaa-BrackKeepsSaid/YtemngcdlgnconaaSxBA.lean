/- Brackets, plain: the laws BrackAnswers, BrackTurns, BrackSides. -/
import Derived.Test.YtemngcdlgnconaaSxB9
import Derived.Test.YtemngcdlgnconaaSxR
set_option linter.unusedVariables false
set_option linter.unusedSimpArgs false
namespace Go.Sx

/-- 'Ints'. -/
theorem k24_eq (a b : List Int) (hl : a.length ≤ 9223372036854775807) : K.f24F (a, b) = some (decide (a = b)) := by
  unfold K.f24F
  by_cases hab : a.length = b.length
  · rw [if_neg (by simp [hab])]
    suffices h : ∃ r, Option.bind (iter (fun s1 : Int => if decide (s1 < (a.length : Int)) = true then (if (0 : Int) ≤ s1 ∧ s1 < (a.length : Int) then (if (0 : Int) ≤ s1 ∧ s1 < (b.length : Int) then (if (a.getD s1.toNat 0 != b.getD s1.toNat 0) = true then some (Sum.inr (Sum.inr false)) else some (Sum.inl (IntKind.i64.wrap (s1 + 1)))) else none) else none) else some (Sum.inr (Sum.inl ()))) (0 : Int))
        (fun (v1 : Unit ⊕ Bool) => Sum.elim (fun _ => some true) (fun q => some q) v1) = some r ∧ r = decide (a = b) by
      obtain ⟨r, h1, rfl⟩ := h
      exact h1
    refine bind_ex (iter_rule (I := fun (s : Int) => ∃ i : Nat, s = (i : Int) ∧ i ≤ a.length ∧ a.take i = b.take i) (Q := fun e => Sum.elim (fun _ => true) (fun q => q) e = decide (a = b))
      (fun (s : Int) => ((a.length : Int) - s).toNat) ?_ _ ?_) ?_
    · rintro _ ⟨i, rfl, hi, ht⟩
      by_cases h : i < a.length
      · have hb : i < b.length := by omega
        rw [if_pos (by simp; omega), if_pos (by omega), if_pos (by omega)]
        simp only [Int.toNat_natCast]
        have ea : a.getD i 0 = a[i] := by simp [List.getD_eq_getElem?_getD, h]
        have eb : b.getD i 0 = b[i] := by simp [List.getD_eq_getElem?_getD, hb]
        simp only [ea, eb]
        by_cases he : a[i] = b[i]
        · rw [if_neg (by simp [he]), wrap_i64 (by omega) (by omega)]
          refine .inl ⟨_, rfl, ⟨i + 1, by omega, by omega, ?_⟩, by omega⟩
          rw [List.take_succ_eq_append_getElem h, List.take_succ_eq_append_getElem hb, ht, he]
        · rw [if_pos (by simpa using he)]
          refine .inr ⟨_, rfl, ?_⟩
          simp only [Sum.elim_inr]
          symm
          rw [decide_eq_false_iff_not]
          intro e
          subst e
          exact he rfl
      · rw [if_neg (by simp; omega)]
        refine .inr ⟨_, rfl, ?_⟩
        simp only [Sum.elim_inl]
        symm
        rw [decide_eq_true_eq]
        rw [List.take_of_length_le (by omega), List.take_of_length_le (by omega)] at ht
        exact ht
    · exact ⟨0, rfl, Nat.zero_le _, rfl⟩
    · intro e he
      cases e with
      | inl u => exact ⟨_, rfl, he⟩
      | inr q => exact ⟨_, rfl, he⟩
  · rw [if_pos (by simp; omega)]
    congr 1
    symm
    rw [decide_eq_false_iff_not]
    intro e
    subst e
    exact hab rfl

def chA : List Int := [97, 40, 98, 41, 91, 1488, 93]
def clA : List Int := [0, 13, 0, 13, 13, 1, 13]

theorem prA : prS chA clA = [[1, 3], [4, 6]] := (prS_put chA clA (by decide) rfl).1.trans (by decide)
theorem ofA : ofS chA clA clA 1 1 = [0, 0, 0, 0, 1, 1, 1] := by
  unfold ofS
  rw [if_pos (by decide), prA]
  decide

theorem kAlive : K.f31F () = some true := by
  unfold K.f31F
  have h1 := k35_pr chA clA (by decide)
  have h2 := k39_ok chA clA clA 1 1 (by decide)
  have h3 := k32_ok (l := clA) (by decide) 1 4
  rw [prA] at h1
  rw [ofA] at h2
  unfold chA clA at h1 h2
  unfold clA at h3
  rw [h1]
  simp only [Option.bind_some]
  rw [h2]
  simp only [Option.bind_some]
  rw [h3]
  simp only [Option.bind_some]
  rw [k24_eq _ _ (by decide), k37_eq, k37_eq]
  decide

theorem brackAnswers_pure (x : List Int × List Int × List Int) (h : wfTup [.sl (.int .i64), .sl (.int .i64), .arr 3 (.int .i64)] x) : K.f10F x = some true := by
  obtain ⟨ch, cl, th⟩ := x
  unfold K.f10F
  rw [kAlive]
  simp only [Option.bind_some, Bool.not_true, Bool.false_eq_true, if_false]
  by_cases h1 : ch.length > 300
  · rw [if_pos (by rw [decide_eq_true_eq]; omega)]; rfl
  rw [if_neg (by rw [decide_eq_true_eq]; omega)]
  simp only [Option.bind_some]
  by_cases h2 : cl.length > 300
  · rw [if_pos (by rw [decide_eq_true_eq]; omega)]
  rw [if_neg (by rw [decide_eq_true_eq]; omega), if_pos (by decide), if_pos (by decide), k32_ok (by omega)]
  simp only [Option.bind_some]
  rw [k33_ok (by omega), k35_pr _ _ (by omega), k36_ok _ _ (by omega), if_pos (by decide), if_pos (by decide)]
  simp only [Option.bind_some]
  rw [k34_self _ (by have := prS_length ch cl (by omega); omega), k37_eq, k38_eq]
  simp only [Option.bind_some, if_true, beq_self_eq_true]
  rw [if_pos (by decide), if_pos (by decide)]

theorem brackTurns_pure (x : (List Int × List Int × List Int) × Int × Int) (h : wfTup [.st (.pair (.sl (.int .i64)) (.pair (.sl (.int .i64)) (.sl (.int .i64)))), .int .i64, .int .i64] x) : K.f11F x = some true := by
  obtain ⟨⟨ch, cl, fi⟩, lv, sos⟩ := x
  unfold K.f11F
  rw [kAlive]
  simp only [Option.bind_some, Bool.not_true, Bool.false_eq_true, if_false]
  by_cases h1 : ch.length > 200
  · rw [if_pos (by rw [decide_eq_true_eq]; omega)]; rfl
  rw [if_neg (by rw [decide_eq_true_eq]; omega)]
  by_cases h2 : cl.length > 200
  · rw [if_pos (by rw [decide_eq_true_eq]; omega)]; rfl
  rw [if_neg (by rw [decide_eq_true_eq]; omega)]
  simp only [Option.bind_some]
  by_cases h3 : fi.length > 200
  · rw [if_pos (by rw [decide_eq_true_eq]; omega)]
  rw [if_neg (by rw [decide_eq_true_eq]; omega), if_pos (by unfold roomOk; simp; omega)]
  simp only [List.nil_append]
  rw [k39_ok _ _ _ _ _ (by omega), k40_ok _ _ _ _ _ (by omega)]
  simp only [Option.bind_some]
  have hlen : (ofS ch cl fi lv sos).length = cl.length := by
    unfold ofS
    split
    · exact foldl_len _ (ofStep_len _ _ _) _ _
    · rfl
  rw [k24_eq _ _ (by omega), k24_eq _ _ (by omega)]
  simp

theorem hasS_split (v : Int) (l : List Int) {a k b : Nat} (h1 : a ≤ k) (h2 : k ≤ b) : hasS v l a b = (hasS v l a k || hasS v l k b) := by
  rw [Bool.eq_iff_iff, Bool.or_eq_true, hasS_iff, hasS_iff, hasS_iff]
  constructor
  · rintro ⟨j, g1, g2, g3⟩
    by_cases hj : j < k
    · exact .inl ⟨j, g1, hj, g3⟩
    · exact .inr ⟨j, by omega, g2, g3⟩
  · rintro (⟨j, g1, g2, g3⟩ | ⟨j, g1, g2, g3⟩)
    · exact ⟨j, g1, by omega, g3⟩
    · exact ⟨j, by omega, g2, g3⟩

theorem k32_nat {l : List Int} (hl : l.length ≤ 100000) {a b : Int} (A B : Nat) (ha : (loS a).toNat = A) (hb : (minI b (l.length : Int)).toNat = B) : K.f32F (l, a, b) = some (hasS 0 l A B, hasS 1 l A B) := by
  rw [k32_ok hl, ha, hb]

theorem brackSides_pure (x : List Int × List Int) (h : wfTup [.sl (.int .i64), .arr 2 (.int .u16)] x) : K.f14F x = some true := by
  obtain ⟨l, two⟩ := x
  unfold K.f14F
  rw [kAlive]
  simp only [Option.bind_some, Bool.not_true, Bool.false_eq_true, if_false]
  by_cases h1 : l.length > 300
  · rw [if_pos (by rw [decide_eq_true_eq]; omega)]
  have hr : ∀ i, ∃ n : Nat, two.getD i 0 = (n : Int) ∧ n ≤ 65535 := by
    intro i
    by_cases hi : i < two.length
    · have := h.2.2 (two.getD i 0) (by rw [getD_lt _ _ hi]; exact List.getElem_mem hi)
      obtain ⟨g1, g2⟩ := this
      have e1 : IntKind.min .u16 = 0 := by decide
      have e2 : IntKind.max .u16 = 65535 := by decide
      rw [e1] at g1
      rw [e2] at g2
      have g1' : (0 : Int) ≤ two.getD i 0 := g1
      have g2' : two.getD i 0 ≤ (65535 : Int) := g2
      exact ⟨(two.getD i 0).toNat, by omega, by omega⟩
    · rw [List.getD_eq_getElem?_getD, List.getElem?_eq_none (by omega)]
      exact ⟨0, rfl, by omega⟩
  obtain ⟨n0, e0, r0⟩ := hr 0
  obtain ⟨n1, e1, r1⟩ := hr 1
  have e0' : List.getD two (nat_lit 0) (0 : Int) = (n0 : Int) := e0
  have e1' : List.getD two (nat_lit 1) (0 : Int) = (n1 : Int) := e1
  have hm : ∀ n : Nat, n ≤ 65535 → Int.tmod (IntKind.i64.wrap (n : Int)) (IntKind.i64.wrap ((l.length : Int) + 1)) = ((n % (l.length + 1) : Nat) : Int) := by
    intro n hn
    rw [wrap_i64 (by omega) (by omega), wrap_i64 (by omega) (by omega), show (l.length : Int) + 1 = ((l.length + 1 : Nat) : Int) by omega, ← Int.ofNat_tmod]
  have hw : IntKind.i64.wrap ((l.length : Int) + 1) = (l.length : Int) + 1 := wrap_i64 (by omega) (by omega)
  rw [if_neg (by rw [decide_eq_true_eq]; omega), if_pos (by decide), if_neg (by rw [hw]; omega), if_pos (by decide), if_neg (by rw [hw]; omega), e0', e1', hm n0 r0, hm n1 r1]
  have b0 : n0 % (l.length + 1) < l.length + 1 := Nat.mod_lt _ (by omega)
  have b1 : n1 % (l.length + 1) < l.length + 1 := Nat.mod_lt _ (by omega)
  generalize n0 % (l.length + 1) = a at *
  generalize n1 % (l.length + 1) = b at *
  have hk : (if (b : Int) < (a : Int) then (b : Int) else (a : Int)) = ((min a b : Nat) : Int) := by split <;> omega
  rw [hk]
  have hkl : min a b ≤ l.length := by omega
  generalize min a b = k at *
  rw [k32_nat (by omega) 0 k (by rfl) (by unfold minI; split <;> omega), k32_nat (by omega) k l.length (by unfold loS; split <;> omega) (by unfold minI; split <;> omega), wrap_i64 (x := (l.length : Int) + 5) (by omega) (by omega), k32_nat (by omega) 0 l.length (by rfl) (by unfold minI; split <;> omega)]
  simp only [Option.bind_some]
  suffices hh : ∃ r, Option.bind _ _ = some r ∧ r = true by
    obtain ⟨r, g1, rfl⟩ := hh; exact g1
  refine bind_ex (Q := fun e => e = Sum.inl ()) (iter_rule (I := fun (s : Int) => ∃ i : Nat, i ≤ l.length ∧ s = (i : Int)) (fun s => ((l.length : Int) - s).toNat) ?_ _ ⟨0, Nat.zero_le _, rfl⟩) ?_
  · rintro _ ⟨i, hi, rfl⟩
    by_cases hil : i < l.length
    · rw [if_pos (by rw [decide_eq_true_eq]; omega), wrap_i64 (by omega) (by omega), k32_nat (by omega) i (i + 1) (by unfold loS; split <;> omega) (by unfold minI; split <;> omega)]
      simp only [Option.bind_some]
      rw [if_pos (by omega), Int.toNat_natCast, k37_eq]
      simp only [Option.bind_some]
      rw [hasS_succ 0 l (Nat.le_refl i), hasS_succ 1 l (Nat.le_refl i), hasS_nil 0 l (Nat.le_refl i), hasS_nil 1 l (Nat.le_refl i)]
      refine .inl ⟨((i + 1 : Nat) : Int), ?_, ⟨i + 1, hil, rfl⟩, by omega⟩
      rcases sideS_cases (l.getD i 0) with h | h | h <;> rw [h] <;> rfl
    · rw [if_neg (by rw [decide_eq_true_eq]; omega)]
      exact .inr ⟨_, rfl, rfl⟩
  · rintro _ rfl
    simp only [Sum.elim_inl]
    rw [hasS_split 0 l (Nat.zero_le k) hkl, hasS_split 1 l (Nat.zero_le k) hkl]
    cases hasS 0 l 0 k <;> cases hasS 1 l 0 k <;> cases hasS 0 l k l.length <;> cases hasS 1 l k l.length <;> exact ⟨_, rfl, rfl⟩
end Go.Sx
