/- Token, plain: items of a class, digits, numbers, repeats. -/
import Derived.Test.YtemngcdlgnconaaSxTKe
set_option linter.unusedVariables false
set_option linter.unusedSimpArgs false
namespace Go.Sx
section
variable {l : List Int} {i : Nat} {t : List TknT}
theorem charM_in {r : Int × Bool × Nat} (h : charM l i = .inl r) : i < r.2.2 ∧ r.2.2 ≤ l.length := by
  unfold charM at h
  cases hc : l[i]? with
  | none => rw [hc] at h; cases h
  | some c =>
    have hlt : i < l.length := (List.getElem?_eq_some_iff.1 hc).1
    rw [hc] at h
    dsimp only at h
    by_cases h9 : c = 92
    · rw [if_pos h9] at h
      cases hd : l[i + 1]? with
      | none => rw [hd] at h; cases h
      | some d =>
        have hlt : i + 1 < l.length := (List.getElem?_eq_some_iff.1 hd).1
        rw [hd] at h
        dsimp only at h
        split at h
        · cases h; exact ⟨by dsimp only; omega, by dsimp only; omega⟩
        · cases h
    · rw [if_neg h9] at h
      cases h
      exact ⟨by dsimp only; omega, by dsimp only; omega⟩
theorem singleM_in {r : TknT × Nat} (h : singleM l i = .inl r) : i < r.2 ∧ r.2 ≤ l.length ∧ r.1.2.2.2.2 = (i : Int) ∧ (r.1.1 = 1 ∨ r.1.1 = 12) ∧ r.1.2.2.1 = 0 ∧ r.1.2.2.2.1 = 0 := by
  unfold singleM at h
  cases hc : charM l i with
  | inr e => rw [hc] at h; cases h
  | inl q =>
    rw [hc] at h
    cases h
    refine ⟨(charM_in hc).1, (charM_in hc).2, rfl, ?_, rfl, rfl⟩
    dsimp only
    split
    · exact .inr rfl
    · exact .inl rfl
def goesOn (l : List Int) (k : Int) (j : Nat) : Prop := k ≠ 12 ∧ l[j]? = some 45 ∧ l[j + 1]? ≠ none ∧ l[j + 1]? ≠ some 93
instance (k : Int) (j : Nat) : Decidable (goesOn l k j) := by unfold goesOn; infer_instance
def itemM (l : List Int) (i : Nat) : (TknT × Nat) ⊕ (Nat × Int) :=
  match singleM l i with
  | .inr e => .inr e
  | .inl (t, j) => if goesOn l t.1 j then (match singleM l (j + 1) with
      | .inr e => .inr e
      | .inl (u, k) => if u.1 = 12 then .inr (j + 1, 7) else if u.2.1 < t.2.1 then .inr (i, 7) else .inl ((9, 0, t.2.1, u.2.1, (i : Int)), k))
    else .inl (t, j)
theorem z71_eq (hl : l.length ≤ 1000) (hi : i ≤ l.length) : Z.f71F (l, (i : Int), t) = some (Sum.map (fun r => (r.1, l, (r.2 : Int), t)) (fun r => ((r.1 : Int), r.2)) (itemM l i)) := by
  unfold Z.f71F itemM
  dsimp only
  rw [z69_eq hl hi]
  simp only [Option.bind_some]
  cases hs : singleM l i with
  | inr r => rfl
  | inl r =>
    obtain ⟨⟨k, c, a, b, p⟩, j⟩ := r
    obtain ⟨h1, h2, h3, h4, h5, h6⟩ := singleM_in hs
    dsimp only at h1 h2 h3 h4 h5 h6
    simp only [Sum.map_inl, Sum.elim_inl]
    have hw : IntKind.i64.wrap ((j : Int) + 1) = ((j + 1 : Nat) : Int) := by rw [wrap_i64 (by omega) (by omega)]; push_cast; rfl
    rw [hw]
    by_cases hk : k = 12
    · rw [if_pos (by rw [beq_iff_eq]; exact hk), if_neg (fun h => h.1 hk)]
      rfl
    · rw [if_neg (by rw [beq_iff_eq]; exact hk)]
      by_cases hj : j + 1 < l.length
      · rw [if_neg (by rw [decide_eq_true_eq]; omega), if_pos (by omega), Int.toNat_natCast, tgetD (by omega)]
        by_cases h45 : l[j] = 45
        · rw [if_neg (by simp [h45]), if_pos (by omega), Int.toNat_natCast, tgetD hj]
          by_cases h93 : l[j + 1] = 93
          · rw [if_neg (fun h => h.2.2.2 (by rw [List.getElem?_eq_getElem hj, h93])), h93]
            rfl
          · have hg : goesOn l k j := ⟨hk, by rw [List.getElem?_eq_getElem (by omega), h45], by simp [List.getElem?_eq_getElem hj], by simp [List.getElem?_eq_getElem hj, h93]⟩
            rw [if_pos hg]
            have hb : (l[j + 1] == 93) = false := by rw [beq_eq_false_iff_ne]; exact h93
            simp only [Option.bind_some, hb, hw]
            rw [if_neg (by simp), z69_eq hl (by omega)]
            simp only [Option.bind_some]
            cases hu : singleM l (j + 1) with
            | inr r => rfl
            | inl r =>
              obtain ⟨⟨k', c', a', b', p'⟩, j'⟩ := r
              obtain ⟨g1, g2, g3, g4, g5, g6⟩ := singleM_in hu
              dsimp only at g1 g2 g3 g4 g5 g6
              simp only [Sum.map_inl, Sum.elim_inl, beq_iff_eq, decide_eq_true_eq]
              by_cases q1 : k' = 12
              · rw [if_pos q1, if_pos q1, g3]; rfl
              · rw [if_neg q1, if_neg q1]
                by_cases q2 : c' < c
                · rw [if_pos q2, if_pos q2, h3]; rfl
                · rw [if_neg q2, if_neg q2, h3]; rfl
        · rw [if_pos (by simp [h45]), if_neg (fun h => h45 (by have := h.2.1; rw [List.getElem?_eq_getElem (by omega)] at this; exact Option.some.inj this))]
          rfl
      · rw [if_pos (by rw [decide_eq_true_eq]; omega), if_neg (fun h => h.2.2.1 (List.getElem?_eq_none (by omega)))]
        rfl
def digV : Int → List Int → Int × Nat
  | n, [] => (n, 0)
  | n, c :: r => if isDig c = true then ((digV (if 10 * n + c - 48 > 20 then 21 else 10 * n + c - 48) r).1, (digV (if 10 * n + c - 48 > 20 then 21 else 10 * n + c - 48) r).2 + 1) else (n, 0)
theorem digV_in : ∀ (r : List Int) (n : Int), 0 ≤ n → n ≤ 21 → (0 ≤ (digV n r).1 ∧ (digV n r).1 ≤ 21) ∧ (digV n r).2 ≤ r.length
  | [], n, h0, h1 => ⟨⟨h0, h1⟩, Nat.le_refl _⟩
  | c :: r, n, h0, h1 => by
    unfold digV
    by_cases h : isDig c = true
    · rw [if_pos h]
      have hd : 48 ≤ c ∧ c ≤ 57 := by unfold isDig at h; simpa using h
      have := digV_in r (if 10 * n + c - 48 > 20 then 21 else 10 * n + c - 48) (by split <;> omega) (by split <;> omega)
      exact ⟨this.1, by simp only [List.length_cons]; omega⟩
    · rw [if_neg h]
      exact ⟨⟨h0, h1⟩, Nat.zero_le _⟩
theorem digV_app : ∀ (r : List Int) (n : Int) (q : List Int), (digV n r).2 < r.length → digV n (r ++ q) = digV n r
  | [], n, q, h => absurd h (Nat.not_lt_zero _)
  | c :: r, n, q, h => by
    rw [List.cons_append]
    unfold digV at h ⊢
    by_cases hd : isDig c = true
    · rw [if_pos hd] at h
      rw [if_pos hd, if_pos hd]
      simp only [List.length_cons] at h
      rw [digV_app r _ q (by omega)]
    · rw [if_neg hd, if_neg hd]
abbrev DgT := Int × List Int × Int × List TknT
theorem dig_loop {f : DgT → Option (DgT ⊕ DgT)} (hstep : ∀ (n : Int) (i : Nat), 0 ≤ n → n ≤ 21 → i ≤ l.length → f (n, l, (i : Int), t) = some (match l[i]? with
      | some c => if isDig c = true then .inl (if 10 * n + c - 48 > 20 then 21 else 10 * n + c - 48, l, ((i + 1 : Nat) : Int), t) else .inr (n, l, (i : Int), t)
      | none => .inr (n, l, (i : Int), t))) :
    ∀ (m i : Nat) (n : Int), i + m = l.length → 0 ≤ n → n ≤ 21 → iter f (n, l, (i : Int), t) = some ((digV n (l.drop i)).1, l, ((i + (digV n (l.drop i)).2 : Nat) : Int), t)
  | 0, i, n, hm, h0, h1 => by
    have hs := hstep n i h0 h1 (by omega)
    rw [List.getElem?_eq_none (by omega)] at hs
    rw [iter_inr hs, List.drop_eq_nil_of_le (by omega)]
    rfl
  | m + 1, i, n, hm, h0, h1 => by
    have hs := hstep n i h0 h1 (by omega)
    have hi : i < l.length := by omega
    rw [List.getElem?_eq_getElem hi] at hs
    dsimp only at hs
    rw [List.drop_eq_getElem_cons hi]
    by_cases hd : isDig l[i] = true
    · rw [if_pos hd] at hs
      have hv : 48 ≤ l[i] ∧ l[i] ≤ 57 := by unfold isDig at hd; simpa using hd
      rw [iter_inl hs, dig_loop hstep m (i + 1) _ (by omega) (by split <;> omega) (by split <;> omega)]
      have e : digV n (l[i] :: l.drop (i + 1)) = ((digV (if 10 * n + l[i] - 48 > 20 then 21 else 10 * n + l[i] - 48) (l.drop (i + 1))).1, (digV (if 10 * n + l[i] - 48 > 20 then 21 else 10 * n + l[i] - 48) (l.drop (i + 1))).2 + 1) := by
        rw [digV, if_pos hd]
      rw [e]
      simp only [Option.some.injEq, Prod.mk.injEq, true_and, and_true]
      omega
    · rw [if_neg hd] at hs
      have e : digV n (l[i] :: l.drop (i + 1)) = (n, 0) := by rw [digV, if_neg hd]
      rw [iter_inr hs, e]
      rfl
def digM (l : List Int) (i : Nat) : Int × Bool × Nat :=
  (if (digV 0 (l.drop i)).1 > 20 ∨ ((digV 0 (l.drop i)).2 > 1 ∧ l[i]? = some 48) then -1 else (digV 0 (l.drop i)).1, decide ((digV 0 (l.drop i)).2 > 0), i + (digV 0 (l.drop i)).2)
theorem digM_in : i ≤ l.length → (-1 ≤ (digM l i).1 ∧ (digM l i).1 ≤ 20) ∧ i ≤ (digM l i).2.2 ∧ (digM l i).2.2 ≤ l.length := by
  intro hi
  have := digV_in (l.drop i) 0 (by omega) (by omega)
  rw [List.length_drop] at this
  unfold digM
  refine ⟨?_, by dsimp only; omega, by dsimp only; omega⟩
  dsimp only
  by_cases h : (digV 0 (l.drop i)).1 > 20 ∨ ((digV 0 (l.drop i)).2 > 1 ∧ l[i]? = some 48)
  · rw [if_pos h]; omega
  · rw [if_neg h]
    have : ¬ (digV 0 (l.drop i)).1 > 20 := fun h' => h (.inl h')
    omega
theorem z78_eq (hl : l.length ≤ 1000) (hi : i ≤ l.length) : Z.f78F (l, (i : Int), t) = some ((digM l i).1, (digM l i).2.1, l, ((digM l i).2.2 : Int), t) := by
  unfold Z.f78F
  dsimp only
  rw [dig_loop (l := l) (t := t) ?_ (l.length - i) i 0 (by omega) (by omega) (by omega)]
  · have hd := digV_in (l.drop i) 0 (by omega) (by omega)
    rw [List.length_drop] at hd
    unfold digM
    simp only [Option.bind_some]
    generalize digV 0 (l.drop i) = q at hd ⊢
    obtain ⟨v, k⟩ := q
    dsimp only at hd ⊢
    have hw : IntKind.i64.wrap ((i : Int) + 1) = (i : Int) + 1 := by rw [wrap_i64 (by omega) (by omega)]
    rw [hw]
    have hb : decide (((i + k : Nat) : Int) > (i : Int)) = decide (k > 0) := by
      by_cases h : k > 0
      · rw [decide_eq_true h, decide_eq_true (by omega)]
      · rw [decide_eq_false h, decide_eq_false (by omega)]
    by_cases h1 : v > 20
    · rw [if_pos (by rw [decide_eq_true_eq]; exact h1), if_pos (.inl h1)]
      simp only [Option.bind_some, if_true, hb]
    · rw [if_neg (by rw [decide_eq_true_eq]; exact h1)]
      by_cases h2 : k > 1
      · have hlt : i < l.length := by omega
        rw [if_pos (by rw [decide_eq_true_eq]; omega), if_pos (by omega), Int.toNat_natCast, tgetD hlt]
        simp only [Option.bind_some, hb, beq_iff_eq]
        by_cases h3 : l[i] = 48
        · rw [if_pos h3, if_pos (.inr ⟨h2, by rw [List.getElem?_eq_getElem hlt, h3]⟩)]
          simp only [Option.bind_some, hb]
        · rw [if_neg h3, if_neg (by rintro (h | ⟨-, h⟩); exact h1 h; rw [List.getElem?_eq_getElem hlt] at h; exact h3 (Option.some.inj h))]
          simp only [Option.bind_some, hb]
      · rw [if_neg (by rw [decide_eq_true_eq]; omega), if_neg (by rintro (h | ⟨h, -⟩); exact h1 h; exact h2 h)]
        simp only [Option.bind_some, Bool.false_eq_true, if_false, hb]
  · intro n j h0 h1 hj
    dsimp only
    by_cases h : j < l.length
    · rw [if_pos (by rw [decide_eq_true_eq]; omega), if_pos (by omega), Int.toNat_natCast, tgetD h, List.getElem?_eq_getElem h, z45_of digs_all (fun c h => isDig_in h)]
      simp only [Option.bind_some]
      by_cases hd : isDig l[j] = true
      · have hv : 48 ≤ l[j] ∧ l[j] ≤ 57 := by unfold isDig at hd; simpa using hd
        rw [if_pos hd, if_pos (by omega), Int.toNat_natCast, tgetD h, wrap_i64 (x := 10 * n) (by omega) (by omega), wrap_i64 (x := 10 * n + l[j]) (by omega) (by omega), wrap_i64 (x := 10 * n + l[j] - 48) (by omega) (by omega), if_pos hd]
        have hw : IntKind.i64.wrap ((j : Int) + 1) = ((j + 1 : Nat) : Int) := by rw [wrap_i64 (by omega) (by omega)]; push_cast; rfl
        simp only [decide_eq_true_eq]
        split
        · simp only [Option.bind_some, hw]
        · simp only [Option.bind_some, hw]
      · rw [if_neg hd, if_neg hd]
    · rw [if_neg (by rw [decide_eq_true_eq]; omega), List.getElem?_eq_none (by omega)]
      rfl
def bracesM (l : List Int) (i : Nat) : (Int × Int × Bool × Nat) ⊕ (Nat × Int) :=
  match l[(digM l i).2.2]? with
  | none => .inr ((digM l i).2.2, 4)
  | some c =>
    if (digM l i).2.1 = false then .inl (0, 0, false, (digM l i).2.2)
    else if c = 125 then .inl ((digM l i).1, (digM l i).1, decide ((digM l i).1 ≥ 0), (digM l i).2.2 + 1)
    else if c ≠ 44 then .inl (0, 0, false, (digM l i).2.2)
    else match l[(digM l i).2.2 + 1]? with
      | none => .inr ((digM l i).2.2 + 1, 4)
      | some d =>
        if d = 125 then .inl ((digM l i).1, -1, decide ((digM l i).1 ≥ 0), (digM l i).2.2 + 2)
        else match l[(digM l ((digM l i).2.2 + 1)).2.2]? with
          | none => .inr ((digM l ((digM l i).2.2 + 1)).2.2, 4)
          | some e =>
            if (digM l ((digM l i).2.2 + 1)).2.1 = false then .inl (0, 0, false, (digM l ((digM l i).2.2 + 1)).2.2)
            else if e ≠ 125 then .inl (0, 0, false, (digM l ((digM l i).2.2 + 1)).2.2)
            else .inl ((digM l i).1, (digM l ((digM l i).2.2 + 1)).1, decide ((digM l i).1 ≥ 0) && decide ((digM l ((digM l i).2.2 + 1)).1 ≥ (digM l i).1), (digM l ((digM l i).2.2 + 1)).2.2 + 1)
theorem z66_eq (hl : l.length ≤ 1000) (hi : i ≤ l.length) : Z.f66F (l, (i : Int), t) = some (Sum.map (fun r => (r.1, r.2.1, r.2.2.1, l, (r.2.2.2 : Int), t)) (fun r => ((r.1 : Int), r.2)) (bracesM l i)) := by
  unfold Z.f66F bracesM
  dsimp only
  rw [z78_eq hl hi]
  simp only [Option.bind_some]
  obtain ⟨⟨d1, d2⟩, d3, d4⟩ := digM_in (l := l) hi
  generalize hq : digM l i = q at d1 d2 d3 d4 ⊢
  obtain ⟨v, s, j⟩ := q
  dsimp only at d1 d2 d3 d4 ⊢
  rw [z70_eq d4]
  simp only [Option.bind_some]
  cases hc : l[j]? with
  | none => rfl
  | some c =>
    have hj : j < l.length := (List.getElem?_eq_some_iff.1 hc).1
    simp only [Sum.elim_inl]
    cases s with
    | false => rfl
    | true =>
      rw [if_neg (by simp), z64_eq 125 hl d4, hc]
      simp only [Option.bind_some, Option.some.injEq, Bool.true_eq_false, if_false]
      by_cases h125 : c = 125
      · rw [if_pos h125, if_pos h125]; rfl
      · rw [if_neg h125, if_neg h125]
        simp only [Bool.false_eq_true, if_false]
        rw [z64_eq 44 hl d4, hc]
        simp only [Option.bind_some, Option.some.injEq]
        by_cases h44 : c = 44
        · rw [if_pos h44, if_neg (show ¬ (c ≠ 44) by simpa using h44)]
          simp only [Bool.not_true, Bool.false_eq_true, if_false]
          rw [z70_eq (by omega)]
          simp only [Option.bind_some]
          cases hd : l[j + 1]? with
          | none => rfl
          | some d =>
            have hj1 : j + 1 < l.length := (List.getElem?_eq_some_iff.1 hd).1
            simp only [Sum.elim_inl]
            rw [z64_eq 125 hl (by omega), hd]
            simp only [Option.bind_some, Option.some.injEq]
            by_cases g125 : d = 125
            · rw [if_pos g125, if_pos g125]; rfl
            · rw [if_neg g125, if_neg g125]
              simp only [Bool.false_eq_true, if_false]
              rw [z78_eq hl (by omega)]
              simp only [Option.bind_some]
              obtain ⟨⟨e1, e2⟩, e3, e4⟩ := digM_in (l := l) (i := j + 1) (by omega)
              generalize hp : digM l (j + 1) = p at e1 e2 e3 e4 ⊢
              obtain ⟨w, s', k⟩ := p
              dsimp only at e1 e2 e3 e4 ⊢
              rw [z70_eq e4]
              simp only [Option.bind_some]
              cases he : l[k]? with
              | none => rfl
              | some e =>
                have hk : k < l.length := (List.getElem?_eq_some_iff.1 he).1
                simp only [Sum.elim_inl]
                cases s' with
                | false => rfl
                | true =>
                  rw [if_neg (by simp), z64_eq 125 hl e4, he]
                  simp only [Option.bind_some, Option.some.injEq, Bool.true_eq_false, if_false]
                  by_cases k125 : e = 125
                  · rw [if_pos k125, if_neg (show ¬ (e ≠ 125) by simpa using k125)]
                    simp only [Bool.not_true, Bool.false_eq_true, if_false, decide_eq_true_eq]
                    by_cases hv : v ≥ 0
                    · rw [if_pos hv, decide_eq_true hv]; rfl
                    · rw [if_neg hv, decide_eq_false hv]; rfl
                  · rw [if_neg k125, if_pos (show e ≠ 125 by simpa using k125)]; rfl
        · rw [if_neg h44, if_pos (show c ≠ 44 by simpa using h44)]; rfl
def repM (l : List Int) (at' : Int) (low high : Int) (j : Nat) : List TknT × Nat :=
  if l[j]? = some 63 then ([(6, 0, low, high, at'), (13, 0, 0, 0, (j : Int))], j + 1) else ([(6, 0, low, high, at')], j)
theorem z67_eq (p low high : Int) (hl : l.length ≤ 1000) (hi : i ≤ l.length) (ht : t.length ≤ 900) : Z.f67F (p, low, high, l, (i : Int), t) = some (l, ((repM l p low high i).2 : Int), t ++ (repM l p low high i).1) := by
  unfold Z.f67F repM
  dsimp only
  rw [z65_eq _ (by omega)]
  simp only [Option.bind_some]
  rw [z64_eq 63 hl hi]
  simp only [Option.bind_some]
  by_cases h : l[i]? = some 63
  · rw [if_pos h, if_pos h]
    simp only [if_true]
    rw [z65_eq _ (by simp only [List.length_append, List.length_cons, List.length_nil]; omega)]
    simp only [Option.bind_some, List.append_assoc, List.cons_append, List.nil_append]
  · rw [if_neg h, if_neg h]
    rfl
end
end Go.Sx
