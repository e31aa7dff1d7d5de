/- Tour: keys of spans are the reference's. -/
import Derived.Test.YtpmbmobjnknnhaaSxOb
import Derived.Test.YtpmbmobjnknnhaaSxEU
set_option linter.unusedVariables false
set_option linter.unusedSimpArgs false
namespace Go.Sx
def inSp (a b p : Int) : Bool := decide (p ≥ a) && decide (p < b)
def leastS : List Int → Int × Bool
  | [] => (0, false)
  | x :: l => (l.foldl minI x, true)
theorem leastS_snoc (l : List Int) (p : Int) : leastS (l ++ [p]) = if (leastS l).2 = true then (minI (leastS l).1 p, true) else (p, true) := by
  cases l with
  | nil => rfl
  | cons x l => simp [leastS, List.foldl_append]
def seenR (rows : List RowT) : List Int := rows.flatMap (·.2.2)
def seenIn (a b : Int) (rows : List RowT) : List Int := (seenR rows).filter (inSp a b)
theorem seenR_len : ∀ rows : List RowT, (seenR rows).length = heavy rows
  | [] => rfl
  | r :: rows => by
    have := seenR_len rows
    simp only [seenR, heavy, List.flatMap_cons, List.length_append, List.map_cons, List.sum_cons] at this ⊢
    omega
theorem seenR_take {rows : List RowT} {i : Nat} (h : i < rows.length) : seenR (rows.take (i + 1)) = seenR (rows.take i) ++ rows[i].2.2 := by
  unfold seenR
  rw [List.take_succ_eq_append_getElem h, List.flatMap_append]
  simp
theorem filter_take {l : List Int} {k : Nat} (q : Int → Bool) (h : k < l.length) : (l.take (k + 1)).filter q = (l.take k).filter q ++ (if q l[k] = true then [l[k]] else []) := by
  rw [List.take_succ_eq_append_getElem h, List.filter_append]
  cases hq : q l[k] <;> simp [hq]
theorem seenIn_le (a b : Int) (rows : List RowT) (i : Nat) : ((seenR (rows.take i)).filter (inSp a b)).length ≤ heavy rows := by
  refine Nat.le_trans (List.length_filter_le _ _) ?_
  rw [← seenR_len rows]
  conv => rhs; rw [← List.take_append_drop i rows]
  unfold seenR
  rw [List.flatMap_append, List.length_append]
  omega
theorem u21_eq {l : List Int} (h0 : l ≠ []) (hl : l.length ≤ 500) : U.f21F l = some (leastS l).1 := by
  unfold U.f21F
  cases l with
  | nil => exact absurd rfl h0
  | cons x l =>
  rw [if_neg (by rw [decide_eq_true_eq, List.length_cons]; omega), if_pos (by rw [List.length_cons]; omega)]
  refine uex_to ?_
  refine bind_ex (Q := fun e : Int => e = (leastS (x :: l)).1) (iter_rule (I := fun s : Int × Int => ∃ i : Nat, s = ((leastS ((x :: l).take i)).1, (i : Int)) ∧ 1 ≤ i ∧ i ≤ l.length + 1) (fun s => ((l.length : Int) + 1 - s.2).toNat) ?_ _ ⟨1, rfl, Nat.le_refl _, by omega⟩) ?_
  · rintro _ ⟨i, rfl, hi1, hi⟩
    dsimp only
    by_cases hil : i < (x :: l).length
    · have hil' := hil
      rw [List.length_cons] at hil' hl
      rw [if_pos (by rw [decide_eq_true_eq, List.length_cons]; omega), if_pos (by rw [List.length_cons]; omega), Int.toNat_natCast, ugetD _ _ hil, wrap_i64 (by omega) (by omega)]
      refine .inl ⟨_, rfl, ⟨i + 1, ?_, by omega, by omega⟩, by dsimp only; omega⟩
      rw [List.take_succ_eq_append_getElem hil, leastS_snoc]
      obtain ⟨j, rfl⟩ : ∃ j, i = j + 1 := ⟨i - 1, by omega⟩
      rw [List.take_succ_cons]
      simp [leastS]
    · rw [if_neg (by rw [decide_eq_true_eq]; omega)]
      refine .inr ⟨_, rfl, ?_⟩
      rw [List.take_of_length_le (by omega)]
  · rintro _ rfl
    exact ⟨_, rfl, rfl⟩
theorem u22_eq {rows : List RowT} (hr : rows.length + heavy rows ≤ 500) (a b : Int) : U.f22F (rows, a, b) = some (leastS (seenIn a b rows)) := by
  unfold U.f22F
  dsimp only
  refine uex_to ?_
  refine bind_ex (Q := fun e : Int × Bool => e = leastS (seenIn a b rows)) (iter_rule (I := fun s : Int × Bool × Int × Int × Int => ∃ i : Nat, s = ((leastS (seenIn a b (rows.take i))).1, (leastS (seenIn a b (rows.take i))).2, (i : Int), a, b) ∧ i ≤ rows.length) (fun s => ((rows.length : Int) - s.2.2.1).toNat) ?_ _ ⟨0, rfl, Nat.zero_le _⟩) ?_
  rotate_left
  · rintro _ rfl
    exact ⟨_, rfl, rfl⟩
  rintro _ ⟨i, rfl, hi⟩
  dsimp only
  by_cases hil : i < rows.length
  rotate_left
  · rw [if_neg (by rw [decide_eq_true_eq]; omega)]
    refine .inr ⟨_, rfl, ?_⟩
    rw [List.take_of_length_le (by omega)]
  have hlm := heavy_mem (List.getElem_mem hil)
  have hb : 0 ≤ (i : Int) ∧ (i : Int) < rows.length := by omega
  rw [if_pos (by rw [decide_eq_true_eq]; omega)]
  simp only [if_pos hb]
  rw [Int.toNat_natCast, ugetD rows _ hil]
  have hst : seenIn a b (rows.take (i + 1)) = seenIn a b (rows.take i) ++ rows[i].2.2.filter (inSp a b) := by
    unfold seenIn
    rw [seenR_take hil, List.filter_append]
  generalize seenIn a b (rows.take i) = pre at hst ⊢
  generalize rows[i] = r at *
  obtain ⟨r1, r2, l⟩ := r
  dsimp only at hlm hst ⊢
  refine stp_bind (R := fun v : Int × Bool × Int × Int => v = ((leastS (pre ++ l.filter (inSp a b))).1, (leastS (pre ++ l.filter (inSp a b))).2, a, b))
    (iter_rule (I := fun s : Int × Bool × Int × Int × Int => ∃ k : Nat, s = ((leastS (pre ++ (l.take k).filter (inSp a b))).1, (leastS (pre ++ (l.take k).filter (inSp a b))).2, (k : Int), a, b) ∧ k ≤ l.length) (fun s => ((l.length : Int) - s.2.2.1).toNat) ?_ _ ⟨0, by simp, Nat.zero_le _⟩) ?_
  · rintro _ ⟨k, rfl, hk⟩
    dsimp only
    by_cases hkl : k < l.length
    rotate_left
    · rw [if_neg (by rw [decide_eq_true_eq]; omega)]
      refine .inr ⟨_, rfl, ?_⟩
      rw [List.take_of_length_le (by omega)]
    rw [if_pos (by rw [decide_eq_true_eq]; omega), if_pos (by omega), Int.toNat_natCast, ugetD l _ hkl, wrap_i64 (by omega) (by omega)]
    have hft := filter_take (inSp a b) hkl
    have hdown : ((l.length : Int) - ((k : Int) + 1)).toNat < ((l.length : Int) - (k : Int)).toNat := by omega
    generalize hp : l[k] = p at *
    by_cases h1 : p ≥ a
    · rw [if_pos (by rw [decide_eq_true_eq]; exact h1)]
      by_cases h2 : p < b
      · rw [if_pos (by rw [decide_eq_true_eq]; exact h2)]
        have hq : inSp a b p = true := by unfold inSp; rw [decide_eq_true h1, decide_eq_true h2]; rfl
        rw [if_pos hq] at hft
        have hnew : leastS (pre ++ (l.take (k + 1)).filter (inSp a b)) = if (leastS (pre ++ (l.take k).filter (inSp a b))).2 = true then (minI (leastS (pre ++ (l.take k).filter (inSp a b))).1 p, true) else (p, true) := by
          rw [hft, ← List.append_assoc, leastS_snoc]
        generalize leastS (pre ++ (l.take k).filter (inSp a b)) = st at hnew ⊢
        obtain ⟨o, is⟩ := st
        dsimp only at hnew ⊢
        cases is with
        | false =>
          simp only [Bool.not_false, if_true, Option.bind_some]
          exact .inl ⟨_, rfl, ⟨k + 1, by rw [hnew]; push_cast; rfl, hkl⟩, hdown⟩
        | true =>
          simp only [Bool.not_true, Bool.false_eq_true, if_false, Option.bind_some]
          by_cases h3 : p < o
          · rw [if_pos (by rw [decide_eq_true_eq]; exact h3)]
            exact .inl ⟨_, rfl, ⟨k + 1, by rw [hnew]; simp [minI, h3], hkl⟩, hdown⟩
          · rw [if_neg (by rw [decide_eq_true_eq]; exact h3)]
            exact .inl ⟨_, rfl, ⟨k + 1, by rw [hnew]; simp [minI, h3], hkl⟩, hdown⟩
      · rw [if_neg (by rw [decide_eq_true_eq]; exact h2)]
        have hq : inSp a b p = false := by unfold inSp; rw [decide_eq_false h2]; simp
        rw [hq, if_neg (by decide), List.append_nil] at hft
        simp only [Option.bind_some, Bool.false_eq_true, if_false]
        exact .inl ⟨_, rfl, ⟨k + 1, by rw [hft]; push_cast; rfl, hkl⟩, hdown⟩
    · rw [if_neg (by rw [decide_eq_true_eq]; exact h1)]
      have hq : inSp a b p = false := by unfold inSp; rw [decide_eq_false h1]; rfl
      rw [hq, if_neg (by decide), List.append_nil] at hft
      simp only [Option.bind_some, Bool.false_eq_true, if_false]
      exact .inl ⟨_, rfl, ⟨k + 1, by rw [hft]; push_cast; rfl, hkl⟩, hdown⟩
  · rintro _ rfl
    dsimp only
    rw [wrap_i64 (by omega) (by omega)]
    exact .inl ⟨_, rfl, ⟨i + 1, by rw [hst]; push_cast; rfl, hil⟩, by dsimp only; omega⟩
def noKey : Nat × Nat := (13830554455654793216, 0)
def keyR (rows : List RowT) (b p : Int) : Nat × Nat :=
  if (placeR p rows 0).1 < 0 then noKey
  else (fOfInt (placeR p rows 0).1, fOfInt (if b ≠ 0 then ((rows.getD (placeR p rows 0).1.toNat (0, 0, [])).2.2.length : Int) - (placeR p rows 0).2 - 1 else (placeR p rows 0).2))
theorem idxO_lt (p : Int) : ∀ (l : List Int) (k j : Nat), idxO p l k = some j → k ≤ j ∧ j < k + l.length
  | [], _, _, h => by simp [idxO] at h
  | x :: l, k, j, h => by
    simp only [idxO] at h
    rw [List.length_cons]
    split at h
    · cases h; omega
    · have := idxO_lt p l (k + 1) j h; omega
theorem placeR_is (p : Int) : ∀ (rows : List RowT) (i : Nat), placeR p rows i = (-1, -1) ∨ ∃ (j : Nat) (h : j < rows.length) (k : Nat), placeR p rows i = (((i + j : Nat) : Int), (k : Int)) ∧ k < rows[j].2.2.length
  | [], _ => .inl rfl
  | r :: rows, i => by
    simp only [placeR]
    cases hx : idxO p r.2.2 0 with
    | some k =>
      right
      have := idxO_lt p r.2.2 0 k hx
      exact ⟨0, by simp, k, rfl, by simpa using this.2⟩
    | none =>
      rcases placeR_is p rows (i + 1) with h | ⟨j, h1, k, h2, h3⟩
      · exact .inl h
      · exact .inr ⟨j + 1, by simpa using h1, k, by dsimp only; rw [h2]; congr 2; omega, by simpa using h3⟩
theorem u11_eq {rows : List RowT} (hr : rows.length + heavy rows ≤ 500) (b p : Int) : U.f11F (rows, b, p) = some (keyR rows b p) := by
  unfold U.f11F
  dsimp only
  rw [u23_eq hr]
  simp only [Option.bind_some]
  unfold keyR
  rcases placeR_is p rows 0 with h | ⟨j, h1, k, h2, h3⟩
  · rw [h]
    rw [if_pos (by decide), if_pos (by decide)]
    rfl
  · have hlm := heavy_mem (List.getElem_mem h1)
    rw [Nat.zero_add] at h2
    rw [h2]
    dsimp only
    have hj0 : ¬ (j : Int) < 0 := by omega
    rw [if_neg (by rw [decide_eq_true_eq]; omega), if_neg hj0, Int.toNat_natCast, ugetD rows _ h1]
    by_cases hb : b = 0
    · subst hb
      rw [if_neg (by decide), if_neg (by simp)]
      simp only [Option.bind_some]
      rw [if_neg (by rw [decide_eq_true_eq]; unfold maxI; split <;> omega)]
    · rw [if_pos (by simpa using hb), if_pos hb, if_pos (by omega), wrap_i64 (x := ((rows[j].2.2.length : Nat) : Int) - (k : Int)) (by omega) (by omega), wrap_i64 (by omega) (by omega)]
      simp only [Option.bind_some]
      rw [if_neg (by rw [decide_eq_true_eq]; unfold maxI; split <;> omega)]
theorem u12_eq {rows : List RowT} (hr : rows.length + heavy rows ≤ 500) (b p : Int) : U.f12F (rows, b, p) = some (keyR rows b p) := by
  unfold U.f12F
  dsimp only
  rw [u24_eq hr]
  simp only [Option.bind_some]
  unfold keyR
  rcases placeR_is p rows 0 with h | ⟨j, h1, k, h2, h3⟩
  · rw [h]
    rw [if_pos (by decide), if_pos (by decide)]
    rfl
  · have hlm := heavy_mem (List.getElem_mem h1)
    rw [Nat.zero_add] at h2
    rw [h2]
    dsimp only
    have hj0 : ¬ (j : Int) < 0 := by omega
    rw [if_neg (by rw [decide_eq_true_eq]; omega), if_neg hj0, Int.toNat_natCast, ugetD rows _ h1]
    have hj : ¬ decide ((j : Int) > 1048576) = true := by rw [decide_eq_true_eq]; omega
    by_cases hb : b = 0
    · subst hb
      rw [if_neg (by decide), if_neg (by simp)]
      simp only [Option.bind_some]
      rw [if_neg hj]
      simp only [Option.bind_some]
      rw [if_neg (by rw [decide_eq_true_eq]; omega)]
    · rw [if_pos (by simpa using hb), if_pos hb, if_pos (by omega), wrap_i64 (x := ((rows[j].2.2.length : Nat) : Int) - 1) (by omega) (by omega), wrap_i64 (by omega) (by omega)]
      simp only [Option.bind_some]
      rw [if_neg hj]
      simp only [Option.bind_some]
      rw [if_neg (by rw [decide_eq_true_eq]; omega), show ((rows[j].2.2.length : Nat) : Int) - 1 - (k : Int) = ((rows[j].2.2.length : Nat) : Int) - (k : Int) - 1 by omega]
def spanK (rows : List RowT) (b : Int) (s : Int × Int) : Nat × Nat :=
  if (leastS (seenIn s.1 s.2 rows)).2 = true then keyR rows b (leastS (seenIn s.1 s.2 rows)).1 else noKey
theorem u10_eq {rows : List RowT} (hr : rows.length + heavy rows ≤ 500) (b : Int) {ss : List (Int × Int)} (hs : ss.length ≤ 60) : U.f10F (rows, b, ss) = some (ss.map (spanK rows b)) := by
  unfold U.f10F
  dsimp only
  refine uex_to ?_
  refine bind_ex (Q := fun e : List (Nat × Nat) => e = ss.map (spanK rows b)) (iter_rule (I := fun s : Int × List (Nat × Nat) => ∃ i : Nat, s = ((i : Int), (ss.take i).map (spanK rows b)) ∧ i ≤ ss.length) (fun s => ((ss.length : Int) - s.1).toNat) ?_ _ ⟨0, rfl, Nat.zero_le _⟩) ?_
  · rintro _ ⟨i, rfl, hi⟩
    dsimp only
    by_cases hil : i < ss.length
    · have hroom : ∀ y : Nat × Nat, roomOk (((ss.take i).map (spanK rows b)).length + 1) 16 := fun _ => by
        unfold roomOk
        rw [List.length_map, List.length_take]
        omega
      rw [if_pos (by rw [decide_eq_true_eq]; omega), if_pos (by omega), Int.toNat_natCast, ugetD ss _ hil, u22_eq hr, wrap_i64 (by omega) (by omega)]
      simp only [Option.bind_some]
      have hnext : ∀ y, y = spanK rows b ss[i] → (ss.take i).map (spanK rows b) ++ [y] = (ss.take (i + 1)).map (spanK rows b) := by
        rintro y rfl
        rw [List.take_succ_eq_append_getElem hil, List.map_append]
        rfl
      by_cases hz : (leastS (seenIn ss[i].1 ss[i].2 rows)).2 = true
      · rw [if_pos hz, u12_eq hr]
        simp only [Option.bind_some]
        rw [if_pos (hroom (0, 0))]
        exact .inl ⟨_, rfl, ⟨i + 1, by rw [hnext _ (by unfold spanK; rw [if_pos hz])]; push_cast; rfl, hil⟩, by dsimp only; omega⟩
      · rw [if_neg hz, if_pos (hroom (0, 0))]
        exact .inl ⟨_, rfl, ⟨i + 1, by rw [hnext _ (by unfold spanK; rw [if_neg hz]; rfl)]; push_cast; rfl, hil⟩, by dsimp only; omega⟩
    · rw [if_neg (by rw [decide_eq_true_eq]; omega)]
      refine .inr ⟨_, rfl, ?_⟩
      rw [List.take_of_length_le (by omega)]
  · rintro _ rfl
    exact ⟨_, rfl, rfl⟩
theorem leastS_any (l : List Int) : (leastS l).2 = true ↔ l ≠ [] := by cases l <;> simp [leastS]
theorem u9_eq {rows : List RowT} (hr : rows.length + heavy rows ≤ 500) (b : Int) {ss : List (Int × Int)} (hs : ss.length ≤ 60) : U.f9F (rows, b, ss) = some (ss.map (spanK rows b)) := by
  unfold U.f9F
  dsimp only
  refine uex_to ?_
  refine bind_ex (Q := fun e : List (Nat × Nat) => e = ss.map (spanK rows b)) (iter_rule (I := fun s : Int × List (Nat × Nat) => ∃ i : Nat, s = ((i : Int), (ss.take i).map (spanK rows b)) ∧ i ≤ ss.length) (fun s => ((ss.length : Int) - s.1).toNat) ?_ _ ⟨0, rfl, Nat.zero_le _⟩) ?_
  rotate_left
  · rintro _ rfl
    exact ⟨_, rfl, rfl⟩
  rintro _ ⟨i, rfl, hi⟩
  dsimp only
  by_cases hil : i < ss.length
  rotate_left
  · rw [if_neg (by rw [decide_eq_true_eq]; omega)]
    refine .inr ⟨_, rfl, ?_⟩
    rw [List.take_of_length_le (by omega)]
  have hroom : roomOk (((ss.take i).map (spanK rows b)).length + 1) 16 := by
    unfold roomOk
    rw [List.length_map, List.length_take]
    omega
  rw [if_pos (by rw [decide_eq_true_eq]; omega), if_pos (by omega), Int.toNat_natCast, ugetD ss _ hil]
  have hnext : ∀ y, y = spanK rows b ss[i] → (ss.take i).map (spanK rows b) ++ [y] = (ss.take (i + 1)).map (spanK rows b) := by
    rintro y rfl
    rw [List.take_succ_eq_append_getElem hil, List.map_append]
    rfl
  have hdown : ((ss.length : Int) - ((i : Int) + 1)).toNat < ((ss.length : Int) - (i : Int)).toNat := by omega
  generalize (ss.take i).map (spanK rows b) = K at *
  generalize ss[i] = s at *
  obtain ⟨x, y⟩ := s
  dsimp only
  refine stp_bind (R := fun v : List (Nat × Nat) × List Int => v = (K, seenIn x y rows)) (iter_rule (I := fun s : Int × List (Nat × Nat) × Int × Int × List Int => ∃ j : Nat, s = ((j : Int), K, x, y, seenIn x y (rows.take j)) ∧ j ≤ rows.length) (fun s => ((rows.length : Int) - s.1).toNat) ?_ _ ⟨0, rfl, Nat.zero_le _⟩) ?_
  · rintro _ ⟨j, rfl, hj⟩
    dsimp only
    by_cases hjl : j < rows.length
    rotate_left
    · rw [if_neg (by rw [decide_eq_true_eq]; omega)]
      refine .inr ⟨_, rfl, ?_⟩
      rw [List.take_of_length_le (by omega)]
    have hlm := heavy_mem (List.getElem_mem hjl)
    have hle := seenIn_le x y rows j
    have hle2 := seenIn_le x y rows (j + 1)
    have hst : seenIn x y (rows.take (j + 1)) = seenIn x y (rows.take j) ++ rows[j].2.2.filter (inSp x y) := by
      unfold seenIn
      rw [seenR_take hjl, List.filter_append]
    rw [show (seenR (rows.take j)).filter (inSp x y) = seenIn x y (rows.take j) from rfl] at hle
    rw [show (seenR (rows.take (j + 1))).filter (inSp x y) = seenIn x y (rows.take (j + 1)) from rfl, hst] at hle2
    rw [if_pos (by rw [decide_eq_true_eq]; omega), if_pos (by omega), Int.toNat_natCast, ugetD rows _ hjl]
    generalize seenIn x y (rows.take j) = pre at *
    generalize rows[j] = r at *
    obtain ⟨r1, r2, l⟩ := r
    dsimp only at hlm hst hle2 ⊢
    refine stp_bind (R := fun v : List (Nat × Nat) × Int × Int × List Int => v = (K, x, y, pre ++ l.filter (inSp x y))) (iter_rule (I := fun s : Int × List (Nat × Nat) × Int × Int × List Int => ∃ k : Nat, s = ((k : Int), K, x, y, pre ++ (l.take k).filter (inSp x y)) ∧ k ≤ l.length) (fun s => ((l.length : Int) - s.1).toNat) ?_ _ ⟨0, by simp, Nat.zero_le _⟩) ?_
    · rintro _ ⟨k, rfl, hk⟩
      dsimp only
      by_cases hkl : k < l.length
      rotate_left
      · rw [if_neg (by rw [decide_eq_true_eq]; omega)]
        refine .inr ⟨_, rfl, ?_⟩
        rw [List.take_of_length_le (by omega)]
      have hft := filter_take (inSp x y) hkl
      have hlen : (pre ++ (l.take k).filter (inSp x y)).length ≤ 1000 := by
        have := List.length_filter_le (inSp x y) (l.take k)
        rw [List.length_take] at this
        rw [List.length_append]
        omega
      rw [if_pos (by rw [decide_eq_true_eq]; omega), if_pos (by omega), Int.toNat_natCast, ugetD l _ hkl, wrap_i64 (by omega) (by omega)]
      have hd2 : ((l.length : Int) - ((k : Int) + 1)).toNat < ((l.length : Int) - (k : Int)).toNat := by omega
      generalize l[k] = p at *
      by_cases h1 : p ≥ x
      · rw [if_pos (by rw [decide_eq_true_eq]; exact h1)]
        simp only [Option.bind_some]
        by_cases h2 : p < y
        · rw [if_pos (by rw [decide_eq_true_eq]; exact h2), if_pos (by unfold roomOk; omega)]
          have hq : inSp x y p = true := by unfold inSp; rw [decide_eq_true h1, decide_eq_true h2]; rfl
          rw [if_pos hq] at hft
          exact .inl ⟨_, rfl, ⟨k + 1, by rw [hft]; push_cast; simp [List.append_assoc], hkl⟩, hd2⟩
        · rw [if_neg (by rw [decide_eq_true_eq]; exact h2)]
          have hq : inSp x y p = false := by unfold inSp; rw [decide_eq_false h2]; simp
          rw [hq, if_neg (by decide), List.append_nil] at hft
          exact .inl ⟨_, rfl, ⟨k + 1, by rw [hft]; push_cast; rfl, hkl⟩, hd2⟩
      · rw [if_neg (by rw [decide_eq_true_eq]; exact h1)]
        have hq : inSp x y p = false := by unfold inSp; rw [decide_eq_false h1]; rfl
        rw [hq, if_neg (by decide), List.append_nil] at hft
        simp only [Option.bind_some, Bool.false_eq_true, if_false]
        exact .inl ⟨_, rfl, ⟨k + 1, by rw [hft]; push_cast; rfl, hkl⟩, hd2⟩
    · rintro _ rfl
      dsimp only
      rw [wrap_i64 (by omega) (by omega)]
      exact .inl ⟨_, rfl, ⟨j + 1, by rw [hst]; push_cast; rfl, hjl⟩, by dsimp only; omega⟩
  · rintro _ rfl
    dsimp only
    have hle := seenIn_le x y rows rows.length
    rw [List.take_length] at hle
    rw [show (seenR rows).filter (inSp x y) = seenIn x y rows from rfl] at hle
    rw [wrap_i64 (by omega) (by omega)]
    by_cases h0 : seenIn x y rows = []
    · rw [if_neg (by rw [decide_eq_true_eq, h0]; decide), if_pos hroom]
      exact .inl ⟨_, rfl, ⟨i + 1, by rw [hnext _ (by unfold spanK; rw [if_neg (by rw [leastS_any]; simp [h0])]; rfl)]; push_cast; rfl, hil⟩, hdown⟩
    · have hpos := List.length_pos_iff.2 h0
      rw [if_pos (by rw [decide_eq_true_eq]; omega), u21_eq h0 (by omega)]
      simp only [Option.bind_some]
      rw [u11_eq hr]
      simp only [Option.bind_some]
      rw [if_pos hroom]
      exact .inl ⟨_, rfl, ⟨i + 1, by rw [hnext _ (by unfold spanK; rw [if_pos ((leastS_any _).2 h0)])]; push_cast; rfl, hil⟩, hdown⟩
def selfK (k : Nat × Nat) : Prop := (fOrd k.1 k.1 .eq && fOrd k.2 k.2 .eq) = true
theorem self_iv {a b : Nat} {n m : Int} (ha : IV a n) (hb : IV b m) : selfK (a, b) := by
  unfold selfK
  rw [fOrd_iv ha ha, fOrd_iv hb hb]
  simp
theorem noKey_self : selfK noKey := self_iv IV_none IV_zero
theorem keyR_self {rows : List RowT} (hr : rows.length + heavy rows ≤ 500) (b p : Int) : selfK (keyR rows b p) := by
  unfold keyR
  rcases placeR_is p rows 0 with h | ⟨j, h1, k, h2, h3⟩
  · rw [h, if_pos (by decide)]
    exact noKey_self
  · have hlm := heavy_mem (List.getElem_mem h1)
    rw [Nat.zero_add] at h2
    rw [h2]
    dsimp only
    have hj0 : ¬ (j : Int) < 0 := by omega
    rw [if_neg hj0, Int.toNat_natCast, ugetD rows _ h1]
    refine self_iv (IV_of (n := (j : Int)) (by omega)) (IV_of (n := if b ≠ 0 then ((rows[j].2.2.length : Nat) : Int) - (k : Int) - 1 else (k : Int)) ?_)
    split <;> omega
theorem spanK_self {rows : List RowT} (hr : rows.length + heavy rows ≤ 500) (b : Int) (s : Int × Int) : selfK (spanK rows b s) := by
  unfold spanK
  split
  · exact keyR_self hr b _
  · exact noKey_self
theorem u8_self {L : List (Nat × Nat)} (hl : L.length ≤ 60) (h : ∀ k ∈ L, selfK k) : U.f8F (L, L) = some true := by
  unfold U.f8F
  dsimp only
  rw [if_neg (by simp)]
  refine uex_to ?_
  refine bind_ex (Q := fun e : PUnit ⊕ Bool => e = .inl ()) (iter_rule (I := fun s : Int => ∃ i : Nat, s = (i : Int) ∧ i ≤ L.length) (fun s => ((L.length : Int) - s).toNat) ?_ _ ⟨0, rfl, Nat.zero_le _⟩) ?_
  · rintro _ ⟨i, rfl, hi⟩
    by_cases hil : i < L.length
    · have := h _ (List.getElem_mem hil)
      unfold selfK at this
      rw [if_pos (by rw [decide_eq_true_eq]; omega), if_pos (by omega), if_pos (by omega), wrap_i64 (by omega) (by omega), Int.toNat_natCast, ugetD L _ hil, this, if_neg (by decide)]
      exact .inl ⟨_, rfl, ⟨i + 1, by push_cast; rfl, hil⟩, by omega⟩
    · rw [if_neg (by rw [decide_eq_true_eq]; omega)]
      exact .inr ⟨_, rfl, rfl⟩
  · rintro _ rfl
    exact ⟨_, rfl, rfl⟩
theorem tourKeys_core (rows : List RowT) (ss : List (Int × Int)) (two : List Int) (h1 : rows.length ≤ 2 ^ 60) (h2 : ∀ r ∈ rows, r.2.2.length ≤ 2 ^ 60) : U.f3F (rows, ss, two) = some true := by
  unfold U.f3F
  rw [u6_alive]
  simp only [Option.bind_some, Bool.not_true, Bool.false_eq_true, if_false]
  obtain ⟨g, hg, hg2⟩ := u7_ok rows h1 h2
  rw [hg]
  simp only [Option.bind_some]
  cases g with
  | true => rw [if_pos rfl]; rfl
  | false =>
  have hh := hg2 rfl
  rw [if_neg (by decide)]
  simp only [Option.bind_some]
  by_cases hs : (ss.length : Int) > 60
  · rw [if_pos (by rw [decide_eq_true_eq]; exact hs)]
  rw [if_neg (by rw [decide_eq_true_eq]; exact hs)]
  have hs' : ss.length ≤ 60 := by omega
  have z : (0 : Int) ≤ 0 ∧ (0 : Int) < ((2 : Nat) : Int) := by decide
  have z1 : (0 : Int) ≤ 1 ∧ (1 : Int) < ((2 : Nat) : Int) := by decide
  simp only [if_pos z, if_pos z1]
  rw [u9_eq hh _ hs', u10_eq hh _ hs']
  simp only [Option.bind_some]
  rw [u8_self (by simpa using hs') (fun k hk => by obtain ⟨s, _, rfl⟩ := List.mem_map.1 hk; exact spanK_self hh _ s)]
  simp only [Option.bind_some, if_true]
  rw [u11_eq hh, u12_eq hh]
  simp only [Option.bind_some]
  have := keyR_self hh (two.getD 0 0) (two.getD 1 0)
  unfold selfK at this
  exact congrArg some this
theorem tourKeys_pure (x : List RowT × List (Int × Int) × List Int) (hw : wfTup [.sl (.st (.pair (.int .i64) (.pair (.int .i64) (.sl (.int .i64))))), .sl (.st (.pair (.int .i64) (.int .i64))), .arr 2 (.int .i64)] x)
    (hs : smTup [.sl (.st (.pair (.int .i64) (.pair (.int .i64) (.sl (.int .i64))))), .sl (.st (.pair (.int .i64) (.int .i64))), .arr 2 (.int .i64)] x) : U.f3F x = some true := by
  obtain ⟨rows, ss, two⟩ := x
  have h := fragRows_small hs.1
  exact tourKeys_core rows ss two h.1 h.2
end Go.Sx
