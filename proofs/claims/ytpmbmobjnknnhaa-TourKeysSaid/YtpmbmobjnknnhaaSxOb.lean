/- Tour: how great rows are, where a place is seen: what the told functions of layer 24 are. -/
import Derived.Test.YtpmbmobjnknnhaaSxTUa
import Derived.Test.YtpmbmobjnknnhaaSxRz
import Derived.Test.YtpmbmobjnknnhaaSxEv
set_option linter.unusedVariables false
set_option linter.unusedSimpArgs false
namespace Go.Sx
abbrev RowT := Int × Int × List Int
theorem ugetD {α : Type} (l : List α) (d : α) {i : Nat} (h : i < l.length) : l.getD i d = l[i] := by simp [List.getD_eq_getElem?_getD, h]
theorem uex_to {A : Type} {x : Option A} {v : A} (h : ∃ r, x = some r ∧ r = v) : x = some v := by
  obtain ⟨r, h, rfl⟩ := h
  exact h
def heavy (rows : List (Int × Int × List Int)) : Nat := (rows.map fun r => r.2.2.length).sum
theorem heavy_take {rows : List RowT} {i : Nat} (h : i < rows.length) : heavy (rows.take (i + 1)) = heavy (rows.take i) + rows[i].2.2.length := by
  unfold heavy
  rw [List.take_succ_eq_append_getElem h, List.map_append, List.sum_append]
  simp
theorem heavy_mem : ∀ {rows : List RowT} {r : RowT}, r ∈ rows → r.2.2.length ≤ heavy rows
  | x :: rows, r, h => by
    have e : heavy (x :: rows) = x.2.2.length + heavy rows := by simp [heavy]
    rcases List.mem_cons.1 h with rfl | h
    · omega
    · have := heavy_mem h
      omega
theorem u7_ok (rows : List RowT) (h1 : rows.length ≤ 2 ^ 60) (h2 : ∀ r ∈ rows, r.2.2.length ≤ 2 ^ 60) : ∃ b, U.f7F rows = some b ∧ (b = false → rows.length + heavy rows ≤ 500) := by
  unfold U.f7F
  refine bind_ex (Q := fun e : Int => ∃ n : Nat, e = (n : Int) ∧ (n ≤ 500 → rows.length + heavy rows ≤ 500)) (iter_rule (I := fun s : Int × Int => ∃ n i : Nat, s = ((n : Int), (i : Int)) ∧ i ≤ rows.length ∧ n = rows.length + heavy (rows.take i)) (fun s => ((rows.length : Int) - s.2).toNat) ?_ _ ⟨rows.length, 0, rfl, Nat.zero_le _, by simp [heavy]⟩) ?_
  · rintro _ ⟨n, i, rfl, hi, hn⟩
    dsimp only
    by_cases hil : i < rows.length
    · have hm := h2 _ (List.getElem_mem hil)
      rw [if_pos (by rw [decide_eq_true_eq]; omega)]
      simp only [Option.bind_some]
      by_cases h5 : n ≤ 500
      · rw [if_pos (by rw [decide_eq_true_eq]; omega), if_pos (by omega), Int.toNat_natCast, ugetD rows _ hil, wrap_i64 (x := (n : Int) + _) (by omega) (by omega), wrap_i64 (by omega) (by omega)]
        refine .inl ⟨_, rfl, ⟨n + rows[i].2.2.length, i + 1, by push_cast; rfl, hil, by rw [heavy_take hil]; omega⟩, by show ((rows.length : Int) - ((i : Int) + 1)).toNat < ((rows.length : Int) - (i : Int)).toNat; omega⟩
      · rw [if_neg (by rw [decide_eq_true_eq]; omega)]
        exact .inr ⟨_, rfl, n, rfl, fun h => absurd h h5⟩
    · rw [if_neg (by rw [decide_eq_true_eq]; omega)]
      simp only [Option.bind_some, Bool.false_eq_true, if_false]
      refine .inr ⟨_, rfl, n, rfl, fun h => ?_⟩
      rw [List.take_of_length_le (by omega)] at hn
      omega
  · rintro _ ⟨n, rfl, hn⟩
    exact ⟨_, rfl, fun h => hn (by rw [decide_eq_false_iff_not] at h; omega)⟩
def idxO (p : Int) : List Int → Nat → Option Nat
  | [], _ => none
  | x :: l, k => if x = p then some k else idxO p l (k + 1)
def placeR (p : Int) : List RowT → Nat → Int × Int
  | [], _ => (-1, -1)
  | r :: rows, i => match idxO p r.2.2 0 with
    | some k => ((i : Int), (k : Int))
    | none => placeR p rows (i + 1)
theorem u37_eq {l : List Int} (hl : l.length ≤ 500) (p : Int) : U.f37F (l, p) = some (match idxO p l 0 with
    | some k => (k : Int)
    | none => -1) := by
  unfold U.f37F
  dsimp only
  refine uex_to ?_
  refine bind_ex (Q := fun e : PUnit ⊕ Int => e = match idxO p l 0 with
    | some k => .inr (k : Int)
    | none => .inl ()) (iter_rule (I := fun s : Int => ∃ i : Nat, s = (i : Int) ∧ i ≤ l.length ∧ idxO p (l.drop i) i = idxO p l 0) (fun s => ((l.length : Int) - s).toNat) ?_ _ ⟨0, rfl, Nat.zero_le _, rfl⟩) ?_
  · rintro _ ⟨i, rfl, hi, h⟩
    by_cases hil : i < l.length
    · rw [if_pos (by rw [decide_eq_true_eq]; omega), if_pos (by omega), Int.toNat_natCast, ugetD l _ hil]
      rw [List.drop_eq_getElem_cons hil, idxO] at h
      by_cases he : l[i] = p
      · rw [if_pos he] at h
        rw [if_pos (by rw [beq_iff_eq]; exact he.symm), ← h]
        exact .inr ⟨_, rfl, rfl⟩
      · rw [if_neg he] at h
        rw [if_neg (by rw [beq_iff_eq]; exact fun h => he h.symm), wrap_i64 (by omega) (by omega)]
        exact .inl ⟨_, rfl, ⟨i + 1, by push_cast; rfl, hil, h⟩, by omega⟩
    · rw [if_neg (by rw [decide_eq_true_eq]; omega)]
      rw [List.drop_of_length_le (by omega), idxO] at h
      rw [← h]
      exact .inr ⟨_, rfl, rfl⟩
  · rintro _ rfl
    cases idxO p l 0 <;> exact ⟨_, rfl, rfl⟩
theorem u23_eq {rows : List RowT} (hr : rows.length + heavy rows ≤ 500) (p : Int) : U.f23F (rows, p) = some (placeR p rows 0) := by
  unfold U.f23F
  dsimp only
  refine uex_to ?_
  refine bind_ex (Q := fun e : PUnit ⊕ (Int × Int) => Sum.elim (fun _ => ((-1 : Int), (-1 : Int))) (fun q => q) e = placeR p rows 0) (iter_rule (I := fun s : Int => ∃ i : Nat, s = (i : Int) ∧ i ≤ rows.length ∧ placeR p (rows.drop i) i = placeR p rows 0) (fun s => ((rows.length : Int) - s).toNat) ?_ _ ⟨0, rfl, Nat.zero_le _, rfl⟩) ?_
  · rintro _ ⟨i, rfl, hi, h⟩
    by_cases hil : i < rows.length
    · have hlm := heavy_mem (List.getElem_mem hil)
      rw [if_pos (by rw [decide_eq_true_eq]; omega), if_pos (by omega), Int.toNat_natCast, ugetD rows _ hil, u37_eq (by omega)]
      rw [List.drop_eq_getElem_cons hil, placeR] at h
      simp only [Option.bind_some]
      cases hx : idxO p rows[i].2.2 0 with
      | some k =>
        rw [hx] at h
        dsimp only at h ⊢
        rw [if_pos (by rw [decide_eq_true_eq]; exact Int.natCast_nonneg k)]
        exact .inr ⟨_, rfl, h⟩
      | none =>
        rw [hx] at h
        dsimp only at h ⊢
        rw [if_neg (by decide), wrap_i64 (by omega) (by omega)]
        exact .inl ⟨_, rfl, ⟨i + 1, by push_cast; rfl, hil, h⟩, by omega⟩
    · rw [if_neg (by rw [decide_eq_true_eq]; omega)]
      rw [List.drop_of_length_le (by omega), placeR] at h
      exact .inr ⟨_, rfl, h⟩
  · rintro e he
    rw [← he]
    cases e <;> exact ⟨_, rfl, rfl⟩
theorem u24_eq {rows : List RowT} (hr : rows.length + heavy rows ≤ 500) (p : Int) : U.f24F (rows, p) = some (placeR p rows 0) := by
  unfold U.f24F
  dsimp only
  refine uex_to ?_
  refine bind_ex (Q := fun e : PUnit ⊕ (Int × Int) => Sum.elim (fun _ => ((-1 : Int), (-1 : Int))) (fun q => q) e = placeR p rows 0) (iter_rule (I := fun s : Int => ∃ i : Nat, s = (i : Int) ∧ i ≤ rows.length ∧ placeR p (rows.drop i) i = placeR p rows 0) (fun s => ((rows.length : Int) - s).toNat) ?_ _ ⟨0, rfl, Nat.zero_le _, rfl⟩) ?_
  · rintro _ ⟨i, rfl, hi, h⟩
    by_cases hil : i < rows.length
    · have hlm := heavy_mem (List.getElem_mem hil)
      have hb : 0 ≤ (i : Int) ∧ (i : Int) < rows.length := by omega
      rw [if_pos (by rw [decide_eq_true_eq]; omega)]
      simp only [if_pos hb]
      rw [Int.toNat_natCast, ugetD rows _ hil]
      rw [List.drop_eq_getElem_cons hil, placeR] at h
      generalize rows[i] = r at *
      obtain ⟨r1, r2, l⟩ := r
      dsimp only at h hlm ⊢
      refine stp_bind (R := fun e : PUnit ⊕ (Int × Int) => e = match idxO p l 0 with
        | some k => .inr ((i : Int), (k : Int))
        | none => .inl ()) (iter_rule (I := fun s : Int => ∃ k : Nat, s = (k : Int) ∧ k ≤ l.length ∧ idxO p (l.drop k) k = idxO p l 0) (fun s => ((l.length : Int) - s).toNat) ?_ _ ⟨0, rfl, Nat.zero_le _, rfl⟩) ?_
      · rintro _ ⟨k, rfl, hk, h⟩
        by_cases hkl : k < l.length
        · rw [if_pos (by rw [decide_eq_true_eq]; omega), if_pos (by omega), Int.toNat_natCast, ugetD l _ hkl]
          rw [List.drop_eq_getElem_cons hkl, idxO] at h
          by_cases he : l[k] = p
          · rw [if_pos he] at h
            rw [if_pos (by rw [beq_iff_eq]; exact he), ← h]
            exact .inr ⟨_, rfl, rfl⟩
          · rw [if_neg he] at h
            rw [if_neg (by rw [beq_iff_eq]; exact he), wrap_i64 (by omega) (by omega)]
            exact .inl ⟨_, rfl, ⟨k + 1, by push_cast; rfl, hkl, h⟩, by omega⟩
        · rw [if_neg (by rw [decide_eq_true_eq]; omega)]
          rw [List.drop_of_length_le (by omega), idxO] at h
          rw [← h]
          exact .inr ⟨_, rfl, rfl⟩
      · rintro _ rfl
        cases hx : idxO p l 0 with
        | some k =>
          rw [hx] at h
          exact .inr ⟨_, rfl, h⟩
        | none =>
          rw [hx] at h
          refine .inl ⟨_, rfl, ⟨i + 1, ?_, hil, h⟩, ?_⟩
          · rw [wrap_i64 (by omega) (by omega)]; push_cast; rfl
          · rw [wrap_i64 (by omega) (by omega)]; omega
    · rw [if_neg (by rw [decide_eq_true_eq]; omega)]
      rw [List.drop_of_length_le (by omega), placeR] at h
      exact .inr ⟨_, rfl, h⟩
  · rintro e he
    rw [← he]
    cases e <;> exact ⟨_, rfl, rfl⟩
theorem fragRows_small {rows : List RowT} (h : (Ty.sl (.st (.pair (.int .i64) (.pair (.int .i64) (.sl (.int .i64)))))).sm rows) : rows.length ≤ 2 ^ 60 ∧ ∀ r ∈ rows, r.2.2.length ≤ 2 ^ 60 := by
  have e : reachBytes ≤ 2 ^ 60 := by decide
  refine ⟨Nat.le_trans h.1 e, fun r hr => ?_⟩
  have := h.2 r hr
  exact Nat.le_trans this.2.2.1 e
end Go.Sx
