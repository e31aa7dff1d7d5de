/- Frag: what the functions tell is what the plain ones are. -/
import Derived.Test.YtpmbmobjnknnhaaGreatDoorSxFa
import Derived.Test.YtpmbmobjnknnhaaGreatDoorSxEA
set_option linter.unusedVariables false
set_option linter.unusedSimpArgs false
namespace Go.Sx
abbrev RowT := Int × Int × List Int
abbrev FrgT := Int × Int × Int
theorem fgetD {α : Type} (l : List α) (d : α) {i : Nat} (h : i < l.length) : l.getD i d = l[i] := by simp [List.getD_eq_getElem?_getD, h]
theorem fex_to {A : Type} {x : Option A} {v : A} (h : ∃ r, x = some r ∧ r = v) : x = some v := by
  obtain ⟨r, h, rfl⟩ := h
  exact h
theorem heavy_take {rows : List RowT} {i : Nat} (h : i < rows.length) : heavy (rows.take (i + 1)) = heavy (rows.take i) + rows[i].2.2.length := by
  unfold heavy
  rw [List.take_succ_eq_append_getElem h, List.map_append, List.sum_append]
  simp
theorem heavy_mem : ∀ {rows : List RowT} {r : RowT}, r ∈ rows → r.2.2.length ≤ heavy rows
  | x :: rows, r, h => by
    have e : heavy (x :: rows) = x.2.2.length + heavy rows := by simp [heavy]
    rcases List.mem_cons.1 h with rfl | h
    · omega
    · have := heavy_mem h
      omega
theorem r13_ok (rows : List RowT) (h1 : rows.length ≤ 2 ^ 60) (h2 : ∀ r ∈ rows, r.2.2.length ≤ 2 ^ 60) : ∃ b, R.f13F rows = some b ∧ (b = false → rows.length + heavy rows ≤ 500) := by
  unfold R.f13F
  refine bind_ex (Q := fun e : Int => ∃ n : Nat, e = (n : Int) ∧ (n ≤ 500 → rows.length + heavy rows ≤ 500)) (iter_rule (I := fun s : Int × Int => ∃ n i : Nat, s = ((n : Int), (i : Int)) ∧ i ≤ rows.length ∧ n = rows.length + heavy (rows.take i)) (fun s => ((rows.length : Int) - s.2).toNat) ?_ _ ⟨rows.length, 0, rfl, Nat.zero_le _, by simp [heavy]⟩) ?_
  · rintro _ ⟨n, i, rfl, hi, hn⟩
    dsimp only
    by_cases hil : i < rows.length
    · have hm := h2 _ (List.getElem_mem hil)
      rw [if_pos (by rw [decide_eq_true_eq]; omega)]
      simp only [Option.bind_some]
      by_cases h5 : n ≤ 500
      · rw [if_pos (by rw [decide_eq_true_eq]; omega), if_pos (by omega), Int.toNat_natCast, fgetD rows _ hil, wrap_i64 (x := (n : Int) + _) (by omega) (by omega), wrap_i64 (by omega) (by omega)]
        refine .inl ⟨_, rfl, ⟨n + rows[i].2.2.length, i + 1, by push_cast; rfl, hil, by rw [heavy_take hil]; omega⟩, by show ((rows.length : Int) - ((i : Int) + 1)).toNat < ((rows.length : Int) - (i : Int)).toNat; omega⟩
      · rw [if_neg (by rw [decide_eq_true_eq]; omega)]
        exact .inr ⟨_, rfl, n, rfl, fun h => absurd h h5⟩
    · rw [if_neg (by rw [decide_eq_true_eq]; omega)]
      simp only [Option.bind_some, Bool.false_eq_true, if_false]
      refine .inr ⟨_, rfl, n, rfl, fun h => ?_⟩
      rw [List.take_of_length_le (by omega)] at hn
      omega
  · rintro _ ⟨n, rfl, hn⟩
    exact ⟨_, rfl, fun h => hn (by rw [decide_eq_false_iff_not] at h; omega)⟩
theorem r31_eq (p a b : Int) : R.f31F (p, a, b) = some (inSp a b p, a, b) := by
  unfold R.f31F inSp
  dsimp only
  by_cases h : p ≥ a
  · rw [if_pos (by rw [decide_eq_true_eq]; exact h), decide_eq_true h]; rfl
  · rw [if_neg (by rw [decide_eq_true_eq]; exact h), decide_eq_false h]; rfl
theorem begs_le (q : Int → Bool) : ∀ (l : List Int) (b : Bool), begs q l b ≤ l.length
  | [], _ => Nat.le_refl _
  | p :: l, b => by
    have := begs_le q l (q p)
    simp only [begs, List.length_cons]
    split <;> omega
theorem frags_len_le (a b : Int) : ∀ (rows : List RowT) (i : Nat), (fragsR a b rows i).length ≤ heavy rows
  | [], _ => Nat.zero_le _
  | r :: rows, i => by
    have ih := frags_len_le a b rows (i + 1)
    have h1 := (len_runs (inSp a b) r.2.2 0).1
    have h2 := begs_le (inSp a b) r.2.2 false
    have e : heavy (r :: rows) = r.2.2.length + heavy rows := by simp [heavy]
    simp only [fragsR, List.length_append, List.length_map]
    omega
theorem runs_in {q : Int → Bool} {l : List Int} {k : Nat} (hk : k < l.length) (h : q l[k] = true) : runsO q (l.drop k) k none = (k, endR q (l.drop k) k) :: runsO q (l.drop (endR q (l.drop k) k + 1)) (endR q (l.drop k) k + 1) none ∧ k < endR q (l.drop k) k := by
  rw [List.drop_eq_getElem_cons hk]
  have hge := endR_ge q (l.drop (k + 1)) (k + 1)
  constructor
  · rw [runsO, if_pos h, runs_end q (l.drop (k + 1)) (k + 1) k, endR, if_pos h, List.drop_drop]
    congr 2
    congr 1
    omega
  · rw [endR, if_pos h]
    omega
def fm (i : Nat) (l : List (Nat × Nat)) : List FrgT := l.map fun x => ((i : Int), (x.1 : Int), (x.2 : Int))
theorem r14_eq {rows : List RowT} (hr : rows.length + heavy rows ≤ 500) (a b : Int) : R.f14F (rows, a, b) = some (fragsR a b rows 0) := by
  unfold R.f14F
  dsimp only
  generalize hR : fragsR a b rows 0 = T
  have hT : T.length ≤ 500 := by have := frags_len_le a b rows 0; rw [hR] at this; omega
  refine fex_to ?_
  refine bind_ex (Q := fun e : List FrgT => e = T) (iter_rule (I := fun s : Int × Int × Int × List FrgT => ∃ i : Nat, ∃ f : List FrgT, s = ((i : Int), a, b, f) ∧ i ≤ rows.length ∧ f ++ fragsR a b (rows.drop i) i = T) (fun s => ((rows.length : Int) - s.1).toNat) ?_ _ ⟨0, [], rfl, Nat.zero_le _, hR⟩) ?_
  rotate_left
  · rintro _ rfl
    exact ⟨_, rfl, rfl⟩
  rintro _ ⟨i, f, rfl, hi, hf⟩
  dsimp only
  by_cases hil : i < rows.length
  rotate_left
  · rw [if_neg (by rw [decide_eq_true_eq]; omega)]
    rw [List.drop_of_length_le (by omega)] at hf
    refine .inr ⟨_, rfl, ?_⟩
    rw [← hf]
    simp [fragsR]
  have hlm := heavy_mem (List.getElem_mem hil)
  rw [if_pos (by rw [decide_eq_true_eq]; omega), if_pos (by omega), Int.toNat_natCast, fgetD rows _ hil]
  rw [List.drop_eq_getElem_cons hil, fragsR] at hf
  generalize rows[i] = r at *
  obtain ⟨r1, r2, l⟩ := r
  dsimp only at hf hlm ⊢
  refine stp_bind (R := fun v : Int × Int × List FrgT => ∃ f : List FrgT, v = (a, b, f) ∧ f ++ fragsR a b (rows.drop (i + 1)) (i + 1) = T)
    (iter_rule (I := fun s : Int × Int × Int × Int × Int × List Int × List FrgT => ∃ k : Nat, ∃ f : List FrgT, s = ((k : Int), a, b, r1, r2, l, f) ∧ k ≤ l.length + 1 ∧ f ++ (fm i (runsO (inSp a b) (l.drop k) k none) ++ fragsR a b (rows.drop (i + 1)) (i + 1)) = T) (fun s => ((l.length : Int) + 1 - s.1).toNat) ?_ _ ⟨0, f, rfl, Nat.zero_le _, by rw [← hf]; simp [fm, List.append_assoc]⟩) ?_
  rotate_left
  · rintro _ ⟨f', rfl, hf'⟩
    dsimp only
    rw [wrap_i64 (by omega) (by omega)]
    exact .inl ⟨_, rfl, ⟨i + 1, f', rfl, hil, hf'⟩, by show ((rows.length : Int) - ((i : Int) + 1)).toNat < ((rows.length : Int) - (i : Int)).toNat; omega⟩
  clear hf f
  rintro _ ⟨k, f, rfl, hk, hf⟩
  dsimp only
  by_cases hkl : k < l.length
  rotate_left
  · rw [if_neg (by rw [decide_eq_true_eq]; omega)]
    rw [List.drop_of_length_le (by omega)] at hf
    exact .inr ⟨_, rfl, f, rfl, by rw [← hf]; simp [fm, runsO]⟩
  rw [if_pos (by rw [decide_eq_true_eq]; omega)]
  have hge := endR_ge (inSp a b) (l.drop k) k
  rw [List.length_drop] at hge
  refine stp_bind (R := fun v : Int × Int × Int × Int × Int × List Int × List FrgT => v = (((endR (inSp a b) (l.drop k) k : Nat) : Int), a, b, r1, r2, l, f))
    (iter_rule (I := fun s : Int × Int × Int × Int × Int × List Int × List FrgT => ∃ t : Nat, s = ((t : Int), a, b, r1, r2, l, f) ∧ k ≤ t ∧ t ≤ l.length ∧ endR (inSp a b) (l.drop t) t = endR (inSp a b) (l.drop k) k) (fun s => ((l.length : Int) - s.1).toNat) ?_ _ ⟨k, rfl, Nat.le_refl _, by omega, rfl⟩) ?_
  · rintro _ ⟨t, rfl, ht1, ht2, ht3⟩
    dsimp only
    by_cases htl : t < l.length
    · rw [if_pos (by rw [decide_eq_true_eq]; omega), if_pos (by omega), Int.toNat_natCast, fgetD l _ htl, r31_eq]
      simp only [Option.bind_some]
      rw [List.drop_eq_getElem_cons htl, endR] at ht3
      cases hq : inSp a b l[t] with
      | true =>
        rw [if_pos hq] at ht3
        rw [if_pos rfl, wrap_i64 (by omega) (by omega)]
        exact .inl ⟨_, rfl, ⟨t + 1, rfl, by omega, htl, ht3⟩, by show ((l.length : Int) - ((t : Int) + 1)).toNat < ((l.length : Int) - (t : Int)).toNat; omega⟩
      | false =>
        rw [if_neg (by rw [hq]; decide)] at ht3
        rw [if_neg (by decide), ← ht3]
        exact .inr ⟨_, rfl, rfl⟩
    · rw [if_neg (by rw [decide_eq_true_eq]; omega)]
      simp only [Option.bind_some, Bool.false_eq_true, if_false]
      rw [List.drop_of_length_le (by omega), endR] at ht3
      rw [← ht3]
      exact .inr ⟨_, rfl, rfl⟩
  rintro _ rfl
  dsimp only
  cases hq : inSp a b l[k] with
  | true =>
    obtain ⟨e1, e2⟩ := runs_in hkl hq
    rw [e1] at hf
    generalize endR (inSp a b) (l.drop k) k = E at *
    have hlen := congrArg List.length hf
    simp only [List.length_append, fm, List.map_cons, List.length_cons] at hlen
    rw [if_pos (by rw [decide_eq_true_eq]; omega), if_pos (by unfold roomOk; omega), wrap_i64 (by omega) (by omega)]
    refine .inl ⟨_, rfl, ⟨E + 1, f ++ [((i : Int), (k : Int), (E : Int))], rfl, by omega, ?_⟩, by show ((l.length : Int) + 1 - ((E : Int) + 1)).toNat < ((l.length : Int) + 1 - (k : Int)).toNat; omega⟩
    rw [← hf]
    simp [fm, List.append_assoc]
  | false =>
    have e1 : endR (inSp a b) (l.drop k) k = k := by rw [List.drop_eq_getElem_cons hkl, endR, if_neg (by rw [hq]; decide)]
    have e2 : runsO (inSp a b) (l.drop k) k none = runsO (inSp a b) (l.drop (k + 1)) (k + 1) none := by rw [List.drop_eq_getElem_cons hkl, runsO, if_neg (by rw [hq]; decide)]
    rw [e1, if_neg (by rw [decide_eq_true_eq]; omega), wrap_i64 (by omega) (by omega)]
    rw [e2] at hf
    exact .inl ⟨_, rfl, ⟨k + 1, f, rfl, by omega, hf⟩, by show ((l.length : Int) + 1 - ((k : Int) + 1)).toNat < ((l.length : Int) + 1 - (k : Int)).toNat; omega⟩
theorem frags_small (a b : Int) : ∀ (rows : List RowT) (i : Nat), ∀ f ∈ fragsR a b rows i, 0 ≤ f.2.1 ∧ f.2.1 ≤ f.2.2 ∧ f.2.2 ≤ heavy rows
  | [], _, f, h => by simp [fragsR] at h
  | r :: rows, i, f, h => by
    have e : heavy (r :: rows) = r.2.2.length + heavy rows := by simp [heavy]
    rw [fragsR] at h
    rcases List.mem_append.1 h with h | h
    · obtain ⟨x, hx, rfl⟩ := List.mem_map.1 h
      have := (runs_pos (inSp a b) r.2.2 0).1 x hx
      dsimp only
      omega
    · have := frags_small a b rows (i + 1) f h
      omega
theorem colsF_take {F : List FrgT} {i : Nat} (h : i < F.length) : colsF (F.take (i + 1)) = colsF (F.take i) + max 0 (F[i].2.2 - F[i].2.1) := by
  rw [List.take_succ_eq_append_getElem h, colsF_app]
  simp [colsF]
theorem fmaxI (a b : Int) : maxI a b = max a b := by
  unfold maxI
  split <;> omega
theorem r19_eq {F : List FrgT} (hl : F.length ≤ 500) (hs : ∀ f ∈ F, 0 ≤ f.2.1 ∧ f.2.1 ≤ f.2.2 ∧ f.2.2 ≤ 500) : R.f19F F = some (colsF F) ∧ 0 ≤ colsF F ∧ colsF F ≤ 250000 := by
  have hb : ∀ i : Nat, i ≤ F.length → 0 ≤ colsF (F.take i) ∧ colsF (F.take i) ≤ i * 500 := by
    intro i
    induction i with
    | zero => intro _; simp [colsF]
    | succ i ih =>
      intro hi
      have h1 := ih (by omega)
      have h2 := hs F[i] (List.getElem_mem (by omega))
      rw [colsF_take (by omega)]
      omega
  have hall := hb F.length (Nat.le_refl _)
  rw [List.take_length] at hall
  refine ⟨?_, by omega, by omega⟩
  unfold R.f19F
  refine fex_to ?_
  refine bind_ex (Q := fun e : Int => e = colsF F) (iter_rule (I := fun s : Int × Int => ∃ i : Nat, s = (colsF (F.take i), (i : Int)) ∧ i ≤ F.length) (fun s => ((F.length : Int) - s.2).toNat) ?_ _ ⟨0, rfl, Nat.zero_le _⟩) ?_
  · rintro _ ⟨i, rfl, hi⟩
    dsimp only
    by_cases hil : i < F.length
    · have h1 := hb i hi
      have h2 := hs F[i] (List.getElem_mem hil)
      rw [if_pos (by rw [decide_eq_true_eq]; omega), if_pos (by omega), Int.toNat_natCast, fgetD F _ hil, wrap_i64 (x := F[i].2.2 - F[i].2.1) (by omega) (by omega), fmaxI, wrap_i64 (by omega) (by omega), wrap_i64 (x := (i : Int) + 1) (by omega) (by omega)]
      exact .inl ⟨_, rfl, ⟨i + 1, by rw [colsF_take hil]; rfl, hil⟩, by show ((F.length : Int) - ((i : Int) + 1)).toNat < ((F.length : Int) - (i : Int)).toNat; omega⟩
    · rw [if_neg (by rw [decide_eq_true_eq]; omega)]
      refine .inr ⟨_, rfl, ?_⟩
      rw [List.take_of_length_le (by omega)]
  · rintro _ rfl
    exact ⟨_, rfl, rfl⟩
end Go.Sx
