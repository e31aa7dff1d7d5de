/- Frag: the reference's fragments and places; the law FragAnswers. -/
import Derived.Test.YtpmbmobjnknnhaaGreatDoorSxFb
import Derived.Test.YtpmbmobjnknnhaaGreatDoorSxRz
set_option linter.unusedVariables false
set_option linter.unusedSimpArgs false
namespace Go.Sx
def opn (i k : Nat) : Option Nat → List FrgT
  | none => []
  | some s => [((i : Int), (s : Int), (k : Int))]
theorem last_app {α : Type} (pre : List α) (x d : α) : (pre ++ [x]).getD pre.length d = x := by
  rw [List.getD_eq_getElem?_getD, List.getElem?_append_right (Nat.le_refl _)]
  simp
theorem set_app {α : Type} (pre : List α) (x y : α) : (pre ++ [x]).set pre.length y = pre ++ [y] := by
  rw [List.set_append_right _ _ (Nat.le_refl _)]
  simp
theorem tail_is {pre : List FrgT} {i k : Nat} (h : ∀ x ∈ pre, x.1 < (i : Int) ∨ (x.1 = i ∧ x.2.2 < (k : Int))) (hn : 0 < pre.length) : (pre.getD (pre.length - 1) (0, 0, 0)).1 ≠ (i : Int) ∨ (pre.getD (pre.length - 1) (0, 0, 0)).2.2 ≠ (k : Int) := by
  rw [fgetD _ _ (by omega)]
  rcases h _ (List.getElem_mem (by omega : pre.length - 1 < pre.length)) with h | ⟨_, h⟩
  · exact .inl (by omega)
  · exact .inr (by omega)
theorem r15_eq {rows : List RowT} (hr : rows.length + heavy rows ≤ 500) (a b : Int) : R.f15F (rows, a, b) = some (fragsR a b rows 0) := by
  unfold R.f15F
  dsimp only
  generalize hR : fragsR a b rows 0 = T
  have hT : T.length ≤ 500 := by have := frags_len_le a b rows 0; rw [hR] at this; omega
  refine fex_to ?_
  refine bind_ex (Q := fun e : List FrgT => e = T) (iter_rule (I := fun s : Int × Int × Int × List FrgT => ∃ i : Nat, ∃ f : List FrgT, s = ((i : Int), a, b, f) ∧ i ≤ rows.length ∧ (∀ x ∈ f, x.1 < (i : Int)) ∧ f ++ fragsR a b (rows.drop i) i = T) (fun s => ((rows.length : Int) - s.1).toNat) ?_ _ ⟨0, [], rfl, Nat.zero_le _, by simp, hR⟩) ?_
  rotate_left
  · rintro _ rfl
    exact ⟨_, rfl, rfl⟩
  rintro _ ⟨i, f, rfl, hi, hlt, hf⟩
  dsimp only
  by_cases hil : i < rows.length
  rotate_left
  · rw [if_neg (by rw [decide_eq_true_eq]; omega)]
    rw [List.drop_of_length_le (by omega)] at hf
    refine .inr ⟨_, rfl, ?_⟩
    rw [← hf]
    simp [fragsR]
  have hlm := heavy_mem (List.getElem_mem hil)
  rw [if_pos (by rw [decide_eq_true_eq]; omega), if_pos (by omega), Int.toNat_natCast, fgetD rows _ hil]
  rw [List.drop_eq_getElem_cons hil, fragsR] at hf
  generalize rows[i] = r at *
  obtain ⟨r1, r2, l⟩ := r
  dsimp only at hf hlm ⊢
  refine stp_bind (R := fun v : Int × Int × List FrgT => ∃ f : List FrgT, v = (a, b, f) ∧ (∀ x ∈ f, x.1 < (i : Int) + 1) ∧ f ++ fragsR a b (rows.drop (i + 1)) (i + 1) = T)
    (iter_rule (I := fun s : Int × Int × Int × List FrgT => ∃ (k : Nat) (pre : List FrgT) (o : Option Nat), s = ((k : Int), a, b, pre ++ opn i k o) ∧ k ≤ l.length ∧ (∀ x ∈ pre, x.1 < (i : Int) ∨ (x.1 = i ∧ x.2.2 < (k : Int))) ∧ pre ++ (fm i (runsO (inSp a b) (l.drop k) k o) ++ fragsR a b (rows.drop (i + 1)) (i + 1)) = T) (fun s => ((l.length : Int) - s.1).toNat) ?_ _ ⟨0, f, none, by simp [opn], Nat.zero_le _, fun x hx => .inl (hlt x hx), by rw [← hf]; simp [fm, List.append_assoc]⟩) ?_
  rotate_left
  · rintro _ ⟨f', rfl, hlt', hf'⟩
    dsimp only
    rw [wrap_i64 (by omega) (by omega)]
    exact .inl ⟨_, rfl, ⟨i + 1, f', rfl, hil, fun x hx => by have := hlt' x hx; push_cast; exact this, hf'⟩, by show ((rows.length : Int) - ((i : Int) + 1)).toNat < ((rows.length : Int) - (i : Int)).toNat; omega⟩
  clear hf hlt
  rintro _ ⟨k, pre, o, rfl, hk, hpre, hf⟩
  dsimp only
  by_cases hkl : k < l.length
  rotate_left
  · rw [if_neg (by rw [decide_eq_true_eq]; omega)]
    rw [List.drop_of_length_le (by omega)] at hf
    refine .inr ⟨_, rfl, _, rfl, fun x hx => ?_, ?_⟩
    · rcases List.mem_append.1 hx with hx | hx
      · rcases hpre x hx with h | ⟨h, _⟩ <;> omega
      · cases o with
        | none => simp [opn] at hx
        | some s => simp [opn] at hx; subst hx; dsimp only; omega
    · rw [← hf]
      cases o <;> simp [runsO, fm, opn, List.append_assoc]
  rw [if_pos (by rw [decide_eq_true_eq]; omega), if_pos (by omega), Int.toNat_natCast, fgetD l _ hkl]
  rw [List.drop_eq_getElem_cons hkl] at hf
  generalize l[k] = p at *
  have hout : inSp a b p = false → ∃ (pre' : List FrgT) (o' : Option Nat), pre ++ opn i k o = pre' ++ opn i (k + 1) o' ∧ (∀ x ∈ pre', x.1 < (i : Int) ∨ (x.1 = i ∧ x.2.2 < ((k + 1 : Nat) : Int))) ∧ pre' ++ (fm i (runsO (inSp a b) (l.drop (k + 1)) (k + 1) o') ++ fragsR a b (rows.drop (i + 1)) (i + 1)) = T := by
    intro hq
    refine ⟨pre ++ opn i k o, none, by simp [opn], fun x hx => ?_, ?_⟩
    · rcases List.mem_append.1 hx with hx | hx
      · rcases hpre x hx with h | ⟨h, h2⟩
        · exact .inl h
        · exact .inr ⟨h, by omega⟩
      · cases o with
        | none => simp [opn] at hx
        | some s => simp [opn] at hx; subst hx; exact .inr ⟨rfl, by dsimp only; omega⟩
    · rw [← hf]
      cases o with
      | none => rw [runsO, if_neg (by rw [hq]; decide)]; simp [opn]
      | some s => rw [runsO, if_neg (by rw [hq]; decide)]; simp [opn, fm, List.append_assoc]
  have hdown : ((l.length : Int) - ((k : Int) + 1)).toNat < ((l.length : Int) - (k : Int)).toNat := by omega
  by_cases hpa : p < a
  · rw [if_pos (by rw [decide_eq_true_eq]; exact hpa)]
    simp only [Option.bind_some]
    rw [if_pos trivial, wrap_i64 (by omega) (by omega)]
    obtain ⟨pre', o', e1, e2, e3⟩ := hout (by unfold inSp; rw [decide_eq_false (by omega)]; rfl)
    exact .inl ⟨_, rfl, ⟨k + 1, pre', o', by rw [e1]; push_cast; rfl, hkl, e2, e3⟩, hdown⟩
  rw [if_neg (by rw [decide_eq_true_eq]; exact hpa), if_pos (by omega)]
  simp only [Option.bind_some]
  by_cases hpb : p ≥ b
  · rw [if_pos (by rw [decide_eq_true_eq]; exact hpb), wrap_i64 (by omega) (by omega)]
    obtain ⟨pre', o', e1, e2, e3⟩ := hout (by unfold inSp; rw [decide_eq_true (by omega : p ≥ a), decide_eq_false (by omega)]; rfl)
    exact .inl ⟨_, rfl, ⟨k + 1, pre', o', by rw [e1]; push_cast; rfl, hkl, e2, e3⟩, hdown⟩
  rw [if_neg (by rw [decide_eq_true_eq]; exact hpb)]
  have hq : inSp a b p = true := by unfold inSp; rw [decide_eq_true (by omega : p ≥ a), decide_eq_true (by omega : p < b)]; rfl
  clear hout
  have hlen := congrArg List.length hf
  have hk1 : IntKind.i64.wrap ((k : Int) + 1) = (k : Int) + 1 := wrap_i64 (by omega) (by omega)
  cases o with
  | some s =>
    rw [runsO, if_pos hq] at hf
    have hge := (len_runs (inSp a b) (l.drop (k + 1)) (k + 1)).2 s
    rw [runsO, if_pos hq] at hlen
    simp only [List.length_append, fm, List.length_map] at hlen
    have hF1 : (pre ++ opn i k (some s)).getD pre.length (0, 0, 0) = ((i : Int), (s : Int), (k : Int)) := last_app _ _ _
    have hF2 : ∀ y, (pre ++ opn i k (some s)).set pre.length y = pre ++ [y] := set_app _ _
    have hF3 : ((pre ++ opn i k (some s)).length : Int) = (pre.length : Int) + 1 := by simp [opn]
    generalize pre ++ opn i k (some s) = F at *
    have hF4 : IntKind.i64.wrap ((F.length : Int) - 1) = (pre.length : Int) := by rw [wrap_i64 (by omega) (by omega)]; omega
    have hF5 : 0 ≤ (pre.length : Int) ∧ (pre.length : Int) < (F.length : Int) := by omega
    have hyes : (if decide ((F.length : Int) > 0) = true then if 0 ≤ IntKind.i64.wrap ((F.length : Int) - 1) ∧ IntKind.i64.wrap ((F.length : Int) - 1) < (F.length : Int) then if ((F.getD (IntKind.i64.wrap ((F.length : Int) - 1)).toNat (0, 0, 0)).1 == (i : Int)) = true then if 0 ≤ IntKind.i64.wrap ((F.length : Int) - 1) ∧ IntKind.i64.wrap ((F.length : Int) - 1) < (F.length : Int) then some ((F.getD (IntKind.i64.wrap ((F.length : Int) - 1)).toNat (0, 0, 0)).2.2 == (k : Int), a, b, F) else none else some (false, a, b, F) else none else some (false, a, b, F)) = some (true, a, b, F) := by
      rw [if_pos (by rw [decide_eq_true_eq]; omega)]
      simp only [hF4, if_pos hF5, Int.toNat_natCast, hF1, beq_self_eq_true, if_true]
    rw [hyes]
    simp only [Option.bind_some, if_true, hF4, if_pos hF5, Int.toNat_natCast, hF1, hF2, hk1]
    refine .inl ⟨_, rfl, ⟨k + 1, pre, some s, by simp only [opn]; push_cast; rfl, hkl, fun x hx => ?_, hf⟩, hdown⟩
    rcases hpre x hx with h | ⟨h, h2⟩
    · exact .inl h
    · exact .inr ⟨h, by omega⟩
  | none =>
    rw [runsO, if_pos hq] at hf
    have hge := (len_runs (inSp a b) (l.drop (k + 1)) (k + 1)).2 k
    rw [runsO, if_pos hq] at hlen
    simp only [List.length_append, fm, List.length_map] at hlen
    simp only [opn, List.append_nil]
    have hnot : (if decide ((pre.length : Int) > 0) = true then if 0 ≤ IntKind.i64.wrap ((pre.length : Int) - 1) ∧ IntKind.i64.wrap ((pre.length : Int) - 1) < (pre.length : Int) then if ((pre.getD (IntKind.i64.wrap ((pre.length : Int) - 1)).toNat (0, 0, 0)).1 == (i : Int)) = true then if 0 ≤ IntKind.i64.wrap ((pre.length : Int) - 1) ∧ IntKind.i64.wrap ((pre.length : Int) - 1) < (pre.length : Int) then some ((pre.getD (IntKind.i64.wrap ((pre.length : Int) - 1)).toNat (0, 0, 0)).2.2 == (k : Int), a, b, pre) else none else some (false, a, b, pre) else none else some (false, a, b, pre)) = some (false, a, b, pre) := by
      by_cases hn : 0 < pre.length
      · have h1 : IntKind.i64.wrap ((pre.length : Int) - 1) = (pre.length : Int) - 1 := wrap_i64 (by omega) (by omega)
        have h2 : 0 ≤ (pre.length : Int) - 1 ∧ (pre.length : Int) - 1 < (pre.length : Int) := by omega
        have h3 : ((pre.length : Int) - 1).toNat = pre.length - 1 := by omega
        have h4 : decide ((pre.length : Int) > 0) = true := by rw [decide_eq_true_eq]; omega
        rcases tail_is hpre hn with h | h
        · simp only [h1, if_pos h2, h3, h4, if_true, beq_eq_false_iff_ne.2 h, Bool.false_eq_true, if_false]
        · simp only [h1, if_pos h2, h3, h4, if_true, beq_eq_false_iff_ne.2 h]
          split <;> rfl
      · rw [if_neg (by rw [decide_eq_true_eq]; omega)]
    rw [hnot]
    simp only [Option.bind_some]
    rw [if_neg (by decide), if_pos (by unfold roomOk; omega), hk1]
    refine .inl ⟨_, rfl, ⟨k + 1, pre, some k, by simp only [opn]; push_cast; rfl, hkl, fun x hx => ?_, hf⟩, hdown⟩
    rcases hpre x hx with h | ⟨h, h2⟩
    · exact .inl h
    · exact .inr ⟨h, by omega⟩
def idxO (p : Int) : List Int → Nat → Option Nat
  | [], _ => none
  | x :: l, k => if x = p then some k else idxO p l (k + 1)
def placeR (p : Int) : List RowT → Nat → Int × Int
  | [], _ => (-1, -1)
  | r :: rows, i => match idxO p r.2.2 0 with
    | some k => ((i : Int), (k : Int))
    | none => placeR p rows (i + 1)
theorem r32_eq {l : List Int} (hl : l.length ≤ 500) (p : Int) : R.f32F (l, p) = some (match idxO p l 0 with
    | some k => (k : Int)
    | none => -1) := by
  unfold R.f32F
  dsimp only
  refine fex_to ?_
  refine bind_ex (Q := fun e : PUnit ⊕ Int => e = match idxO p l 0 with
    | some k => .inr (k : Int)
    | none => .inl ()) (iter_rule (I := fun s : Int => ∃ i : Nat, s = (i : Int) ∧ i ≤ l.length ∧ idxO p (l.drop i) i = idxO p l 0) (fun s => ((l.length : Int) - s).toNat) ?_ _ ⟨0, rfl, Nat.zero_le _, rfl⟩) ?_
  · rintro _ ⟨i, rfl, hi, h⟩
    by_cases hil : i < l.length
    · rw [if_pos (by rw [decide_eq_true_eq]; omega), if_pos (by omega), Int.toNat_natCast, fgetD l _ hil]
      rw [List.drop_eq_getElem_cons hil, idxO] at h
      by_cases he : l[i] = p
      · rw [if_pos he] at h
        rw [if_pos (by rw [beq_iff_eq]; exact he.symm), ← h]
        exact .inr ⟨_, rfl, rfl⟩
      · rw [if_neg he] at h
        rw [if_neg (by rw [beq_iff_eq]; exact fun h => he h.symm), wrap_i64 (by omega) (by omega)]
        exact .inl ⟨_, rfl, ⟨i + 1, by push_cast; rfl, hil, h⟩, by omega⟩
    · rw [if_neg (by rw [decide_eq_true_eq]; omega)]
      rw [List.drop_of_length_le (by omega), idxO] at h
      rw [← h]
      exact .inr ⟨_, rfl, rfl⟩
  · rintro _ rfl
    cases idxO p l 0 <;> exact ⟨_, rfl, rfl⟩
theorem r16_eq {rows : List RowT} (hr : rows.length + heavy rows ≤ 500) (p : Int) : R.f16F (rows, p) = some (placeR p rows 0) := by
  unfold R.f16F
  dsimp only
  refine fex_to ?_
  refine bind_ex (Q := fun e : PUnit ⊕ (Int × Int) => Sum.elim (fun _ => ((-1 : Int), (-1 : Int))) (fun q => q) e = placeR p rows 0) (iter_rule (I := fun s : Int => ∃ i : Nat, s = (i : Int) ∧ i ≤ rows.length ∧ placeR p (rows.drop i) i = placeR p rows 0) (fun s => ((rows.length : Int) - s).toNat) ?_ _ ⟨0, rfl, Nat.zero_le _, rfl⟩) ?_
  · rintro _ ⟨i, rfl, hi, h⟩
    by_cases hil : i < rows.length
    · have hlm := heavy_mem (List.getElem_mem hil)
      rw [if_pos (by rw [decide_eq_true_eq]; omega), if_pos (by omega), Int.toNat_natCast, fgetD rows _ hil, r32_eq (by omega)]
      rw [List.drop_eq_getElem_cons hil, placeR] at h
      simp only [Option.bind_some]
      cases hx : idxO p rows[i].2.2 0 with
      | some k =>
        rw [hx] at h
        dsimp only at h ⊢
        rw [if_pos (by rw [decide_eq_true_eq]; exact Int.natCast_nonneg k)]
        exact .inr ⟨_, rfl, h⟩
      | none =>
        rw [hx] at h
        dsimp only at h ⊢
        rw [if_neg (by decide), wrap_i64 (by omega) (by omega)]
        exact .inl ⟨_, rfl, ⟨i + 1, by push_cast; rfl, hil, h⟩, by omega⟩
    · rw [if_neg (by rw [decide_eq_true_eq]; omega)]
      rw [List.drop_of_length_le (by omega), placeR] at h
      exact .inr ⟨_, rfl, h⟩
  · rintro e he
    rw [← he]
    cases e <;> exact ⟨_, rfl, rfl⟩
theorem r17_eq {rows : List RowT} (hr : rows.length + heavy rows ≤ 500) (p : Int) : R.f17F (rows, p) = some (placeR p rows 0) := by
  unfold R.f17F
  dsimp only
  refine fex_to ?_
  refine bind_ex (Q := fun e : PUnit ⊕ (Int × Int) => Sum.elim (fun _ => ((-1 : Int), (-1 : Int))) (fun q => q) e = placeR p rows 0) (iter_rule (I := fun s : Int => ∃ i : Nat, s = (i : Int) ∧ i ≤ rows.length ∧ placeR p (rows.drop i) i = placeR p rows 0) (fun s => ((rows.length : Int) - s).toNat) ?_ _ ⟨0, rfl, Nat.zero_le _, rfl⟩) ?_
  · rintro _ ⟨i, rfl, hi, h⟩
    by_cases hil : i < rows.length
    · have hlm := heavy_mem (List.getElem_mem hil)
      have hb : 0 ≤ (i : Int) ∧ (i : Int) < rows.length := by omega
      rw [if_pos (by rw [decide_eq_true_eq]; omega)]
      simp only [if_pos hb]
      rw [Int.toNat_natCast, fgetD rows _ hil]
      rw [List.drop_eq_getElem_cons hil, placeR] at h
      generalize rows[i] = r at *
      obtain ⟨r1, r2, l⟩ := r
      dsimp only at h hlm ⊢
      refine stp_bind (R := fun e : PUnit ⊕ (Int × Int) => e = match idxO p l 0 with
        | some k => .inr ((i : Int), (k : Int))
        | none => .inl ()) (iter_rule (I := fun s : Int => ∃ k : Nat, s = (k : Int) ∧ k ≤ l.length ∧ idxO p (l.drop k) k = idxO p l 0) (fun s => ((l.length : Int) - s).toNat) ?_ _ ⟨0, rfl, Nat.zero_le _, rfl⟩) ?_
      · rintro _ ⟨k, rfl, hk, h⟩
        by_cases hkl : k < l.length
        · rw [if_pos (by rw [decide_eq_true_eq]; omega), if_pos (by omega), Int.toNat_natCast, fgetD l _ hkl]
          rw [List.drop_eq_getElem_cons hkl, idxO] at h
          by_cases he : l[k] = p
          · rw [if_pos he] at h
            rw [if_pos (by rw [beq_iff_eq]; exact he), ← h]
            exact .inr ⟨_, rfl, rfl⟩
          · rw [if_neg he] at h
            rw [if_neg (by rw [beq_iff_eq]; exact he), wrap_i64 (by omega) (by omega)]
            exact .inl ⟨_, rfl, ⟨k + 1, by push_cast; rfl, hkl, h⟩, by omega⟩
        · rw [if_neg (by rw [decide_eq_true_eq]; omega)]
          rw [List.drop_of_length_le (by omega), idxO] at h
          rw [← h]
          exact .inr ⟨_, rfl, rfl⟩
      · rintro _ rfl
        cases hx : idxO p l 0 with
        | some k =>
          rw [hx] at h
          exact .inr ⟨_, rfl, h⟩
        | none =>
          rw [hx] at h
          refine .inl ⟨_, rfl, ⟨i + 1, ?_, hil, h⟩, ?_⟩
          · rw [wrap_i64 (by omega) (by omega)]; push_cast; rfl
          · rw [wrap_i64 (by omega) (by omega)]; omega
    · rw [if_neg (by rw [decide_eq_true_eq]; omega)]
      rw [List.drop_of_length_le (by omega), placeR] at h
      exact .inr ⟨_, rfl, h⟩
  · rintro e he
    rw [← he]
    cases e <;> exact ⟨_, rfl, rfl⟩
theorem trip_same (x : FrgT) : Ty.eqb (Ty.st (Ty.pair (Ty.int IntKind.i64) (Ty.pair (Ty.int IntKind.i64) (Ty.int IntKind.i64)))) x x = true := by
  obtain ⟨a, b, c⟩ := x
  show (a == a && (b == b && c == c)) = true
  simp
theorem r18_self {F : List FrgT} (hl : F.length ≤ 500) : R.f18F (F, F) = some true := by
  unfold R.f18F
  dsimp only
  rw [if_neg (by simp)]
  refine fex_to ?_
  refine bind_ex (Q := fun e : PUnit ⊕ Bool => e = .inl ()) (iter_rule (I := fun s : Int => ∃ i : Nat, s = (i : Int) ∧ i ≤ F.length) (fun s => ((F.length : Int) - s).toNat) ?_ _ ⟨0, rfl, Nat.zero_le _⟩) ?_
  · rintro _ ⟨i, rfl, hi⟩
    by_cases hil : i < F.length
    · rw [if_pos (by rw [decide_eq_true_eq]; omega), if_pos (by omega), if_pos (by omega), wrap_i64 (by omega) (by omega), if_neg (by rw [trip_same]; decide)]
      exact .inl ⟨_, rfl, ⟨i + 1, by push_cast; rfl, hil⟩, by omega⟩
    · rw [if_neg (by rw [decide_eq_true_eq]; omega)]
      exact .inr ⟨_, rfl, rfl⟩
  · rintro _ rfl
    exact ⟨_, rfl, rfl⟩
theorem r20_eq (F : List FrgT) : R.f20F F = R.f19F F := by
  unfold R.f20F R.f19F
  congr 2
  funext s
  split
  · split <;> rfl
  · rfl
theorem fragAnswers_core (rows : List RowT) (s : Int × Int) (p : Int) (h1 : rows.length ≤ 2 ^ 60) (h2 : ∀ r ∈ rows, r.2.2.length ≤ 2 ^ 60) : R.f4F (rows, s, p) = some true := by
  unfold R.f4F
  rw [r9_alive]
  simp only [Option.bind_some, Bool.not_true, Bool.false_eq_true, if_false]
  obtain ⟨g, hg, hg2⟩ := r13_ok rows h1 h2
  rw [hg]
  simp only [Option.bind_some]
  cases g with
  | true => rw [if_pos (by rfl)]
  | false =>
  have hh := hg2 rfl
  rw [if_neg (by decide), r14_eq hh, r15_eq hh, r16_eq hh, r17_eq hh]
  simp only [Option.bind_some]
  have hL := frags_len_le s.1 s.2 rows 0
  rw [r18_self (by omega)]
  simp only [Option.bind_some]
  rw [r20_eq, (r19_eq (F := fragsR s.1 s.2 rows 0) (by omega) fun f hf => by
    have := frags_small s.1 s.2 rows 0 f hf
    omega).1]
  simp
theorem fragRows_small {rows : List RowT} (h : (Ty.sl (.st (.pair (.int .i64) (.pair (.int .i64) (.sl (.int .i64)))))).sm rows) : rows.length ≤ 2 ^ 60 ∧ ∀ r ∈ rows, r.2.2.length ≤ 2 ^ 60 := by
  have e : reachBytes ≤ 2 ^ 60 := by decide
  refine ⟨Nat.le_trans h.1 e, fun r hr => ?_⟩
  have := h.2 r hr
  exact Nat.le_trans this.2.2.1 e
theorem fragAnswers_pure (x : List RowT × (Int × Int) × Int) (hw : wfTup [.sl (.st (.pair (.int .i64) (.pair (.int .i64) (.sl (.int .i64))))), .st (.pair (.int .i64) (.int .i64)), .int .i64] x)
    (hs : smTup [.sl (.st (.pair (.int .i64) (.pair (.int .i64) (.sl (.int .i64))))), .st (.pair (.int .i64) (.int .i64)), .int .i64] x) : R.f4F x = some true := by
  obtain ⟨rows, s, p⟩ := x
  have h := fragRows_small hs.1
  exact fragAnswers_core rows s p h.1 h.2
end Go.Sx
