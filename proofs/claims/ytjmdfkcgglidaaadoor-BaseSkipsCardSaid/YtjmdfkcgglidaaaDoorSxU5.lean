import Derived.Test.YtjmdfkcgglidaaaDoorSxU4
set_option linter.unusedVariables false
set_option linter.unusedSimpArgs false
namespace Go.Sx
theorem scan_cons (c : Int) (l : List Int) (d k : Nat) : scan (c :: l) d k = if c = 10 then -1 else if opens c then scan l (d + 1) (k + 1) else if c = 22 then (if d = 1 then (k : Int) else scan l (d - 1) (k + 1)) else scan l d (k + 1) := rfl
theorem scan_pass : ∀ (i : Nat) (l : List Int) (d k : Nat), 1 ≤ d → ((k + i : Nat) : Int) ≤ scan l d k → ∃ d', 1 ≤ d' ∧ scan l d k = scan (l.drop i) d' (k + i)
  | 0, l, d, k, hd, _ => ⟨d, hd, rfl⟩
  | i + 1, [], d, k, _, h => by simp [scan] at h; omega
  | i + 1, c :: l, d, k, hd, h => by
    have e : k + (i + 1) = k + 1 + i := by omega
    rw [e] at h ⊢
    simp only [List.drop_succ_cons]
    rw [scan_cons] at h ⊢
    split
    · rename_i hc; rw [if_pos hc] at h; omega
    · rename_i hc
      rw [if_neg hc] at h
      split
      · rename_i ho
        rw [if_pos ho] at h
        exact scan_pass i l _ _ (by omega) h
      · rename_i ho
        rw [if_neg ho] at h
        split
        · rename_i hp
          rw [if_pos hp] at h
          split
          · rename_i h1
            rw [if_pos h1] at h
            omega
          · rename_i h1
            rw [if_neg h1] at h
            exact scan_pass i l _ _ (by omega) h
        · rename_i hp
          rw [if_neg hp] at h
          exact scan_pass i l _ _ hd h
theorem endOf_inner {l : List Int} {i j : Nat} (hij : i < j) (hj : j < l.length) (ho : opens l[j] = true) (h : (j : Int) < endOf l i) : endOf l j ≠ endOf l i := by
  intro he
  unfold endOf at h he
  obtain ⟨d, hd, e⟩ := scan_pass (j - (i + 1)) (l.drop (i + 1)) 1 (i + 1) (Nat.le_refl 1) (by omega)
  rw [List.drop_drop, show i + 1 + (j - (i + 1)) = j by omega, drop_cons hj] at e
  have h10 : ¬ l[j] = 10 := by intro e; rw [e] at ho; simp [opens] at ho
  conv at e => rhs; unfold scan
  rw [if_neg h10, if_pos ho] at e
  rw [e] at he
  exact scan_apart _ _ (d + 1) _ (by omega) (by omega) (by rw [he, ← e]; omega) he.symm
theorem endOf_inj {l : List Int} {i j k : Nat} (hi : i < l.length) (hj : j < l.length) (hoi : opens l[i] = true) (hoj : opens l[j] = true) (h1 : endOf l i = k) (h2 : endOf l j = k) : i = j := by
  rcases Nat.lt_trichotomy i j with h | h | h
  · rcases endOf_gt l j with h3 | h3
    · omega
    · exact absurd (h2.trans h1.symm) (endOf_inner h hj hoj (by omega))
  · exact h
  · rcases endOf_gt l i with h3 | h3
    · omega
    · exact absurd (h1.trans h2.symm) (endOf_inner h hi hoi (by omega))
theorem IsMatch.unique {l m m' : List Int} (h : IsMatch l m) (h' : IsMatch l m') : m = m' := by
  apply List.ext_getElem (by rw [h.len, h'.len])
  intro k h1 h2
  have hk : k < l.length := by rw [← h.len]; exact h1
  have e1 : m.getD k 0 = m[k] := by simp [List.getD_eq_getElem?_getD, h1]
  have e2 : m'.getD k 0 = m'[k] := by simp [List.getD_eq_getElem?_getD, h2]
  rw [← e1, ← e2]
  cases ho : opens l[k] with
  | true => rw [h.op k hk ho, h'.op k hk ho]
  | false =>
    rcases h.no k hk ho with ⟨j, a1, ⟨a2, a3⟩, a4, a5⟩ | ⟨a1, a2⟩
    · rcases h'.no k hk ho with ⟨j', b1, ⟨b2, b3⟩, b4, b5⟩ | ⟨b1, b2⟩
      · rw [a5, b5, endOf_inj a2 b2 a3 b3 a4 b4]
      · exact absurd a4 (b2 j a2 a3)
    · rcases h'.no k hk ho with ⟨j', b1, ⟨b2, b3⟩, b4, b5⟩ | ⟨b1, b2⟩
      · exact absurd b4 (a2 j' b2 b3)
      · rw [a1, b1]
def beginOf (l : List Int) (k : Nat) : Int :=
  match (List.range k).find? fun j => opens (l.getD j 0) && endOf l j == k with
  | some j => j
  | none => -1
def matchS (l : List Int) : List Int := (List.range l.length).map fun k => if opens (l.getD k 0) = true then endOf l k else beginOf l k
theorem matchS_ok (l : List Int) : IsMatch l (matchS l) := by
  have hg : ∀ k (h : k < l.length), (matchS l).getD k 0 = if opens (l.getD k 0) = true then endOf l k else beginOf l k := by
    intro k h
    simp [matchS, List.getD_eq_getElem?_getD, h]
  have hl : ∀ k (h : k < l.length), l.getD k 0 = l[k] := fun k h => by simp [List.getD_eq_getElem?_getD, h]
  refine ⟨by simp [matchS], fun j h ho => ?_, fun k h ho => ?_⟩
  · rw [hg j h, hl j h, if_pos ho]
  · rw [hg k h, hl k h, if_neg (by rw [ho]; simp)]
    unfold beginOf
    split
    · rename_i j hj
      have h1 := List.find?_some hj
      have h2 := List.mem_range.1 (List.mem_of_find?_eq_some hj)
      simp only [Bool.and_eq_true, beq_iff_eq] at h1
      have hjl : j < l.length := by omega
      rw [hl j hjl] at h1
      exact .inl ⟨j, h2, ⟨hjl, h1.1⟩, h1.2, rfl⟩
    · rename_i hn
      refine .inr ⟨rfl, fun j hj ho' he => ?_⟩
      have hlt : j < k := by rcases endOf_gt l j with h3 | h3 <;> omega
      have := List.find?_eq_none.1 hn j (List.mem_range.2 hlt)
      simp only [Bool.and_eq_true, beq_iff_eq, not_and] at this
      exact this (by rw [hl j hj]; exact ho') he
theorem f14_eq {l : List Int} (hl : l.length ≤ 100000) : G.f14F l = some (matchS l) := by
  obtain ⟨m, h1, h2⟩ := f14_ok l hl
  rw [h1, h2.unique (matchS_ok l)]
theorem f13_eq (a b : List Int) (hl : a.length ≤ 9223372036854775807) : G.f13F (a, b) = some (decide (a = b)) := by
  unfold G.f13F
  by_cases hab : a.length = b.length
  · rw [if_neg (by simp [hab])]
    suffices h : ∃ r, Option.bind (iter (fun s1 : Int => if decide (s1 < (a.length : Int)) = true then (if (0 : Int) ≤ s1 ∧ s1 < (a.length : Int) then (if (0 : Int) ≤ s1 ∧ s1 < (b.length : Int) then (if (a.getD s1.toNat 0 != b.getD s1.toNat 0) = true then some (Sum.inr (Sum.inr false)) else some (Sum.inl (IntKind.i64.wrap (s1 + 1)))) else none) else none) else some (Sum.inr (Sum.inl ()))) (0 : Int))
        (fun (v1 : Unit ⊕ Bool) => Sum.elim (fun _ => some true) (fun q => some q) v1) = some r ∧ r = decide (a = b) by
      obtain ⟨r, h1, rfl⟩ := h
      exact h1
    refine bind_ex (iter_rule (I := fun (s : Int) => ∃ i : Nat, s = (i : Int) ∧ i ≤ a.length ∧ a.take i = b.take i) (Q := fun e => Sum.elim (fun _ => true) (fun q => q) e = decide (a = b))
      (fun (s : Int) => ((a.length : Int) - s).toNat) ?_ _ ?_) ?_
    · rintro _ ⟨i, rfl, hi, ht⟩
      by_cases h : i < a.length
      · have hb : i < b.length := by omega
        rw [if_pos (by simp; omega), if_pos (by omega), if_pos (by omega)]
        simp only [Int.toNat_natCast]
        have ea : a.getD i 0 = a[i] := by simp [List.getD_eq_getElem?_getD, h]
        have eb : b.getD i 0 = b[i] := by simp [List.getD_eq_getElem?_getD, hb]
        simp only [ea, eb]
        by_cases he : a[i] = b[i]
        · rw [if_neg (by simp [he]), wrap_i64 (by omega) (by omega)]
          refine .inl ⟨_, rfl, ⟨i + 1, by omega, by omega, ?_⟩, by omega⟩
          rw [List.take_succ_eq_append_getElem h, List.take_succ_eq_append_getElem hb, ht, he]
        · rw [if_pos (by simpa using he)]
          refine .inr ⟨_, rfl, ?_⟩
          simp only [Sum.elim_inr]
          symm
          rw [decide_eq_false_iff_not]
          intro e
          subst e
          exact he rfl
      · rw [if_neg (by simp; omega)]
        refine .inr ⟨_, rfl, ?_⟩
        simp only [Sum.elim_inl]
        symm
        rw [decide_eq_true_eq]
        rw [List.take_of_length_le (by omega), List.take_of_length_le (by omega)] at ht
        exact ht
    · exact ⟨0, rfl, Nat.zero_le _, rfl⟩
    · intro e he
      cases e with
      | inl u => exact ⟨_, rfl, he⟩
      | inr q => exact ⟨_, rfl, he⟩
  · rw [if_pos (by simp; omega)]
    congr 1
    symm
    rw [decide_eq_false_iff_not]
    intro e
    subst e
    exact hab rfl
end Go.Sx
