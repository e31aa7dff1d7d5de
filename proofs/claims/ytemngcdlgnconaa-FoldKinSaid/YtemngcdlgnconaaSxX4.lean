import Derived.Test.YtemngcdlgnconaaSxX3
set_option linter.unusedVariables false
set_option linter.unusedSimpArgs false
namespace Go.Sx

theorem rise_get {l : List Int} (h : l.Pairwise (· < ·)) {i j : Nat} (hj : j < l.length) (hij : i < j) : l[i] < l[j] :=
  List.pairwise_iff_getElem.1 h i j (by omega) hj hij

/-- 'put'. -/
theorem h50_ok {l : List Int} (n : Int) (hl : l.length ≤ 100000) (hr : l.Pairwise (· < ·)) : ∃ r, H.f50F (l, n) = some r ∧ r.Pairwise (· < ·) ∧ (∀ k, k ∈ r ↔ k ∈ l ∨ k = n) ∧ r.length ≤ l.length + 1 := by
  unfold H.f50F
  refine bind_ex (iter_rule (I := fun (t : Int) => ∃ i : Nat, t = (i : Int) ∧ i ≤ l.length ∧ ∀ x ∈ l.take i, x < n) (Q := fun e => ∃ i : Nat, e = (i : Int) ∧ i ≤ l.length ∧ (∀ x ∈ l.take i, x < n) ∧ ∀ x ∈ l.drop i, n ≤ x)
    (fun (t : Int) => ((l.length : Int) - t).toNat) ?_ _ ⟨0, rfl, Nat.zero_le _, fun x hx => by simp at hx⟩) ?_
  · rintro _ ⟨i, rfl, hi, hp⟩
    dsimp only
    by_cases hil : i < l.length
    · have hg : l.getD i 0 = l[i] := by simp [List.getD_eq_getElem?_getD, hil]
      rw [if_pos (by rw [decide_eq_true_eq]; omega), if_pos (by omega), Int.toNat_natCast, hg]
      simp only [Option.bind_some]
      by_cases hlt : l[i] < n
      · rw [if_pos (by rw [decide_eq_true_eq]; exact hlt), wrap_i64 (by omega) (by omega)]
        refine .inl ⟨_, rfl, ⟨i + 1, by omega, hil, fun x hx => ?_⟩, by omega⟩
        rw [List.take_succ_eq_append_getElem hil] at hx
        rcases List.mem_append.1 hx with hx | hx
        · exact hp x hx
        · simp at hx; subst hx; exact hlt
      · rw [if_neg (by rw [decide_eq_true_eq]; exact hlt)]
        refine .inr ⟨_, rfl, i, rfl, hi, hp, fun x hx => ?_⟩
        obtain ⟨j, hj, rfl⟩ := List.mem_iff_getElem.1 hx
        rw [List.getElem_drop]
        rw [List.length_drop] at hj
        by_cases h0 : j = 0
        · subst h0; simp; omega
        · have := rise_get hr (show i + j < l.length by omega) (show i < i + j by omega)
          omega
    · rw [if_neg (by rw [decide_eq_true_eq]; omega)]
      simp only [Option.bind_some, Bool.false_eq_true, if_false]
      exact .inr ⟨_, rfl, i, rfl, hi, hp, fun x hx => by rw [List.drop_of_length_le (by omega)] at hx; simp at hx⟩
  · rintro _ ⟨i, rfl, hi, hp, hq⟩
    dsimp only
    -- it goes in
    have ins : (∀ x ∈ l.drop i, n < x) → ∃ r, (if (0 : Int) ≤ i ∧ (i : Int) ≤ l.length then (if roomOk (0 + (List.take (Int.toNat i) l).length) 8 then (if roomOk (([] ++ List.take (Int.toNat i) l).length + [n].length) 8 then (if (0 : Int) ≤ i ∧ (i : Int) ≤ l.length then
        (if roomOk (([] ++ List.take (Int.toNat i) l ++ [n]).length + (List.drop (Int.toNat i) l).length) 8 then some ([] ++ List.take (Int.toNat i) l ++ [n] ++ List.drop (Int.toNat i) l) else none) else none) else none) else none) else none) = some r ∧ r.Pairwise (· < ·) ∧ (∀ k, k ∈ r ↔ k ∈ l ∨ k = n) ∧ r.length ≤ l.length + 1 := by
      intro hq'
      rw [if_pos (by omega), if_pos (by unfold roomOk; simp; omega), if_pos (by unfold roomOk; simp; omega), if_pos (by omega), if_pos (by unfold roomOk; simp; omega), Int.toNat_natCast]
      refine ⟨_, rfl, ?_, fun k => ?_, by simp; omega⟩
      · rw [List.nil_append, List.append_assoc, List.pairwise_append]
        refine ⟨hr.sublist (List.take_sublist _ _), ?_, fun a ha b hb => ?_⟩
        · rw [List.singleton_append, List.pairwise_cons]
          exact ⟨fun b hb => hq' b hb, hr.sublist (List.drop_sublist _ _)⟩
        · rw [List.singleton_append] at hb
          have := hp a ha
          rcases List.mem_cons.1 hb with hb | hb
          · omega
          · have := hq' b hb; omega
      · simp only [List.nil_append, List.mem_append, List.mem_singleton]
        constructor
        · rintro ((h | h) | h)
          · exact .inl (List.mem_of_mem_take h)
          · exact .inr h
          · exact .inl (List.mem_of_mem_drop h)
        · rintro (h | h)
          · rw [← List.take_append_drop i l, List.mem_append] at h
            rcases h with h | h
            · exact .inl (.inl h)
            · exact .inr h
          · exact .inl (.inr h)
    by_cases hil : i < l.length
    · have hg : l.getD i 0 = l[i] := by simp [List.getD_eq_getElem?_getD, hil]
      rw [if_pos (by rw [decide_eq_true_eq]; omega), if_pos (by omega), Int.toNat_natCast, hg]
      simp only [Option.bind_some]
      have hd : l.drop i = l[i] :: l.drop (i + 1) := List.drop_eq_getElem_cons hil
      by_cases he : l[i] = n
      · rw [if_pos (by rw [beq_iff_eq]; exact he)]
        refine ⟨l, rfl, hr, fun k => ⟨.inl, ?_⟩, by omega⟩
        rintro (h | h)
        · exact h
        · subst h; rw [← he]; exact List.getElem_mem hil
      · rw [if_neg (by rw [beq_iff_eq]; exact he)]
        have := ins fun x hx => by
          have h1 := hq x hx
          have h2 := hq l[i] (hd ▸ List.mem_cons_self)
          rw [hd] at hx
          rcases List.mem_cons.1 hx with hx | hx
          · subst hx; omega
          · obtain ⟨j, hj, rfl⟩ := List.mem_iff_getElem.1 hx
            rw [List.getElem_drop]
            rw [List.length_drop] at hj
            have := rise_get hr (show i + 1 + j < l.length by omega) (show i < i + 1 + j by omega)
            omega
        simpa only [Int.toNat_natCast] using this
    · rw [if_neg (by rw [decide_eq_true_eq]; omega)]
      simp only [Option.bind_some, Bool.false_eq_true, if_false]
      exact ins fun x hx => by rw [List.drop_of_length_le (by omega)] at hx; simp at hx

/-- 'ref.Kin'. -/
theorem h30_ok (c : Int) : ∃ r, H.f30F c = some r ∧ r.Pairwise (· < ·) ∧ (∀ k, k ∈ r ↔ foldS k = foldS c) := by
  unfold H.f30F
  have hid := foldS_idem c
  simp only [h23_eq, Option.bind_some]
  refine bind_ex (iter_rule (I := fun (s : List Int × Int) => ∃ i : Nat, s.2 = (i : Int) ∧ i ≤ 7936 ∧ s.1.Pairwise (· < ·) ∧ s.1.length ≤ i ∧ ∀ k : Int, k ∈ s.1 ↔ 0 ≤ k ∧ k < i ∧ k ≠ c ∧ k ≠ foldS c ∧ foldS k ≠ k ∧ foldS k = foldS c)
    (Q := fun (e : List Int) => e.Pairwise (· < ·) ∧ e.length ≤ 7936 ∧ ∀ k : Int, k ∈ e ↔ 0 ≤ k ∧ k < 7936 ∧ k ≠ c ∧ k ≠ foldS c ∧ foldS k ≠ k ∧ foldS k = foldS c) (fun s => ((7936 : Int) - s.2).toNat) ?_ _ ⟨0, rfl, by omega, List.Pairwise.nil, Nat.le_refl 0, fun k => ⟨fun h => by simp at h, fun h => by omega⟩⟩) ?_
  · rintro ⟨l, q⟩ ⟨i, hq, hi, hr, hl, hm⟩
    simp only at hq hr hl hm ⊢
    subst hq
    by_cases hil : i < 7936
    · rw [if_pos (by rw [decide_eq_true_eq]; omega), wrap_i64 (by omega) (by omega)]
      -- is it one?
      have hcond : (if ((i : Int) != c) = true then (if ((i : Int) != foldS c) = true then (if (foldS (i : Int) != (i : Int)) = true then some (foldS (i : Int) == foldS c) else some false) else some false) else some false) =
          some (decide ((i : Int) ≠ c ∧ (i : Int) ≠ foldS c ∧ foldS (i : Int) ≠ i ∧ foldS (i : Int) = foldS c)) := by
        by_cases h1 : (i : Int) = c
        · simp [h1]
        by_cases h2 : (i : Int) = foldS c
        · simp [h1, h2]
        by_cases h3 : foldS (i : Int) = i
        · simp [h1, h2, h3]
        · simp [h1, h2, h3]; rw [Bool.eq_iff_iff]; simp
      rw [hcond]
      simp only [Option.bind_some]
      by_cases hc : (i : Int) ≠ c ∧ (i : Int) ≠ foldS c ∧ foldS (i : Int) ≠ i ∧ foldS (i : Int) = foldS c
      · rw [if_pos (by rw [decide_eq_true_eq]; exact hc)]
        obtain ⟨r, h1, h2, h3, h4⟩ := h50_ok (l := l) (i : Int) (by omega) hr
        simp only [h1, Option.bind_some]
        refine .inl ⟨_, rfl, ⟨i + 1, rfl, hil, h2, by show r.length ≤ i + 1; omega, fun k => ?_⟩, by show ((7936 : Int) - ((i : Int) + 1)).toNat < ((7936 : Int) - (i : Int)).toNat; omega⟩
        show k ∈ r ↔ _
        rw [h3 k, hm k]
        constructor
        · rintro (h | h)
          · exact ⟨h.1, by omega, h.2.2⟩
          · subst h; exact ⟨by omega, by omega, hc⟩
        · rintro ⟨g1, g2, g3⟩
          by_cases hki : k = i
          · exact .inr hki
          · exact .inl ⟨g1, by omega, g3⟩
      · rw [if_neg (by rw [decide_eq_true_eq]; exact hc)]
        refine .inl ⟨_, rfl, ⟨i + 1, rfl, hil, hr, by show l.length ≤ i + 1; omega, fun k => ?_⟩, by show ((7936 : Int) - ((i : Int) + 1)).toNat < ((7936 : Int) - (i : Int)).toNat; omega⟩
        show k ∈ l ↔ _
        rw [hm k]
        constructor
        · rintro ⟨g1, g2, g3⟩; exact ⟨g1, by omega, g3⟩
        · rintro ⟨g1, g2, g3⟩
          by_cases hki : k = i
          · subst hki; exact absurd g3 hc
          · exact ⟨g1, by omega, g3⟩
    · have : i = 7936 := by omega
      subst this
      rw [if_neg (by rw [decide_eq_true_eq]; omega)]
      exact .inr ⟨_, rfl, hr, hl, hm⟩
  · rintro l ⟨hr, hl, hm⟩
    obtain ⟨r1, a1, a2, a3, a4⟩ := h50_ok (l := l) c (by omega) hr
    obtain ⟨r2, b1, b2, b3, b4⟩ := h50_ok (l := r1) (foldS c) (by omega) a2
    simp only [a1, b1, Option.bind_some]
    refine ⟨r2, rfl, b2, fun k => ?_⟩
    rw [b3, a3, hm]
    constructor
    · rintro ((h | h) | h)
      · exact h.2.2.2.2.2
      · rw [h]
      · rw [h, hid]
    · intro h
      by_cases h1 : k = c
      · exact .inl (.inr h1)
      by_cases h2 : k = foldS c
      · exact .inr h2
      have h3 : foldS k ≠ k := fun e => h2 (by rw [← h, e])
      have := foldS_turned h3
      exact .inl (.inl ⟨by omega, by omega, h1, h2, h3, h⟩)

theorem aliveF : H.f21F () = some true := by
  unfold H.f21F
  obtain ⟨r, h1, h2, h3, _⟩ := h29_ok 963 (by omega)
  have hr : r = [931, 962, 963] := by
    refine rise_ext h2 (by decide) fun k => ?_
    rw [h3 k, foldS_iff]
    have e1 : foldS 963 = 963 := by decide
    have e2 : pres strs 963 = [931, 962] := by decide
    rw [e1, e2]
    simp [e1]
    omega
  subst hr
  have a1 : foldS 65 = 97 := by decide
  have a2 : foldS 962 = 963 := by decide
  simp only [h22_eq, a1, a2, h1, Option.bind_some, beq_self_eq_true, if_true, h24_eq [931, 962, 963] [931, 962, 963] (by simp), decide_true, h25_eq (l := [65, 49]) (by simp), h27_eq (a := [65]) (b := [97]) (by simp), h27_eq (a := [65]) (b := [98]) (by simp)]
  have a3 : List.map foldS [65, 49] = [97, 49] := by decide
  have a4 : decide (List.map foldS [65] = List.map foldS [97]) = true := by decide
  have a5 : decide (List.map foldS [65] = List.map foldS [98]) = false := by decide
  rw [a3, h24_eq [97, 49] [97, 49] (by simp), a4, a5]
  simp

theorem foldAnswers_pure (x : Int × List Int × List Int) (h : wfTup [.int .i64, .sl (.int .i64), .sl (.int .i64)] x) : H.f7F x = some true := by
  obtain ⟨c, a, b⟩ := x
  have hc : -9223372036854775808 ≤ c ∧ c ≤ 9223372036854775807 := by
    have := h.1
    simpa [Ty.wf, IntKind.min, IntKind.max, IntKind.signed, IntKind.bits] using this
  unfold H.f7F
  rw [aliveF]
  simp only [Option.bind_some, Bool.not_true, Bool.false_eq_true, if_false]
  by_cases h1 : (a.length : Int) > 5000
  · rw [if_pos (by rw [decide_eq_true_eq]; exact h1)]; rfl
  rw [if_neg (by rw [decide_eq_true_eq]; exact h1)]
  simp only [Option.bind_some]
  by_cases h2 : (b.length : Int) > 5000
  · rw [if_pos (by rw [decide_eq_true_eq]; exact h2)]
  rw [if_neg (by rw [decide_eq_true_eq]; exact h2)]
  obtain ⟨r, k1, k2, k3, k4⟩ := h29_ok c hc
  obtain ⟨r', q1, q2, q3⟩ := h30_ok c
  have hrr : r = r' := rise_ext k2 q2 fun k => by rw [k3, q3]
  subst hrr
  simp only [h22_eq, h23_eq, Option.bind_some, beq_self_eq_true, if_true, h25_eq (show a.length ≤ 100000 by omega), h26_eq (show a.length ≤ 100000 by omega), h24_eq _ _ (show (a.map foldS).length ≤ 9223372036854775807 by simp; omega), decide_true,
    h27_eq (a := a) (b := b) (by omega), h28_eq (a := a) (b := b) (by omega) (by omega), k1, q1, h24_eq r r (by omega)]

theorem foldSames_pure (x : List Int × List Int) (h : wfTup [.sl (.int .i64), .sl (.int .i64)] x) : H.f9F x = some true := by
  obtain ⟨a, b⟩ := x
  unfold H.f9F
  rw [aliveF]
  simp only [Option.bind_some, Bool.not_true, Bool.false_eq_true, if_false]
  by_cases h1 : (a.length : Int) > 1000
  · rw [if_pos (by rw [decide_eq_true_eq]; exact h1)]; rfl
  rw [if_neg (by rw [decide_eq_true_eq]; exact h1)]
  simp only [Option.bind_some]
  by_cases h2 : (b.length : Int) > 1000
  · rw [if_pos (by rw [decide_eq_true_eq]; exact h2)]
  rw [if_neg (by rw [decide_eq_true_eq]; exact h2)]
  have hmm : (a.map foldS).map foldS = a.map foldS := by rw [List.map_map]; congr 1; funext c; exact foldS_idem c
  have hsym : decide (b.map foldS = a.map foldS) = decide (a.map foldS = b.map foldS) := by rw [decide_eq_decide]; exact ⟨Eq.symm, Eq.symm⟩
  simp only [h25_eq (show a.length ≤ 100000 by omega), h25_eq (show b.length ≤ 100000 by omega), Option.bind_some, List.length_map, beq_self_eq_true, if_true, h27_eq (a := a) (b := b) (by omega), h27_eq (a := b) (b := a) (by omega), hsym,
    h27_eq (a := a) (b := a.map foldS) (by omega), hmm, decide_true, h24_eq (a.map foldS) (b.map foldS) (by simp; omega), h25_eq (l := a.map foldS) (by simp; omega), h24_eq (a.map foldS) (a.map foldS) (by simp; omega)]

theorem foldKin_pure (x : Int × Int) (h : wfTup [.int .i64, .int .i64] x) : H.f8F x = some true := by
  obtain ⟨c, d⟩ := x
  have hc : -9223372036854775808 ≤ c ∧ c ≤ 9223372036854775807 := by
    have := h.1
    simpa [Ty.wf, IntKind.min, IntKind.max, IntKind.signed, IntKind.bits] using this
  unfold H.f8F
  rw [aliveF]
  simp only [Option.bind_some, Bool.not_true, Bool.false_eq_true, if_false]
  obtain ⟨l, k1, k2, k3, k4⟩ := h29_ok c hc
  simp only [k1, Option.bind_some, h22_eq]
  suffices hh : ∃ r, Option.bind _ _ = some r ∧ r = true by
    obtain ⟨r, h1, rfl⟩ := hh
    exact h1
  refine bind_ex (iter_rule (I := fun s => ∃ i : Nat, s = (decide (d ∈ l.take i), (i : Int)) ∧ i ≤ l.length) (Q := fun e => e = Sum.inl (decide (d ∈ l))) (fun s => ((l.length : Int) - s.2).toNat) ?_ _ ⟨0, by simp, Nat.zero_le _⟩) ?_
  · rintro _ ⟨i, rfl, hi⟩
    dsimp only
    by_cases hil : i < l.length
    · have hg : l.getD i 0 = l[i] := by simp [List.getD_eq_getElem?_getD, hil]
      have hf := (k3 l[i]).1 (List.getElem_mem hil)
      rw [if_pos (by rw [decide_eq_true_eq]; omega)]
      simp only [if_pos (show (0 : Int) ≤ i ∧ (i : Int) < l.length by omega), Int.toNat_natCast, hg, hf, bne_self_eq_false, Bool.false_eq_true, if_false]
      have hmono : (if decide ((i : Int) > 0) = true then (if (0 : Int) ≤ IntKind.i64.wrap ((i : Int) - 1) ∧ IntKind.i64.wrap ((i : Int) - 1) < l.length then some (decide (l.getD (IntKind.i64.wrap ((i : Int) - 1)).toNat 0 ≥ l[i])) else none) else some false) = some false := by
        by_cases h0 : i = 0
        · subst h0; rw [if_neg (by simp)]
        · have hw : IntKind.i64.wrap ((i : Int) - 1) = ((i - 1 : Nat) : Int) := by rw [wrap_i64 (by omega) (by omega)]; omega
          have hg' : l.getD (i - 1) 0 = l[i - 1] := by simp [List.getD_eq_getElem?_getD, show i - 1 < l.length by omega]
          have := rise_get k2 hil (show i - 1 < i by omega)
          rw [if_pos (by rw [decide_eq_true_eq]; omega), hw, if_pos (by omega), Int.toNat_natCast, hg']
          congr 1
          rw [decide_eq_false_iff_not]
          omega
      rw [hmono]
      simp only [Option.bind_some, Bool.false_eq_true, if_false]
      rw [wrap_i64 (by omega) (by omega)]
      have hmem : decide (d ∈ l.take (i + 1)) = (decide (d ∈ l.take i) || (l[i] == d)) := by
        rw [List.take_succ_eq_append_getElem hil]
        rw [Bool.eq_iff_iff]
        simp only [decide_eq_true_eq, Bool.or_eq_true, List.mem_append, List.mem_singleton, beq_iff_eq]
        constructor <;> rintro (h | h) <;> first | exact .inl h | exact .inr h.symm
      cases hdm : decide (d ∈ l.take i) with
      | true =>
        simp only [if_true]
        exact .inl ⟨_, rfl, ⟨i + 1, by rw [hmem, hdm]; rfl, hil⟩, by simp only []; omega⟩
      | false =>
        simp only [Bool.false_eq_true, if_false]
        exact .inl ⟨_, rfl, ⟨i + 1, by rw [hmem, hdm]; rfl, hil⟩, by simp only []; omega⟩
    · rw [if_neg (by rw [decide_eq_true_eq]; omega)]
      exact .inr ⟨_, rfl, by rw [List.take_of_length_le (by omega)]⟩
  · rintro _ rfl
    simp only [Sum.elim_inl, Option.bind_some, foldS_idem, beq_self_eq_true, if_true]
    have hh : decide (d ∈ l) = (foldS c == foldS d) := by
      rw [Bool.eq_iff_iff, decide_eq_true_eq, beq_iff_eq, k3]
      exact ⟨Eq.symm, Eq.symm⟩
    rw [hh, if_pos (by simp)]
    exact ⟨_, rfl, by rw [decide_eq_true_eq]; omega⟩
end Go.Sx
