/- The reference's cache, and the law ScanAnswers. -/
import Derived.Test.YtjmmbgjdfmceeaaSxDk
import Derived.Test.YtjmmbgjdfmceeaaSxT9d
set_option linter.unusedVariables false
set_option linter.unusedSimpArgs false
namespace Go.Sx
theorem f16_eq (a b : List Int) (hl : a.length ≤ 9223372036854775807) : D.f16F (a, b) = some (decide (a = b)) := by
  have : D.f16F (a, b) = D.f61F (a, b) := by
    unfold D.f16F D.f61F
    rfl
  rw [this, d61_eq a b hl]
theorem liS_weak (S : List StD) : (ow S).map (Ty.weak TO) = S.map liS := by
  unfold ow
  rw [List.map_map]
  rfl
theorem known_rule (S : List StD) (A : List Int) (b : Bool) : ∀ i : Nat, i ≤ S.length → (∀ j (hj : j < S.length), j < i → ¬ (S[j].2.1 = b ∧ S[j].1 = A)) →
    ((i < S.length → ∀ hi : i < S.length, (S[i].2.1 = b ∧ S[i].1 = A) → knownS S A b = (i : Int)) ∧ (i = S.length → knownS S A b = -1)) := by
  intro i hi hI
  refine ⟨fun _ hi h => ?_, fun he => ?_⟩
  · unfold knownS
    have : (S.map fun s => (s.1, s.2.1)).findIdx? (fun k => decide (k = (A, b))) = some i := by
      rw [List.findIdx?_eq_some_iff_getElem]
      refine ⟨by simpa using hi, by simp [h.1, h.2], fun j hj => ?_⟩
      have := hI j (by omega) hj
      simp
      exact fun h1 h2 => this ⟨h2, h1⟩
    rw [this]
  · subst he
    unfold knownS
    have : (S.map fun s => (s.1, s.2.1)).findIdx? (fun k => decide (k = (A, b))) = none := by
      rw [List.findIdx?_eq_none_iff]
      intro x hx
      obtain ⟨s, hs, rfl⟩ := List.mem_map.1 hx
      obtain ⟨j, hj, rfl⟩ := List.mem_iff_getElem.1 hs
      have := hI j hj hj
      simp
      exact fun h1 h2 => this ⟨h2, h1⟩
    rw [this]
theorem f107_eq {p : List Inst} {most fl : Int} {S : List StD} (A : List Int) (b : Bool) (hS : S.length ≤ 100000) (hl : ∀ s ∈ S, s.1.length ≤ 100000) : D.f107F ((p, most, S, fl), A, b) = some (knownS S A b) := by
  unfold D.f107F
  dsimp only
  refine ex_to ?_
  refine bind_ex (Q := fun e : PUnit ⊕ Int => Sum.elim (fun _ => (-1 : Int)) (fun v => v) e = knownS S A b) (iter_rule (I := fun s : Int × List Inst × Int × List StD × Int => ∃ i : Nat, s = ((i : Int), p, most, S, fl) ∧ i ≤ S.length ∧ ∀ j (hj : j < S.length), j < i → ¬ (S[j].2.1 = b ∧ S[j].1 = A)) (fun s => ((S.length : Int) - s.1).toNat) ?_ _ ⟨0, rfl, Nat.zero_le _, fun j _ hj => by omega⟩) ?_
  · rintro _ ⟨i, rfl, hi, hI⟩
    obtain ⟨k1, k2⟩ := known_rule S A b i hi hI
    dsimp only
    by_cases hil : i < S.length
    · have hm := List.getElem_mem hil
      rw [if_pos (by rw [decide_eq_true_eq]; omega), if_pos (by omega), Int.toNat_natCast, getD_lt S _ hil]
      by_cases hb : S[i].2.1 = b
      · rw [if_pos (by rw [hb]; exact beq_self_eq_true b), if_pos (by omega), f16_eq _ _ (by have := hl _ hm; omega)]
        simp only [Option.bind_some]
        by_cases hA : S[i].1 = A
        · rw [decide_eq_true hA, if_pos rfl]
          exact .inr ⟨_, rfl, (k1 hil hil ⟨hb, hA⟩).symm⟩
        · rw [decide_eq_false hA, if_neg (by decide), wrap_i64 (by omega) (by omega)]
          refine .inl ⟨_, rfl, ⟨i + 1, rfl, hil, fun j hj hji => ?_⟩, by show ((S.length : Int) - ((i : Int) + 1)).toNat < ((S.length : Int) - (i : Int)).toNat; omega⟩
          rcases Nat.eq_or_lt_of_le (Nat.le_of_lt_succ hji) with e | e
          · subst e; exact fun h => hA h.2
          · exact hI j hj e
      · rw [if_neg (by rw [beq_iff_eq]; exact hb)]
        simp only [Option.bind_some, Bool.false_eq_true, if_false]
        rw [wrap_i64 (by omega) (by omega)]
        refine .inl ⟨_, rfl, ⟨i + 1, rfl, hil, fun j hj hji => ?_⟩, by show ((S.length : Int) - ((i : Int) + 1)).toNat < ((S.length : Int) - (i : Int)).toNat; omega⟩
        rcases Nat.eq_or_lt_of_le (Nat.le_of_lt_succ hji) with e | e
        · subst e; exact fun h => hb h.1
        · exact hI j hj e
    · rw [if_neg (by rw [decide_eq_true_eq]; omega)]
      exact .inr ⟨_, rfl, (k2 (by omega)).symm⟩
  · rintro (e | e) h
    · exact ⟨_, rfl, h⟩
    · exact ⟨_, rfl, h⟩
theorem s17_eq2 {p : List Inst} {most fl : Int} {S : List StD} (A : List Int) (b : Bool) (hS : S.length ≤ 100000) (hl : ∀ s ∈ S, s.1.length ≤ 100000) : D.s17F (p, most, fl, A, b, ow S) = some (knownS S A b, ow S) := by
  unfold D.s17F
  dsimp only
  have hdo : (([] : List Int), false, false, ([] : List (Int × Int))) = dO := rfl
  refine ex_to ?_
  refine bind_ex (Q := fun e : List StO ⊕ Int × List StO => e = .inl (ow S) ∧ knownS S A b = -1 ∨ ∃ i : Int, e = .inr (i, ow S) ∧ knownS S A b = i) (iter_rule (I := fun s : Int × List StO × List Inst × Int × Int => ∃ i : Nat, s = ((i : Int), ow S, p, most, fl) ∧ i ≤ S.length ∧ ∀ j (hj : j < S.length), j < i → ¬ (S[j].2.1 = b ∧ S[j].1 = A)) (fun s => ((S.length : Int) - s.1).toNat) ?_ _ ⟨0, rfl, Nat.zero_le _, fun j _ hj => by omega⟩) ?_
  · rintro _ ⟨i, rfl, hi, hI⟩
    obtain ⟨k1, k2⟩ := known_rule S A b i hi hI
    dsimp only
    rw [ow_len]
    by_cases hil : i < S.length
    · have hm := List.getElem_mem hil
      have e1 : (owS S[i]).2.1 = S[i].2.1 := rfl
      have e2 : (owS S[i]).1 = S[i].1 := rfl
      rw [if_pos (by rw [decide_eq_true_eq]; omega), if_pos (by omega), Int.toNat_natCast, hdo, ow_get hil, getD_lt S _ hil, e1, e2]
      by_cases hb : S[i].2.1 = b
      · rw [if_pos (by rw [hb]; exact beq_self_eq_true b), if_pos (by omega), f16_eq _ _ (by have := hl _ hm; omega)]
        simp only [Option.bind_some]
        by_cases hA : S[i].1 = A
        · rw [decide_eq_true hA, if_pos rfl]
          exact .inr ⟨_, rfl, .inr ⟨_, rfl, k1 hil hil ⟨hb, hA⟩⟩⟩
        · rw [decide_eq_false hA, if_neg (by decide), wrap_i64 (by omega) (by omega)]
          refine .inl ⟨_, rfl, ⟨i + 1, rfl, hil, fun j hj hji => ?_⟩, by show ((S.length : Int) - ((i : Int) + 1)).toNat < ((S.length : Int) - (i : Int)).toNat; omega⟩
          rcases Nat.eq_or_lt_of_le (Nat.le_of_lt_succ hji) with e | e
          · subst e; exact fun h => hA h.2
          · exact hI j hj e
      · rw [if_neg (by rw [beq_iff_eq]; exact hb)]
        simp only [Option.bind_some, Bool.false_eq_true, if_false]
        rw [wrap_i64 (by omega) (by omega)]
        refine .inl ⟨_, rfl, ⟨i + 1, rfl, hil, fun j hj hji => ?_⟩, by show ((S.length : Int) - ((i : Int) + 1)).toNat < ((S.length : Int) - (i : Int)).toNat; omega⟩
        rcases Nat.eq_or_lt_of_le (Nat.le_of_lt_succ hji) with e | e
        · subst e; exact fun h => hb h.1
        · exact hI j hj e
    · rw [if_neg (by rw [decide_eq_true_eq]; omega)]
      exact .inr ⟨_, rfl, .inl ⟨rfl, k2 (by omega)⟩⟩
  · rintro e (⟨rfl, h⟩ | ⟨i, rfl, h⟩)
    · exact ⟨_, rfl, by rw [h]⟩
    · exact ⟨_, rfl, by rw [h]⟩
theorem f94_eq {p : List Inst} {most fl : Int} {S : List StD} {N : Nat} (hS : Small S N) (hfl : -1000000 ≤ fl ∧ fl ≤ 1000000) {A : List Int} (hA : A.length ≤ 100000) (b : Bool) :
    D.f94F (p, most, fl, A, b, ow S) = some (p, most, (findS most S fl A b).2.1, (findS most S fl A b).2.2.1, (findS most S fl A b).2.2.2, ow (findS most S fl A b).1) := by
  unfold D.f94F
  dsimp only
  have hlen := hS.len
  rw [s17_eq2 A b (by omega) (fun s hs => by have := hS.at_ s hs; omega)]
  simp only [Option.bind_some]
  unfold findS
  have hge := knownS_ge S A b
  by_cases hk : knownS S A b ≠ -1
  · rw [if_pos (by rw [decide_eq_true_eq]; omega), if_pos hk]
  · have hk' : knownS S A b = -1 := Decidable.byContradiction hk
    rw [hk', if_neg (c := decide ((-1 : Int) ≥ 0) = true) (by decide), if_neg (c := (-1 : Int) ≠ -1) (by simp), ow_len]
    by_cases hm : (S.length : Int) = most
    · rw [if_pos (by simpa using hm), if_pos hm]
      simp only [Option.bind_some]
      rw [if_pos (by unfold roomOk; simp), if_pos (by unfold roomOk; omega), if_pos (by unfold roomOk; simp), wrap_i64 (x := fl + 1) (by omega) (by omega)]
      have he : ((S.length : Int) == most) = true := by simpa using hm
      rw [he]
      rfl
    · rw [if_neg (by simpa using hm), if_neg hm]
      simp only [Option.bind_some]
      rw [if_pos (by unfold roomOk; rw [ow_len]; omega), if_pos (by unfold roomOk; omega), if_pos (by unfold roomOk; rw [List.nil_append, ow_len]; omega)]
      have he : ((S.length : Int) == most) = false := by simpa using hm
      rw [he, List.nil_append, List.nil_append]
      have e1 : ow S ++ [(A, b, true, ([] : List (Int × Int)))] = ow (S ++ [(A, b, [])]) := by rw [ow_snoc]; rfl
      rw [e1, liS_weak, List.length_map, List.length_append, List.length_singleton]
      have hw : IntKind.i64.wrap (((S.length + 1 : Nat) : Int) - 1) = (S.length : Int) := by
        rw [wrap_i64 (by omega) (by omega)]; omega
      rw [hw]
theorem s18_eq2 {p : List Inst} (hp : rightS p = true) (hr : ranged p) {most fl : Int} (s : StD) (c : Int) (hl : s.1.length ≤ 100000) (L : List StO) : D.s18F (p, most, fl, s, c, L) = some (behS p s c, L) := by
  obtain ⟨_, _, hp1000⟩ := rightS_last hp
  unfold D.s18F
  dsimp only
  rw [s18_eq hp hl]
  simp only [Option.bind_some]
  rw [s20_ok (reachS_rise _ _ _ _) (by have := reachS_len p s.1 s.2.1 false; omega) hp hr c]
  rfl
theorem f108_eq {p : List Inst} (hp : rightS p = true) (hr : ranged p) {most fl : Int} {S : List StD} (s : StD) (c : Int) (hl : s.1.length ≤ 100000) : D.f108F ((p, most, S, fl), s, c) = some (behS p s c) := by
  obtain ⟨_, _, hp1000⟩ := rightS_last hp
  unfold D.f108F
  dsimp only
  rw [s18_eq hp hl]
  simp only [Option.bind_some]
  rw [s20_ok (reachS_rise _ _ _ _) (by have := reachS_len p s.1 s.2.1 false; omega) hp hr c]
  rfl
theorem f96_eq {p : List Inst} (hp : rightS p = true) (hr : ranged p) {most fl : Int} {S : List StD} {N : Nat} (hS : Small S N) (hN : N ≤ 1000000) (hfl : -1000000 ≤ fl ∧ fl ≤ 1000000) {i : Nat} (hi : i < S.length) (c : Int) :
    D.f96F (p, most, fl, (i : Int), c, ow S) = some (p, most, (nextS p most S fl i c).2.1, (nextS p most S fl i c).2.2, ow (nextS p most S fl i c).1) := by
  obtain ⟨_, _, hp1000⟩ := rightS_last hp
  have hs : S.getD i dSt ∈ S := by rw [getD_lt _ _ hi]; exact List.getElem_mem _
  have hat := hS.at_ _ hs
  have hed := hS.ed _ hs
  have hlen := hS.len
  have hdo : (([] : List Int), false, false, ([] : List (Int × Int))) = dO := rfl
  unfold D.f96F
  dsimp only
  rw [ow_len, if_pos (by omega)]
  simp only [Int.toNat_natCast, hdo, ow_get hi]
  unfold nextS
  generalize hse : S.getD i dSt = s at *
  have e1 : (owS s).2.2.2 = s.2.2 := rfl
  have e2 : (owS s).1 = s.1 := rfl
  have e3 : (owS s).2.1 = s.2.1 := rfl
  rw [e1, e2, e3]
  refine ex_to ?_
  refine bind_ex (Q := fun e : (List StO × List Inst × Int × Int × Int × Int × List Int × Bool × List (Int × Int) × List Inst × List StO) ⊕ (Int × List StO × List Inst × Int × Int) =>
      (e = .inl (ow S, p, most, fl, 0, 0, s.1, s.2.1, s.2.2, [], []) ∧ s.2.2.find? (fun e => e.1 == c) = none) ∨ ∃ x, s.2.2.find? (fun e => e.1 == c) = some x ∧ e = .inr (x.2, ow S, p, most, fl))
    (iter_rule (I := fun z : Int × List StO × List Inst × Int × Int × Int × Int × List Int × Bool × List (Int × Int) × List Inst × List StO => ∃ k : Nat, z = ((k : Int), ow S, p, most, fl, 0, 0, s.1, s.2.1, s.2.2, [], []) ∧ k ≤ s.2.2.length ∧ (s.2.2.take k).find? (fun e => e.1 == c) = none)
      (fun z => ((s.2.2.length : Int) - z.1).toNat) ?_ _ ⟨0, rfl, Nat.zero_le _, by simp⟩) ?_
  · rintro _ ⟨k, rfl, hk, hI⟩
    dsimp only
    by_cases hkl : k < s.2.2.length
    · rw [if_pos (by rw [decide_eq_true_eq]; omega), if_pos (by omega), Int.toNat_natCast, getD_lt _ _ hkl]
      by_cases hc : s.2.2[k].1 = c
      · rw [if_pos (by rw [beq_iff_eq]; exact hc), if_pos (by omega)]
        refine .inr ⟨_, rfl, .inr ⟨s.2.2[k], ?_, rfl⟩⟩
        have : s.2.2 = s.2.2.take k ++ s.2.2[k] :: s.2.2.drop (k + 1) := by rw [← List.drop_eq_getElem_cons hkl, List.take_append_drop]
        generalize hz : s.2.2[k] = z at *
        rw [this, List.find?_append, hI]
        simp [hc]
      · rw [if_neg (by rw [beq_iff_eq]; exact hc), wrap_i64 (by omega) (by omega)]
        refine .inl ⟨_, rfl, ⟨k + 1, rfl, hkl, ?_⟩, by show ((s.2.2.length : Int) - ((k : Int) + 1)).toNat < ((s.2.2.length : Int) - (k : Int)).toNat; omega⟩
        rw [List.take_succ_eq_append_getElem hkl, List.find?_append, hI]
        simp [hc]
    · rw [if_neg (by rw [decide_eq_true_eq]; omega)]
      rw [List.take_of_length_le (by omega)] at hI
      exact .inr ⟨_, rfl, .inl ⟨rfl, hI⟩⟩
  rintro e (⟨rfl, hf⟩ | ⟨x, hf, rfl⟩)
  rotate_left
  · refine ⟨_, rfl, ?_⟩
    rw [hf]
  refine ⟨_, ?_, rfl⟩
  rw [hf]
  dsimp only [Sum.elim_inl]
  have e5 : (s.1, s.2.1, s.2.2) = s := rfl
  show Option.bind (D.s18F (p, most, fl, (s.1, s.2.1, s.2.2), c, ow S)) _ = _
  rw [e5, s18_eq2 hp hr s c (by omega)]
  simp only [Option.bind_some]
  have hbl : (behS p s c).length ≤ 1000 := by
    unfold behS
    have h1 := moveS_len p (reachS p s.1 s.2.1 false) c
    have h2 := reachS_len p s.1 s.2.1 false
    omega
  have put : ∀ (T : List StD) (t : Int), i < T.length → T.getD i dSt = s →
      (ow T).set i (((ow T).getD i dO).1, ((ow T).getD i dO).2.1, true, [] ++ ((T.map liS).getD i dO).2.2.2 ++ [(c, t)]) = ow (T.set i (edgeS s c t)) := by
    intro T t hT hg
    have h1 : (T.map liS).getD i dO = liS s := by
      rw [getD_lt _ _ (by rw [List.length_map]; exact hT), List.getElem_map, ← hg, getD_lt _ _ hT]
    rw [h1, ow_get hT, hg, ← ow_set]
    rfl
  have room : ∀ (T : List StD), i < T.length → T.getD i dSt = s → ((T.map liS).getD i dO).2.2.2.length = s.2.2.length := by
    intro T hT hg
    rw [getD_lt _ _ (by rw [List.length_map]; exact hT), List.getElem_map, ← hg, getD_lt _ _ hT]
    rfl
  by_cases hb : behS p s c = []
  · rw [if_pos hb, hb, if_neg (by simp)]
    simp only [Option.bind_some, Bool.not_false, if_true]
    rw [liS_weak, List.length_map, if_pos (by omega), if_pos (by unfold roomOk; rw [room S hi hse]; omega), if_pos (by unfold roomOk; rw [List.nil_append, room S hi hse]; omega), if_pos (by omega), put S (-1) hi hse]
  · have hbp : 0 < (behS p s c).length := List.length_pos_iff.2 hb
    rw [if_neg hb, if_pos (by rw [decide_eq_true_eq]; omega), f94_eq hS hfl (by omega) false]
    simp only [Option.bind_some]
    cases hw : (findS most S fl (behS p s c) false).2.2.2 with
    | true => simp
    | false =>
      obtain ⟨X, hX⟩ := findS_keep hw
      have hiT : i < (findS most S fl (behS p s c) false).1.length := by rw [hX, List.length_append]; omega
      have hgT : (findS most S fl (behS p s c) false).1.getD i dSt = s := by
        rw [hX, ← hse, getD_lt _ _ (by rw [List.length_append]; omega), getD_lt _ _ hi, List.getElem_append_left hi]
      simp only [Bool.not_false, if_true, Bool.false_eq_true, if_false]
      generalize (findS most S fl (behS p s c) false).1 = T at *
      rw [liS_weak, List.length_map, if_pos (by omega), if_pos (by unfold roomOk; rw [room T hiT hgT]; omega), if_pos (by unfold roomOk; rw [List.nil_append, room T hiT hgT]; omega), if_pos (by omega), put T _ hiT hgT, hgT]
theorem f95_eq {p : List Inst} {most fl : Int} {S : List StD} {N : Nat} (hS : Small S N) (hN : N ≤ 1000000) : D.f95F (p, most, S, fl) = some (p, most, fl, ow S) := by
  unfold D.f95F
  dsimp only
  have hlen := hS.len
  have hds : (([] : List Int), false, ([] : List (Int × Int))) = dSt := rfl
  refine ex_to ?_
  refine bind_ex (Q := fun e : Int × Int × List Inst × Int × Int × List Inst × List StO × List StO => e.2.2.1 = p ∧ e.2.2.2.1 = most ∧ e.2.2.2.2.1 = fl ∧ e.2.2.2.2.2.2.2 = ow S)
    (iter_rule (I := fun z : Int × List Inst × Int × List StD × Int × Int × Int × List Inst × Int × Int × List Inst × List StO × List StO => ∃ k : Nat, z = ((k : Int), p, most, S, fl, 0, 0, p, most, fl, [], [], ow (S.take k)) ∧ k ≤ S.length)
      (fun z => ((S.length : Int) - z.1).toNat) ?_ _ ⟨0, rfl, Nat.zero_le _⟩) ?_
  · rintro _ ⟨k, rfl, hk⟩
    dsimp only
    by_cases hkl : k < S.length
    · have hm := List.getElem_mem hkl
      have h1 := hS.at_ _ hm
      have h2 := hS.ed _ hm
      rw [if_pos (by rw [decide_eq_true_eq]; omega), if_pos (by omega), Int.toNat_natCast, getD_lt S _ hkl, if_pos (by unfold roomOk; omega), if_pos (by unfold roomOk; omega), if_pos (by unfold roomOk; rw [ow_len, List.length_take]; omega), wrap_i64 (by omega) (by omega)]
      refine .inl ⟨_, rfl, ⟨k + 1, ?_, hkl⟩, by show ((S.length : Int) - ((k : Int) + 1)).toNat < ((S.length : Int) - (k : Int)).toNat; omega⟩
      rw [List.take_succ_eq_append_getElem hkl, ow_snoc]
      rfl
    · rw [if_neg (by rw [decide_eq_true_eq]; omega)]
      refine .inr ⟨_, rfl, rfl, rfl, rfl, ?_⟩
      show ow (S.take k) = ow S
      rw [List.take_of_length_le (by omega)]
  · rintro ⟨a1, a2, a3, a4, a5, a6, a7, a8⟩ ⟨h1, h2, h3, h4⟩
    dsimp only at h1 h2 h3 h4
    subst h1 h2 h3 h4
    exact ⟨_, rfl, rfl⟩
theorem f106_true {A : List Int} {n : Nat} (h : listOk A n) (hl : A.length ≤ 100000) : D.f106F (A, (n : Int)) = some true := by
  obtain ⟨h1, h2, h3⟩ := h
  have hpos : 0 < A.length := List.length_pos_iff.2 h1
  unfold D.f106F
  dsimp only
  rw [all_ok A.length (by omega) (fun i hi => ?_) ?_]
  · show some (decide ((A.length : Int) > 0)) = some true
    rw [decide_eq_true (by omega)]
  · rw [if_neg (by rw [decide_eq_true_eq]; omega)]
  · have hin := h2 A[i] (List.getElem_mem hi)
    rw [if_pos (by rw [decide_eq_true_eq]; omega), if_pos (by omega), Int.toNat_natCast, getD_lt A _ hi, if_neg (by rw [decide_eq_true_eq]; omega), if_pos (by omega), if_neg (by rw [decide_eq_true_eq]; omega)]
    by_cases h0 : i = 0
    · subst h0
      rw [if_neg (by decide)]
      rfl
    · rw [if_pos (by rw [decide_eq_true_eq]; omega), wrap_i64 (x := (i : Int) - 1) (by omega) (by omega), if_pos (by omega), if_pos (by omega), show ((i : Int) - 1).toNat = i - 1 by omega, getD_lt A _ (by omega : i - 1 < A.length)]
      have := rise_get h3 hi (by omega : i - 1 < i)
      rw [decide_eq_false (by omega)]
      rfl
theorem f93_true {p : List Inst} (hp : rightS p = true) (hr : ranged p) {most fl : Int} {S : List StD} {N : Nat} (hS : Small S N) (hN : N ≤ 1000000) (hm : 2 ≤ most ∧ most ≤ 1000) (hfl : 0 ≤ fl) (hl : (S.length : Int) ≤ most) (h : CacheI p S) :
    D.f93F (p, most, S, fl) = some true := by
  have hlen := hS.len
  have hall : ∀ s ∈ S, s.1.length ≤ 100000 := fun s hs => by have := hS.at_ s hs; omega
  unfold D.f93F
  dsimp only
  rw [s26_any, hp]
  simp only [Option.bind_some, Bool.not_true, Bool.false_eq_true, if_false]
  rw [if_neg (by rw [decide_eq_true_eq]; omega), if_neg (by rw [decide_eq_true_eq]; omega), if_neg (by rw [decide_eq_true_eq]; omega), decide_eq_false (show ¬ (S.length : Int) > most by omega)]
  simp only [Option.bind_some, Bool.false_eq_true, if_false]
  refine ex_to ?_
  refine bind_ex (Q := fun e : PUnit ⊕ Bool => e = .inl ()) (iter_rule (I := fun s : Int × List Inst × Int × List StD × Int => ∃ i : Nat, s = ((i : Int), p, most, S, fl) ∧ i ≤ S.length) (fun s => ((S.length : Int) - s.1).toNat) ?_ _ ⟨0, rfl, Nat.zero_le _⟩) ?_
  rotate_left
  · rintro _ rfl
    exact ⟨_, rfl, rfl⟩
  rintro _ ⟨i, rfl, hi⟩
  dsimp only
  by_cases hil : i < S.length
  rotate_left
  · rw [if_neg (by rw [decide_eq_true_eq]; omega)]
    exact .inr ⟨_, rfl, rfl⟩
  obtain ⟨h1, h2, h3, h4⟩ := h i hil
  have hmem := List.getElem_mem hil
  have hat := hS.at_ _ hmem
  have hed := hS.ed _ hmem
  rw [if_pos (by rw [decide_eq_true_eq]; omega), if_pos (by omega), Int.toNat_natCast, getD_lt S _ hil]
  generalize S[i] = s at *
  obtain ⟨A, b, E⟩ := s
  dsimp only at h1 h2 h3 h4 hat hed ⊢
  rw [f106_true h1 (by omega)]
  simp only [Option.bind_some, Bool.not_true, Bool.false_eq_true, if_false]
  rw [f107_eq A b (by omega) hall, h2]
  simp only [Option.bind_some, bne_self_eq_false, Bool.false_eq_true, if_false]
  refine stp_bind (R := fun e : (List Inst × Int × List StD × Int) ⊕ Bool => e = .inl (p, most, S, fl)) (iter_rule (I := fun z : Int × List Inst × Int × List StD × Int × List Int × Bool × List (Int × Int) => ∃ j : Nat, z = ((j : Int), p, most, S, fl, A, b, E) ∧ j ≤ E.length) (fun z => ((E.length : Int) - z.1).toNat) ?_ _ ⟨0, rfl, Nat.zero_le _⟩) ?_
  rotate_left
  · rintro _ rfl
    dsimp only [Sum.elim_inl]
    rw [wrap_i64 (by omega) (by omega)]
    exact .inl ⟨_, rfl, ⟨i + 1, rfl, hil⟩, by show ((S.length : Int) - ((i : Int) + 1)).toNat < ((S.length : Int) - (i : Int)).toNat; omega⟩
  rintro _ ⟨j, rfl, hj⟩
  dsimp only
  by_cases hjl : j < E.length
  rotate_left
  · rw [if_neg (by rw [decide_eq_true_eq]; omega)]
    exact .inr ⟨_, rfl, rfl⟩
  rw [if_pos (by rw [decide_eq_true_eq]; omega), if_pos (by omega), Int.toNat_natCast, getD_lt E _ hjl]
  have hem := List.getElem_mem hjl
  have hdist : ∀ k (hk : k < E.length), k < j → E[k].1 ≠ E[j].1 := fun k hk hkj he => by
    have hn := List.pairwise_iff_getElem.1 h3 k j (by simpa using hk) (by simpa using hjl) hkj
    simp at hn
    exact hn he
  refine stp_bind (R := fun e : (List Inst × Int × List StD × Int × List Int × Bool × List (Int × Int) × Int × Int) ⊕ Bool => e = .inl (p, most, S, fl, A, b, E, E[j].1, E[j].2)) (iter_rule (I := fun z : Int × List Inst × Int × List StD × Int × List Int × Bool × List (Int × Int) × Int × Int => ∃ k : Nat, z = ((k : Int), p, most, S, fl, A, b, E, E[j].1, E[j].2) ∧ k ≤ j) (fun z => ((j : Int) - z.1).toNat) ?_ _ ⟨0, rfl, Nat.zero_le _⟩) ?_
  · rintro _ ⟨k, rfl, hk⟩
    dsimp only
    by_cases hkj : k < j
    · rw [if_pos (by rw [decide_eq_true_eq]; omega), if_pos (by omega), Int.toNat_natCast, getD_lt E _ (by omega : k < E.length), if_neg (by rw [beq_iff_eq]; exact hdist k (by omega) hkj), wrap_i64 (by omega) (by omega)]
      exact .inl ⟨_, rfl, ⟨k + 1, rfl, hkj⟩, by show ((j : Int) - ((k : Int) + 1)).toNat < ((j : Int) - (k : Int)).toNat; omega⟩
    · rw [if_neg (by rw [decide_eq_true_eq]; omega)]
      exact .inr ⟨_, rfl, rfl⟩
  rintro _ rfl
  dsimp only [Sum.elim_inl]
  have hb108 : D.f108F ((p, most, S, fl), (A, b, E), E[j].1) = some (behS p (A, b, E) E[j].1) := f108_eq hp hr (A, b, E) _ (by show A.length ≤ 100000; omega)
  rw [hb108]
  simp only [Option.bind_some]
  obtain ⟨g1, g2⟩ := h4 _ hem
  have go : ∀ z : Int × List Inst × Int × List StD × Int × List Int × Bool × List (Int × Int), z = (((j + 1 : Nat) : Int), p, most, S, fl, A, b, E) →
      (∃ s', (some (Sum.inl z) : Option ((Int × List Inst × Int × List StD × Int × List Int × Bool × List (Int × Int)) ⊕ ((List Inst × Int × List StD × Int) ⊕ Bool))) = some (.inl s') ∧ (∃ j : Nat, s' = ((j : Int), p, most, S, fl, A, b, E) ∧ j ≤ E.length) ∧ ((E.length : Int) - s'.1).toNat < ((E.length : Int) - (j : Int)).toNat) := by
    rintro _ rfl
    exact ⟨_, rfl, ⟨j + 1, rfl, hjl⟩, by show ((E.length : Int) - ((j + 1 : Nat) : Int)).toNat < _; omega⟩
  by_cases hb : behS p (A, b, E) E[j].1 = []
  · rw [hb, g1 hb, if_pos (by decide), if_neg (by decide), if_neg (by decide)]
    simp only [Option.bind_some, Bool.false_eq_true, if_false]
    rw [wrap_i64 (by omega) (by omega)]
    exact .inl (go _ rfl)
  · obtain ⟨g3, g4⟩ := g2 hb
    have hbp : 0 < (behS p (A, b, E) E[j].1).length := List.length_pos_iff.2 hb
    have hge := knownS_ge S (behS p (A, b, E) E[j].1) false
    rw [if_neg (by rw [beq_iff_eq]; omega), if_pos (by rw [decide_eq_true_eq]; omega), if_neg (by rw [decide_eq_true_eq]; omega), f107_eq _ _ (by omega) hall, ← g4]
    simp only [Option.bind_some, bne_self_eq_false, Bool.false_eq_true, if_false]
    rw [wrap_i64 (by omega) (by omega)]
    exact .inl (go _ rfl)
theorem f66_eq {p : List Inst} (hp : rightS p = true) (hr : ranged p) {most fl : Int} {S : List StD} {N : Nat} (hS : Small S N) (hN : N ≤ 10000) (hm : 2 ≤ most ∧ most ≤ 1000) (hfl : 0 ≤ fl ∧ fl ≤ 100000) (hl : (S.length : Int) ≤ most) (h : CacheI p S)
    {l : List Int} (hll : l.length ≤ 10000) {k : Nat} (hk : k ≤ l.length) :
    D.f66F ((p, most, S, fl), l, (k : Int)) = some ((p, most, (longS p most S fl l k).1, (longS p most S fl l k).2.1), (longS p most S fl l k).2.2.1, ((longS p most S fl l k).2.2.2 : Int)) := by
  obtain ⟨_, _, hp1000⟩ := rightS_last hp
  have hdo : (([] : List Int), false, false, ([] : List (Int × Int))) = dO := rfl
  obtain ⟨T, fl', j, w, f1, f2, f3, ⟨f4, f5, f6⟩, f7, f8, f9⟩ := findS_ok h hl (by omega : 1 ≤ most) fl (b := decide (k = 0)) (zero_ok hp)
  have hfl' : fl ≤ fl' ∧ fl' ≤ fl + 1 := by
    cases w with
    | true => have := (f8 rfl).1; omega
    | false => have := (f9 rfl).1; omega
  have hST : Small T N := by
    have := hS.find hm.2 hl fl (A := [0]) (by simp) (decide (k = 0))
    rw [f1] at this; exact this
  have hlong : longS p most S fl l k = longG p most (l.drop k) k T fl' j (-1) 0 := by
    unfold longS
    rw [f1]
    simp only [Int.toNat_natCast]
  unfold D.f66F
  dsimp only
  rw [f93_true hp hr hS (by omega) hm hfl.1 hl h]
  simp only [Option.bind_some, Bool.not_true, Bool.false_eq_true, if_false]
  rw [if_neg (by rw [decide_eq_true_eq]; omega), decide_eq_false (show ¬ (k : Int) > (l.length : Int) by omega)]
  simp only [Option.bind_some, Bool.false_eq_true, if_false]
  rw [f95_eq hS (by omega)]
  simp only [Option.bind_some]
  rw [natb0, f94_eq hS (by omega) (by simp) _, f1]
  simp only [Option.bind_some]
  rw [hlong]
  generalize hR : longG p most (l.drop k) k T fl' j (-1) 0 = R
  refine ex_to ?_
  refine bind_ex (Q := fun e : (Int × Int × List Inst × Int × Int × Int × Int × List Inst × List StO × List StO) ⊕ (Int × Int × List Inst × Int × Int × List StO) =>
      e = .inl ((R.2.2.2 : Int), R.2.2.1, p, most, R.2.1, 0, 0, [], [], ow R.1) ∨ e = .inr (R.2.2.1, (R.2.2.2 : Int), p, most, R.2.1, ow R.1))
    (iter_rule (I := fun (s4 : Int × Int × Int × Int × List Inst × Int × Int × Int × Int × List Inst × List StO × List StO) =>
      (∃ (i : Nat) (S : List StD) (fl : Int) (s : Nat) (e : Int) (n : Nat), s4 = ((n : Int), e, (s : Int), (i : Int), p, most, fl, 0, 0, [], [], ow S) ∧ k ≤ i ∧ i ≤ l.length ∧ s < S.length ∧ CacheI p S ∧ (S.length : Int) ≤ most ∧ Small S (N + i) ∧ (0 ≤ fl ∧ fl ≤ 100001 + i) ∧ n ≤ i ∧
        longG p most (l.drop i) i S fl s e n = R) ∨
      (∃ (i : Nat) (S : List StD) (fl : Int) (e : Int) (n : Nat), s4 = ((n : Int), e, (-1 : Int), (i : Int), p, most, fl, 0, 0, [], [], ow S) ∧ R = (S, fl, e, n)))
    (fun s4 => if s4.2.2.1 = -1 then 0 else (l.length + 1 - s4.2.2.2.1).toNat) ?_ _ (.inl ⟨k, T, fl', j, -1, 0, rfl, Nat.le_refl _, hk, f4, f2, f3, hST.more (by omega), by omega, Nat.zero_le _, hR⟩)) ?_
  rotate_left
  · rintro _ (rfl | rfl)
    · refine ⟨_, rfl, ?_⟩
      show ((p, most, (ow R.1).map (Ty.erD TO), R.2.1), R.2.2.1, (R.2.2.2 : Int)) = _
      rw [er_ow]
    · refine ⟨_, rfl, ?_⟩
      show ((p, most, (ow R.1).map (Ty.erD TO), R.2.1), R.2.2.1, (R.2.2.2 : Int)) = _
      rw [er_ow]
  rintro _ (⟨i, S, fl, s, e, n, rfl, hki, hil, hs, hC, hCl, hSm, hfl1, hn, hG⟩ | ⟨i, S, fl, e, n, rfl, rfl⟩)
  rotate_left
  · right
    dsimp only
    rw [if_neg (c := decide ((-1 : Int) ≥ 0) = true) (by decide)]
    exact ⟨_, rfl, .inl rfl⟩
  have hsm : S.getD s dSt ∈ S := by rw [getD_lt _ _ hs]; exact List.getElem_mem _
  have hat := hSm.at_ _ hsm
  dsimp only
  rw [if_pos (by rw [decide_eq_true_eq]; omega), ow_len, if_pos (by omega), if_pos (by omega)]
  simp only [Int.toNat_natCast, hdo, ow_get hs]
  have e2 : (owS (S.getD s dSt)).1 = (S.getD s dSt).1 := rfl
  have e3 : (owS (S.getD s dSt)).2.1 = (S.getD s dSt).2.1 := rfl
  rw [e2, e3, natb, s18_eq hp (by omega)]
  simp only [Option.bind_some]
  have hrin := reachS_in (p := p) (A := (S.getD s dSt).1) (st := (S.getD s dSt).2.1) (sp := decide (i = l.length))
  have hrl := reachS_len p (S.getD s dSt).1 (S.getD s dSt).2.1 (decide (i = l.length))
  generalize hrr : reachS p (S.getD s dSt).1 (S.getD s dSt).2.1 (decide (i = l.length)) = r at *
  refine stp_bind (R := fun v : Int × List Inst × Int × Int × Int × Int × List Inst × List StO × List StO => v = (if matchS p r = true then (i : Int) else e, p, most, fl, 0, 0, [], [], ow S))
    (iter_rule (I := fun z : Int × Int × List Inst × Int × Int × Int × Int × List Inst × List StO × List StO => ∃ q : Nat, z = (if matchS p (r.take q) = true then (i : Int) else e, (q : Int), p, most, fl, 0, 0, [], [], ow S) ∧ q ≤ r.length)
      (fun z => ((r.length : Int) - z.2.1).toNat) ?_ _ ⟨0, rfl, Nat.zero_le _⟩) ?_
  · rintro _ ⟨q, rfl, hq⟩
    dsimp only
    by_cases hql : q < r.length
    · have hin := hrin r[q] (List.getElem_mem hql)
      rw [if_pos (by rw [decide_eq_true_eq]; omega), if_pos (by omega), Int.toNat_natCast, getD_lt r _ hql, if_pos hin, wrap_i64 (x := (q : Int) + 1) (by omega) (by omega)]
      have hmt : matchS p (r.take (q + 1)) = (matchS p (r.take q) || decide ((p.getD r[q].toNat dI).1 = 0)) := by
        unfold matchS
        rw [List.take_succ_eq_append_getElem hql, List.any_append]
        simp
      have hdI : ((0 : Int), ([] : List (Int × Int)), (0 : Int), (0 : Int)) = dI := rfl
      rw [hdI]
      left
      by_cases hz : (p.getD r[q].toNat dI).1 = 0
      · rw [if_pos (by rw [beq_iff_eq]; exact hz)]
        refine ⟨_, rfl, ⟨q + 1, ?_, hql⟩, by show ((r.length : Int) - ((q : Int) + 1)).toNat < ((r.length : Int) - (q : Int)).toNat; omega⟩
        rw [hmt, decide_eq_true hz, Bool.or_true, if_pos rfl]
        rfl
      · rw [if_neg (by rw [beq_iff_eq]; exact hz)]
        refine ⟨_, rfl, ⟨q + 1, ?_, hql⟩, by show ((r.length : Int) - ((q : Int) + 1)).toNat < ((r.length : Int) - (q : Int)).toNat; omega⟩
        rw [hmt, decide_eq_false hz, Bool.or_false]
        rfl
    · rw [if_neg (by rw [decide_eq_true_eq]; omega)]
      refine .inr ⟨_, rfl, ?_⟩
      rw [List.take_of_length_le (by omega)]
  rintro _ rfl
  dsimp only
  rw [wrap_i64 (x := (n : Int) + 1) (by omega) (by omega), wrap_i64 (x := (i : Int) + 1) (by omega) (by omega)]
  have en : (n : Int) + 1 = ((n + 1 : Nat) : Int) := by omega
  by_cases hie : i = l.length
  · right
    rw [if_pos (by rw [decide_eq_true_eq]; exact hie)]
    rw [decide_eq_true hie] at hrr
    have hd : l.drop i = [] := List.drop_of_length_le (by omega)
    rw [hd, longG_nil, hrr] at hG
    refine ⟨_, rfl, .inr ?_⟩
    rw [← hG, en]
  · left
    rw [decide_eq_false hie] at hrr
    have hil2 : i < l.length := by omega
    have hd : l.drop i = l[i] :: l.drop (i + 1) := List.drop_eq_getElem_cons hil2
    rw [if_neg (by rw [decide_eq_true_eq]; exact hie), if_pos (by omega)]
    rw [f96_eq hp hr hSm (by omega) (by omega) hs]
    simp only [Option.bind_some]
    have hgl : l.getD i 0 = l[i] := getD_lt _ _ hil2
    rw [hgl]
    rw [hd] at hG
    unfold longG at hG
    simp only [hrr] at hG
    obtain ⟨T', fl'', to, t1, t2, t3, t4, t5, t6, t7⟩ := nextS_ok hp hC hCl (by omega : 1 ≤ most) fl hs l[i]
    have hsn := Small.next hp hSm hm.2 hCl fl hs l[i]
    rw [t1] at hG hsn ⊢
    simp only at hG hsn ⊢
    refine ⟨_, rfl, ?_, ?_⟩
    · by_cases hb : behS p S[s] l[i] = []
      · have hto := t6 hb
        subst hto
        rw [if_pos (by omega)] at hG
        exact .inr ⟨i + 1, T', fl'', _, n + 1, rfl, hG.symm⟩
      · obtain ⟨q, rfl, hq, _, _⟩ := t7 hb
        rw [if_neg (by omega), Int.toNat_natCast] at hG
        exact .inl ⟨i + 1, T', fl'', q, _, n + 1, rfl, by omega, hil2, hq, t2, t3, hsn.more (by omega), by omega, by omega, hG⟩
    · dsimp only
      rw [if_neg (show ¬ ((s : Int) = -1) by omega)]
      split <;> omega
theorem f65_eq {p : List Inst} (most : Int) : D.f65F (p, most) = some (if rightS p = false then (([], 0, [], 0), 1) else if most < 2 ∨ most > 1000 then (([], 0, [], 0), 13) else ((p, most, [], 0), 0)) := by
  unfold D.f65F
  dsimp only
  rw [s26_any]
  cases hp : rightS p with
  | false => rfl
  | true =>
    simp only [Option.bind_some, Bool.not_true, Bool.false_eq_true, if_false, Bool.true_eq_false]
    by_cases h1 : most < 2
    · rw [if_pos (by rw [decide_eq_true_eq]; exact h1), if_pos (.inl h1)]; rfl
    · rw [if_neg (by rw [decide_eq_true_eq]; exact h1)]
      simp only [Option.bind_some]
      by_cases h2 : most > 1000
      · rw [if_pos (by rw [decide_eq_true_eq]; exact h2), if_pos (.inr h2)]
      · rw [if_neg (by rw [decide_eq_true_eq]; exact h2), if_neg (by omega)]
theorem f37_eq {p : List Inst} (hp : rightS p = true) (hr : ranged p) {most : Int} (hm : 2 ≤ most ∧ most ≤ 1000) {l : List Int} (hll : l.length ≤ 30) :
    D.f37F (p, l, most) = some ((allS p l (l.length + 1) 0).1, ((allS p l (l.length + 1) 0).2 : Int), 0) := by
  obtain ⟨_, _, hp1000⟩ := rightS_last hp
  unfold D.f37F
  dsimp only
  rw [f65_eq most, hp, if_neg (by decide), if_neg (by omega)]
  simp only [Option.bind_some]
  rw [if_neg (by decide), if_neg (by rw [decide_eq_true_eq]; omega)]
  generalize hR : allS p l (l.length + 1) 0 = R
  refine ex_to ?_
  refine bind_ex (Q := fun e : Int × List (Int × Int) => e = ((R.2 : Int), R.1)) (iter_rule (I := fun (s : Int × Int × List Inst × Int × List StD × Int × List (Int × Int)) =>
      ∃ (k n : Nat) (S : List StD) (fl : Int) (f : List (Int × Int)), s = ((n : Int), (k : Int), p, most, S, fl, f) ∧ k ≤ l.length + 1 ∧ CacheI p S ∧ (S.length : Int) ≤ most ∧ Small S (k * 30) ∧ (0 ≤ fl ∧ fl ≤ k * 31) ∧ f.length ≤ k ∧ n ≤ k * 31 ∧
        f ++ (allS p l (l.length + 1 - k) k).1 = R.1 ∧ n + (allS p l (l.length + 1 - k) k).2 = R.2)
    (fun s => ((l.length : Int) + 1 - s.2.1).toNat) ?_ _ ⟨0, 0, [], 0, [], rfl, by omega, CacheI.nil p, by simp; omega, ⟨by simp, fun s hs => by simp at hs, fun s hs => by simp at hs⟩, by omega, by simp, by omega, by rw [Nat.sub_zero, hR]; rfl, by rw [Nat.sub_zero, hR, Nat.zero_add]⟩) ?_
  rotate_left
  · rintro _ rfl
    exact ⟨_, rfl, rfl⟩
  rintro _ ⟨k, n, S, fl, f, rfl, hk, hC, hCl, hSm, hfl, hf, hn, e1, e2⟩
  dsimp only
  by_cases hkl : k ≤ l.length
  rotate_left
  · rw [if_neg (by rw [decide_eq_true_eq]; omega)]
    rw [allS_stop (by omega)] at e1 e2
    refine .inr ⟨_, rfl, ?_⟩
    rw [← e1, ← e2, List.append_nil]
    rfl
  left
  have hd := f66_eq (N := k * 30) (most := most) (fl := fl) (l := l) (k := k) hp hr hSm (by omega) hm (by omega) hCl hC (by omega) hkl
  have hd2 := (d29_eq (N := k * 30) (most := most) (fl := fl) (l := l) (k := k) hp hr hSm (by omega) hm (by omega) hCl hC (by omega) hkl).2
  obtain ⟨T, fl', g1, g2, g3, g4, g5⟩ := longS_ok (most := most) hp (by omega) hC hCl fl l hkl
  rw [g1] at hd hd2
  dsimp only at hd hd2
  have hst : allS p l (l.length + 1 - k) k = if lgS p l k < 0 then ((allS p l (l.length - k) (k + 1)).1, roundsS p (l.drop k) k [0] + (allS p l (l.length - k) (k + 1)).2)
    else (((k : Int), lgS p l k) :: (allS p l (l.length - k) (max (lgS p l k) (k + 1)).toNat).1, roundsS p (l.drop k) k [0] + (allS p l (l.length - k) (max (lgS p l k) (k + 1)).toNat).2) := by
    rw [show l.length + 1 - k = (l.length - k) + 1 by omega]
    rw [allS, if_neg (by omega)]
  rw [hst] at e1 e2
  have hro : roundsS p (l.drop k) k [0] ≤ 31 := by
    have := roundsS_le p (l.drop k) k [0]
    rw [List.length_drop] at this
    omega
  rw [if_pos (by rw [decide_eq_true_eq]; omega), hd]
  simp only [Option.bind_some]
  have hw : IntKind.i64.wrap ((n : Int) + (roundsS p (l.drop k) k [0] : Nat)) = ((n + roundsS p (l.drop k) k [0] : Nat) : Int) := by rw [wrap_i64 (by omega) (by omega)]; omega
  have hlg : lastOr (-1) (runS p l k).1 = lgS p l k := rfl
  rw [hlg, hw, wrap_i64 (x := (k : Int) + 1) (by omega) (by omega)]
  by_cases hl : lgS p l k < 0
  · rw [if_pos hl] at e1 e2
    rw [if_pos (by rw [decide_eq_true_eq]; exact hl)]
    refine ⟨_, rfl, ⟨k + 1, n + roundsS p (l.drop k) k [0], T, fl', f, rfl, by omega, g2, g3, hd2.more (by omega), by omega, by omega, by omega, ?_, ?_⟩, ?_⟩
    · rw [show l.length + 1 - (k + 1) = l.length - k by omega]; exact e1
    · rw [show l.length + 1 - (k + 1) = l.length - k by omega]; omega
    · show ((l.length : Int) + 1 - ((k : Int) + 1)).toNat < ((l.length : Int) + 1 - (k : Int)).toNat
      omega
  · rw [if_neg hl] at e1 e2
    have hin := (lgS_in p l k).resolve_left (by omega)
    rw [if_neg (by rw [decide_eq_true_eq]; exact hl), if_pos (by unfold roomOk; show (f.length + 1) * 16 ≤ _; omega)]
    rw [maxI_eq]
    generalize hM : max (lgS p l k) ((k : Int) + 1) = M at *
    obtain ⟨m, rfl⟩ : ∃ m : Nat, M = (m : Int) := ⟨M.toNat, by omega⟩
    have hkm : k + 1 ≤ m ∧ m ≤ l.length + 1 := by omega
    rw [Int.toNat_natCast] at e1 e2
    refine ⟨_, rfl, ⟨m, n + roundsS p (l.drop k) k [0], T, fl', f ++ [((k : Int), lgS p l k)], rfl, by omega, g2, g3, hd2.more (by omega), by omega, by rw [List.length_append, List.length_singleton]; omega, by omega, ?_, ?_⟩, ?_⟩
    · rw [List.append_assoc, allS_fuel p l (l.length + 1 - m) m (l.length - k) (by omega) (by omega)]; exact e1
    · rw [allS_fuel p l (l.length + 1 - m) m (l.length - k) (by omega) (by omega)]; omega
    · show ((l.length : Int) + 1 - (m : Int)).toNat < ((l.length : Int) + 1 - (k : Int)).toNat
      omega
theorem f39_no {p : List Inst} {l : List Int} {k : Int} (h : rightS p = false ∨ k < 0) : D.f39F (p, l, k) = some ((0, 0), false) := by
  unfold D.f39F
  dsimp only
  rw [s26_any]
  cases hp : rightS p with
  | false => rfl
  | true =>
    simp only [Option.bind_some, Bool.not_true, Bool.false_eq_true, if_false]
    have hk := h.resolve_left (by rw [hp]; decide)
    rw [decide_eq_true hk]
    rfl
theorem f39_ok {p : List Inst} (hp : rightS p = true) (hr : ranged p) {l : List Int} (hll : l.length ≤ 10000) (a : Nat) (ha : a ≤ l.length + 1) : ∃ r, D.f39F (p, l, (a : Int)) = some r ∧ FirstI p l a r := by
  obtain ⟨_, _, hp1000⟩ := rightS_last hp
  unfold D.f39F
  dsimp only
  rw [s26_any, hp]
  simp only [Option.bind_some, Bool.not_true, Bool.false_eq_true, if_false]
  rw [decide_eq_false (show ¬ (a : Int) < 0 by omega)]
  simp only [Bool.false_eq_true, if_false]
  refine bind_ex (Q := fun e : (Int × Int) ⊕ (Bool × Int × Int) => ((∀ j : Nat, a ≤ j → j ≤ l.length → lgS p l j < 0) ∧ e = .inl (0, 0)) ∨ ∃ k : Nat, a ≤ k ∧ k ≤ l.length ∧ (∀ j : Nat, a ≤ j → j < k → lgS p l j < 0) ∧ 0 ≤ lgS p l k ∧ e = .inr (true, (k : Int), lgS p l k))
    (iter_rule (I := fun s : Int × Int × Int => ∃ k : Nat, s = ((k : Int), 0, 0) ∧ a ≤ k ∧ k ≤ l.length + 1 ∧ ∀ j : Nat, a ≤ j → j < k → lgS p l j < 0) (fun s => ((l.length : Int) + 1 - s.1).toNat) ?_ _ ⟨a, rfl, Nat.le_refl _, ha, fun j h1 h2 => by omega⟩) ?_
  · rintro _ ⟨k, rfl, h1, h2, h3⟩
    dsimp only
    by_cases hk : k ≤ l.length
    · rw [if_pos (by rw [decide_eq_true_eq]; omega), s22_eq (by omega) hr l hll k]
      simp only [Option.bind_some]
      have hlg : lastOr (-1) (runS p l k).1 = lgS p l k := rfl
      rw [hlg]
      by_cases hl : 0 ≤ lgS p l k
      · rw [if_pos (by rw [decide_eq_true_eq]; exact hl)]
        exact .inr ⟨_, rfl, .inr ⟨k, h1, hk, h3, hl, rfl⟩⟩
      · rw [if_neg (by rw [decide_eq_true_eq]; exact hl), wrap_i64 (by omega) (by omega)]
        refine .inl ⟨_, rfl, ⟨k + 1, rfl, by omega, by omega, fun j q1 q2 => ?_⟩, by show ((l.length : Int) + 1 - ((k : Int) + 1)).toNat < ((l.length : Int) + 1 - (k : Int)).toNat; omega⟩
        rcases Nat.eq_or_lt_of_le (show j ≤ k by omega) with e | e
        · rw [e]; omega
        · exact h3 j q1 e
    · rw [if_neg (by rw [decide_eq_true_eq]; omega)]
      exact .inr ⟨_, rfl, .inl ⟨fun j q1 q2 => h3 j q1 (by omega), rfl⟩⟩
  · rintro e (⟨h, rfl⟩ | ⟨k, h1, h2, h3, h4, rfl⟩)
    · exact ⟨_, rfl, .inr ⟨h, rfl⟩⟩
    · exact ⟨_, rfl, .inl ⟨k, h1, h2, h3, h4, rfl⟩⟩
theorem FirstI.unique {p : List Inst} {l : List Int} {a : Nat} {x y : (Int × Int) × Bool} (hx : FirstI p l a x) (hy : FirstI p l a y) : x = y := by
  rcases hx with ⟨k, x1, x2, x3, x4, rfl⟩ | ⟨x1, rfl⟩ <;> rcases hy with ⟨k2, y1, y2, y3, y4, rfl⟩ | ⟨y1, rfl⟩
  · have : k = k2 := by
      rcases Nat.lt_trichotomy k k2 with h | h | h
      · have := y3 k x1 h; omega
      · exact h
      · have := x3 k2 y1 h; omega
    rw [this]
  · have := y1 k x1 x2; omega
  · have := x1 k2 y1 y2; omega
  · rfl
theorem first_far {p : List Inst} (hp : rightS p = true) {l : List Int} {k : Int} (h : (l.length : Int) < k) : D.f38F (p, l, k) = some ((0, 0), false) ∧ D.f39F (p, l, k) = some ((0, 0), false) := by
  have hit : ∀ (f : Int × Int × Int → Option ((Int × Int × Int) ⊕ ((Int × Int) ⊕ (Bool × Int × Int)))), f (k, 0, 0) = some (.inr (.inl (0, 0))) → iter f (k, 0, 0) = some (.inl (0, 0)) := fun f hf => iter_inr hf
  constructor
  · unfold D.f38F
    dsimp only
    rw [if_neg (by rw [decide_eq_true_eq]; omega), s42_any, hp]
    simp only [Option.bind_some, Bool.not_true, Bool.false_eq_true, if_false]
    rw [hit _ (by dsimp only; rw [if_neg (by rw [decide_eq_true_eq]; omega)])]
    rfl
  · unfold D.f39F
    dsimp only
    rw [s26_any, hp]
    simp only [Option.bind_some, Bool.not_true, Bool.false_eq_true, if_false]
    rw [decide_eq_false (show ¬ k < 0 by omega)]
    simp only [Bool.false_eq_true, if_false]
    rw [hit _ (by dsimp only; rw [if_neg (by rw [decide_eq_true_eq]; omega)])]
    rfl
theorem scanAnswers_core (p : List Inst) (l two : List Int) (hl : p.length ≤ 9223372036854775807) (hr : ranged p) : D.f10F (p, l, two) = some true := by
  unfold D.f10F
  rw [d34_alive]
  simp only [Option.bind_some, Bool.not_true, Bool.false_eq_true, if_false]
  obtain ⟨g, hg, hg2⟩ := d35_ok p l hl
  rw [hg]
  simp only [Option.bind_some]
  cases g with
  | true => rw [if_pos (by rfl)]
  | false =>
  obtain ⟨hp100, hll⟩ := hg2 rfl
  rw [if_neg (by decide), if_pos (by decide)]
  generalize List.getD two (nat_lit 0) 0 = c
  generalize List.getD two (nat_lit 1) 0 = a
  have hA : ∃ x : List (Int × Int) × Int × Int, D.f36F (p, l, c) = some x ∧ D.f37F (p, l, c) = some x ∧ x.1.length ≤ l.length + 1 := by
    by_cases hok : rightS p = true ∧ 2 ≤ c ∧ c ≤ 1000
    · obtain ⟨hp, hc⟩ := hok
      exact ⟨_, d36_eq hp hr hc hll, f37_eq hp hr hc hll, by have := (allS_ok p l (l.length + 1) 0 (by omega)).len (by omega); dsimp only; omega⟩
    · unfold D.f36F D.f37F
      dsimp only
      rw [d28_eq (by omega) c, f65_eq c]
      cases hp : rightS p with
      | false => exact ⟨_, rfl, rfl, by simp⟩
      | true =>
        have hc : c < 2 ∨ c > 1000 := by
          rcases Int.lt_or_le c 2 with h | h
          · exact .inl h
          · right
            rcases Int.lt_or_le 1000 c with h' | h'
            · exact h'
            · exact absurd ⟨hp, h, h'⟩ hok
        rw [if_neg (by decide), if_pos hc]
        exact ⟨_, rfl, rfl, by simp⟩
  obtain ⟨x, hx, hy, hxl⟩ := hA
  rw [hx, hy]
  simp only [Option.bind_some]
  rw [if_pos (by decide), if_pos (by decide)]
  have hF : ∃ y, D.f38F (p, l, a) = some y ∧ D.f39F (p, l, a) = some y := by
    cases hp : rightS p with
    | false => exact ⟨_, d38_no (.inl hp), f39_no (.inl hp)⟩
    | true =>
      rcases Int.lt_or_le a 0 with h0 | h0
      · exact ⟨_, d38_no (.inr h0), f39_no (.inr h0)⟩
      · rcases Int.lt_or_le (l.length : Int) a with h1 | h1
        · exact ⟨_, first_far hp h1⟩
        · obtain ⟨n, rfl⟩ := Int.eq_ofNat_of_zero_le h0
          obtain ⟨y, hy, fy⟩ := d38_ok hp hr (by omega : l.length ≤ 10000) n (by omega)
          obtain ⟨z, hz, fz⟩ := f39_ok hp hr (by omega : l.length ≤ 10000) n (by omega)
          rw [← FirstI.unique fy fz] at hz
          exact ⟨y, hy, hz⟩
  obtain ⟨y, hy1, hy2⟩ := hF
  rw [hy1, hy2]
  simp only [Option.bind_some]
  rw [if_pos (by decide), d40_self x.1 (by omega)]
  simp only [Option.bind_some, if_true, beq_self_eq_true]
  have : Ty.eqb (Ty.st (Ty.pair (Ty.int IntKind.i64) (Ty.int IntKind.i64))) (y.1.1, y.1.2) (y.1.1, y.1.2) = true := pair_same (y.1.1, y.1.2)
  rw [if_pos this]
theorem scanAnswers_pure (x : List Inst × List Int × List Int) (h : wfTup [.sl (.st (.pair (.int .i64) (.pair (.sl (.st (.pair (.int .i64) (.int .i64)))) (.pair (.int .i64) (.int .i64))))), .sl (.int .i64), .arr 2 (.int .i64)] x) : D.f10F x = some true := by
  obtain ⟨p, l, two⟩ := x
  exact scanAnswers_core p l two h.1.1 (ranged_of h.1.2)
end Go.Sx
