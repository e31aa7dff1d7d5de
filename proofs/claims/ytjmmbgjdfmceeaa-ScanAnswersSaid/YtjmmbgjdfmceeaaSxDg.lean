/- Dfa: the longest. -/
import Derived.Test.YtjmmbgjdfmceeaaSxDf
set_option linter.unusedVariables false
set_option linter.unusedSimpArgs false
namespace Go.Sx
theorem Small.find {S : List StD} {N : Nat} (h : Small S N) {most : Int} (hm : most ≤ 1000) (hl : (S.length : Int) ≤ most) (fl : Int) {A : List Int} (hA : A.length ≤ 1000) (b : Bool) : Small (findS most S fl A b).1 N := by
  unfold findS
  by_cases hk : knownS S A b ≠ -1
  · rw [if_pos hk]; exact h
  · rw [if_neg hk]
    by_cases he : (S.length : Int) = most
    · rw [if_pos he]
      exact ⟨by simp, fun s hs => by simp at hs; subst hs; exact hA, fun s hs => by simp at hs; subst hs; exact Nat.zero_le _⟩
    · rw [if_neg he]
      refine ⟨by simp; omega, fun s hs => ?_, fun s hs => ?_⟩
      · rcases List.mem_append.1 hs with h1 | h1
        · exact h.at_ s h1
        · simp at h1; subst h1; exact hA
      · rcases List.mem_append.1 hs with h1 | h1
        · exact h.ed s h1
        · simp at h1; subst h1; exact Nat.zero_le _
theorem Small.edge {S : List StD} {N : Nat} (h : Small S N) {i : Nat} (hi : i < S.length) (c to : Int) : Small (S.set i (edgeS (S.getD i dSt) c to)) (N + 1) := by
  have hs : S.getD i dSt ∈ S := by rw [getD_lt _ _ hi]; exact List.getElem_mem _
  refine ⟨by simpa using h.len, fun s hm => ?_, fun s hm => ?_⟩
  · rcases List.mem_or_eq_of_mem_set hm with h1 | rfl
    · exact h.at_ s h1
    · exact h.at_ (S.getD i dSt) hs
  · rcases List.mem_or_eq_of_mem_set hm with h1 | rfl
    · have := h.ed s h1; omega
    · have := h.ed (S.getD i dSt) hs
      show ((S.getD i dSt).2.2 ++ [(c, to)]).length ≤ N + 1
      rw [List.length_append, List.length_singleton]; omega
theorem Small.more {S : List StD} {N M : Nat} (h : Small S N) (hNM : N ≤ M) : Small S M := ⟨h.len, h.at_, fun s hs => Nat.le_trans (h.ed s hs) hNM⟩
theorem Small.next {p : List Inst} (hp : rightS p = true) {S : List StD} {N : Nat} (h : Small S N) {most : Int} (hm : most ≤ 1000) (hl : (S.length : Int) ≤ most) (fl : Int) {i : Nat} (hi : i < S.length) (c : Int) : Small (nextS p most S fl i c).1 (N + 1) := by
  unfold nextS
  split
  · exact h.more (Nat.le_succ _)
  · by_cases hb : behS p (S.getD i dSt) c = []
    · rw [if_pos hb]; exact h.edge hi c (-1)
    · rw [if_neg hb]
      obtain ⟨_, _, hp1⟩ := rightS_last hp
      have hbl : (behS p (S.getD i dSt) c).length ≤ 1000 := by
        unfold behS
        have h1 := moveS_len p (reachS p (S.getD i dSt).1 (S.getD i dSt).2.1 false) c
        have h2 := reachS_len p (S.getD i dSt).1 (S.getD i dSt).2.1 false
        omega
      have hf := h.find hm hl fl hbl false
      dsimp only
      cases hw : (findS most S fl (behS p (S.getD i dSt) c) false).2.2.2 with
      | true => rw [if_pos (by rfl)]; exact hf.more (Nat.le_succ _)
      | false =>
        rw [if_neg (by decide)]
        obtain ⟨X, hX⟩ := findS_keep hw
        refine hf.edge ?_ c _
        rw [hX, List.length_append]; omega
theorem longG_nil (p : List Inst) (most : Int) (i : Nat) (S : List StD) (fl : Int) (s : Nat) (e : Int) (n : Nat) : longG p most [] i S fl s e n = (S, fl, if matchS p (reachS p (S.getD s dSt).1 (S.getD s dSt).2.1 true) = true then (i : Int) else e, n + 1) := rfl
theorem d29_eq {p : List Inst} (hp : rightS p = true) (hr : ranged p) {most fl : Int} {S : List StD} {N : Nat} (hS : Small S N) (hN : N ≤ 10000) (hm : 2 ≤ most ∧ most ≤ 1000) (hfl : 0 ≤ fl ∧ fl ≤ 100000) (hl : (S.length : Int) ≤ most) (h : CacheI p S)
    {l : List Int} (hll : l.length ≤ 10000) {k : Nat} (hk : k ≤ l.length) :
    D.f29F ((p, most, S, fl), l, (k : Int)) = some ((p, most, (longS p most S fl l k).1, (longS p most S fl l k).2.1), (longS p most S fl l k).2.2.1, ((longS p most S fl l k).2.2.2 : Int)) ∧ Small (longS p most S fl l k).1 (N + l.length) := by
  obtain ⟨_, _, hp1000⟩ := rightS_last hp
  have hdo : (([] : List Int), false, false, ([] : List (Int × Int))) = dO := rfl
  obtain ⟨T, fl', j, w, f1, f2, f3, ⟨f4, f5, f6⟩, f7, f8, f9⟩ := findS_ok h hl (by omega : 1 ≤ most) fl (b := decide (k = 0)) (zero_ok hp)
  have hfl' : fl ≤ fl' ∧ fl' ≤ fl + 1 := by
    cases w with
    | true => have := (f8 rfl).1; omega
    | false => have := (f9 rfl).1; omega
  have hST : Small T N := by
    have := hS.find hm.2 hl fl (A := [0]) (by simp) (decide (k = 0))
    rw [f1] at this; exact this
  have hlong : longS p most S fl l k = longG p most (l.drop k) k T fl' j (-1) 0 := by
    unfold longS
    rw [f1]
    simp only [Int.toNat_natCast]
  unfold D.f29F
  dsimp only
  rw [if_neg (by rw [decide_eq_true_eq]; omega), if_neg (by rw [decide_eq_true_eq]; omega), d30_true hp hr hS (by omega) hm hfl.1 hl h]
  simp only [Option.bind_some, Bool.not_true, Bool.false_eq_true, if_false]
  rw [d52_eq hS (by omega)]
  simp only [Option.bind_some]
  rw [natb0, d53_eq hS (by omega) (by simp) _, f1]
  simp only [Option.bind_some, hdo]
  rw [hlong]
  generalize hR : longG p most (l.drop k) k T fl' j (-1) 0 = R
  suffices hit : ∃ e, iter (fun (s4 : Int × Int × Int × Int × Int × Int × List Inst × List StO × List Inst × Int × Int × List StO) =>
      if (s4.2.2.1 != (-1 : Int)) = true then
        Option.bind
          (if 0 ≤ s4.2.2.1 ∧ s4.2.2.1 < ((s4.2.2.2.2.2.2.2.2.2.2.2.length : Nat) : Int) then
            Option.bind (D.f54F ((Ty.erD (Ty.sl (Ty.int IntKind.i64)) (s4.2.2.2.2.2.2.2.2.2.2.2.getD s4.2.2.1.toNat dO).1, Ty.erD (Ty.pair Ty.bool (Ty.osl (Ty.st (Ty.pair (Ty.int IntKind.i64) (Ty.int IntKind.i64))))) (s4.2.2.2.2.2.2.2.2.2.2.2.getD s4.2.2.1.toNat dO).2),
                s4.2.2.2.1 == (l.length : Int), s4.2.2.2.2.2.2.2.2.1, s4.2.2.2.2.2.2.2.2.2.1, s4.2.2.2.2.2.2.2.2.2.2.1, s4.2.2.2.2.2.2.2.2.2.2.2))
              fun (v5 : Bool × List Inst × Int × Int × List StO) =>
              if v5.1 = true then some (s4.2.2.2.1, s4.2.2.2.2.1, s4.2.2.2.2.2.1, s4.2.2.2.2.2.2.1, s4.2.2.2.2.2.2.2.1, v5.2.1, v5.2.2.1, v5.2.2.2.1, v5.2.2.2.2)
              else some (s4.2.1, s4.2.2.2.2.1, s4.2.2.2.2.2.1, s4.2.2.2.2.2.2.1, s4.2.2.2.2.2.2.2.1, v5.2.1, v5.2.2.1, v5.2.2.2.1, v5.2.2.2.2)
          else none)
          fun (v5 : Int × Int × Int × List Inst × List StO × List Inst × Int × Int × List StO) =>
          if (s4.2.2.2.1 == (l.length : Int)) = true then
            some (Sum.inr (IntKind.i64.wrap (s4.1 + 1), v5.1, v5.2.1, v5.2.2.1, v5.2.2.2.1, v5.2.2.2.2.1, v5.2.2.2.2.2.1, v5.2.2.2.2.2.2.1, v5.2.2.2.2.2.2.2.1, v5.2.2.2.2.2.2.2.2))
          else
            if 0 ≤ s4.2.2.2.1 ∧ s4.2.2.2.1 < (l.length : Int) then
              Option.bind (D.f55F (s4.2.2.1, l.getD s4.2.2.2.1.toNat 0, v5.2.2.2.2.2.1, v5.2.2.2.2.2.2.1, v5.2.2.2.2.2.2.2.1, v5.2.2.2.2.2.2.2.2)) fun (v6 : Int × List Inst × Int × Int × List StO) =>
                some (Sum.inl (IntKind.i64.wrap (s4.1 + 1), v5.1, v6.1, IntKind.i64.wrap (s4.2.2.2.1 + 1), v5.2.1, v5.2.2.1, v5.2.2.2.1, v5.2.2.2.2.1, v6.2.1, v6.2.2.1, v6.2.2.2.1, v6.2.2.2.2))
            else none
      else some (Sum.inr (s4.1, s4.2.1, s4.2.2.2.2.1, s4.2.2.2.2.2.1, s4.2.2.2.2.2.2.1, s4.2.2.2.2.2.2.2.1, s4.2.2.2.2.2.2.2.2.1, s4.2.2.2.2.2.2.2.2.2.1, s4.2.2.2.2.2.2.2.2.2.2.1, s4.2.2.2.2.2.2.2.2.2.2.2)))
      (0, -1, (j : Int), (k : Int), 0, 0, [], [], p, most, fl', ow T) = some e ∧ (e = ((R.2.2.2 : Int), R.2.2.1, 0, 0, [], [], p, most, R.2.1, ow R.1) ∧ Small R.1 (N + l.length)) by
    obtain ⟨e, he, rfl, hsm⟩ := hit
    refine ⟨?_, hsm⟩
    rw [he]
    simp only [Option.bind_some]
    rw [er_ow]
  refine iter_rule (I := fun (s4 : Int × Int × Int × Int × Int × Int × List Inst × List StO × List Inst × Int × Int × List StO) =>
      (∃ (i : Nat) (S : List StD) (fl : Int) (s : Nat) (e : Int) (n : Nat), s4 = ((n : Int), e, (s : Int), (i : Int), 0, 0, [], [], p, most, fl, ow S) ∧ k ≤ i ∧ i ≤ l.length ∧ s < S.length ∧ CacheI p S ∧ (S.length : Int) ≤ most ∧ Small S (N + i) ∧ (0 ≤ fl ∧ fl ≤ 100001 + i) ∧ n ≤ i ∧
        longG p most (l.drop i) i S fl s e n = R) ∨
      (∃ (i : Nat) (S : List StD) (fl : Int) (e : Int) (n : Nat), s4 = ((n : Int), e, (-1 : Int), (i : Int), 0, 0, [], [], p, most, fl, ow S) ∧ Small S (N + l.length) ∧ R = (S, fl, e, n)))
    (fun s4 => if s4.2.2.1 = -1 then 0 else (l.length + 1 - s4.2.2.2.1).toNat) ?_ _ (.inl ⟨k, T, fl', j, -1, 0, rfl, Nat.le_refl _, hk, f4, f2, f3, hST.more (by omega), by omega, Nat.zero_le _, hR⟩)
  rintro _ (⟨i, S, fl, s, e, n, rfl, hki, hil, hs, hC, hCl, hSm, hfl1, hn, hG⟩ | ⟨i, S, fl, e, n, rfl, hSm, rfl⟩)
  rotate_left
  · right
    dsimp only
    rw [if_neg (by decide)]
    exact ⟨_, rfl, rfl, hSm⟩
  have hsm : S.getD s dSt ∈ S := by rw [getD_lt _ _ hs]; exact List.getElem_mem _
  have hat := hSm.at_ _ hsm
  have hw : IntKind.i64.wrap ((n : Int) + 1) = ((n + 1 : Nat) : Int) := by rw [wrap_i64 (by omega) (by omega)]; omega
  have hw2 : IntKind.i64.wrap ((i : Int) + 1) = ((i + 1 : Nat) : Int) := by rw [wrap_i64 (by omega) (by omega)]; omega
  dsimp only
  rw [if_pos (by simp only [bne_iff_ne, ne_eq]; omega), ow_len, if_pos (by omega)]
  simp only [Int.toNat_natCast, ow_get hs, hw, hw2]
  have e1 : (Ty.erD (Ty.sl (Ty.int IntKind.i64)) (owS (S.getD s dSt)).1, Ty.erD (Ty.pair Ty.bool (Ty.osl (Ty.st (Ty.pair (Ty.int IntKind.i64) (Ty.int IntKind.i64))))) (owS (S.getD s dSt)).2) = S.getD s dSt := rfl
  rw [e1, d54_eq hp (by omega)]
  simp only [Option.bind_some, natb]
  generalize hmt : matchS p (reachS p (S.getD s dSt).1 (S.getD s dSt).2.1 (decide (i = l.length))) = mt
  have hif : ∀ {R : Type} (K : Int × Int × Int × List Inst × List StO × List Inst × Int × Int × List StO → Option R), Option.bind (if mt = true then some ((i : Int), (0 : Int), (0 : Int), ([] : List Inst), ([] : List StO), p, most, fl, ow S) else some (e, 0, 0, [], [], p, most, fl, ow S)) K = K (if mt = true then (i : Int) else e, 0, 0, [], [], p, most, fl, ow S) := by
    intro R K; cases mt <;> rfl
  rw [hif]
  dsimp only
  by_cases hie : i = l.length
  · right
    rw [if_pos (by rw [decide_eq_true_eq]; exact hie)]
    rw [decide_eq_true hie] at hmt
    have hd : l.drop i = [] := List.drop_of_length_le (by omega)
    rw [hd, longG_nil, hmt] at hG
    exact ⟨_, rfl, by rw [← hG], by rw [← hG]; exact hSm.more (by omega)⟩
  · left
    rw [decide_eq_false hie] at hmt
    have hil2 : i < l.length := by omega
    have hd : l.drop i = l[i] :: l.drop (i + 1) := List.drop_eq_getElem_cons hil2
    rw [if_neg (by rw [decide_eq_true_eq]; exact hie), if_pos (by omega)]
    rw [d55_eq hp hr hSm (by omega) (by omega) hs]
    simp only [Option.bind_some]
    have hgl : l.getD i 0 = l[i] := getD_lt _ _ hil2
    rw [hgl]
    rw [hd] at hG
    unfold longG at hG
    simp only [hmt] at hG
    obtain ⟨T', fl'', to, t1, t2, t3, t4, t5, t6, t7⟩ := nextS_ok hp hC hCl (by omega : 1 ≤ most) fl hs l[i]
    have hsn := Small.next hp hSm hm.2 hCl fl hs l[i]
    rw [t1] at hG hsn ⊢
    simp only at hG hsn ⊢
    refine ⟨_, rfl, ?_, ?_⟩
    · by_cases hb : behS p S[s] l[i] = []
      · have hto := t6 hb
        subst hto
        rw [if_pos (by omega)] at hG
        exact .inr ⟨i + 1, T', fl'', _, n + 1, rfl, hsn.more (by omega), hG.symm⟩
      · obtain ⟨q, rfl, hq, _, _⟩ := t7 hb
        rw [if_neg (by omega), Int.toNat_natCast] at hG
        exact .inl ⟨i + 1, T', fl'', q, _, n + 1, rfl, by omega, hil2, hq, t2, t3, hsn.more (by omega), by omega, by omega, hG⟩
    · dsimp only
      rw [if_neg (show ¬ ((s : Int) = -1) by omega)]
      split <;> omega
end Go.Sx
