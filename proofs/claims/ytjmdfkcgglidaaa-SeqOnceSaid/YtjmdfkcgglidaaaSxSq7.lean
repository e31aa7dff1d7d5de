/- Seq, plain: the sequences, as the program joins them. -/
import Derived.Test.YtjmdfkcgglidaaaSxSq6
set_option linter.unusedVariables false
set_option linter.unusedSimpArgs false
namespace Go.Sx

theorem iter_map2 {A B C : Type} (R : List A) (z : C) (g : A → B) (f : Int × C × List B → Option ((Int × C × List B) ⊕ List B)) (h : ∀ (k : Nat) (hk : k < R.length), f ((k : Int), z, (R.take k).map g) = some (.inl (((k + 1 : Nat) : Int), z, (R.take k).map g ++ [g R[k]])))
    (he : f ((R.length : Int), z, R.map g) = some (.inr (R.map g))) : iter f (0, z, []) = some (R.map g) := by
  refine some_of (iter_rule (I := fun s => ∃ k : Nat, k ≤ R.length ∧ s = ((k : Int), z, (R.take k).map g)) (Q := fun r => r = R.map g) (fun s => (R.length - s.1).toNat) ?_ _ ⟨0, Nat.zero_le _, rfl⟩)
  rintro _ ⟨k, hk, rfl⟩
  by_cases hkn : k < R.length
  · refine .inl ⟨_, h k hkn, ⟨k + 1, hkn, ?_⟩, by simp; omega⟩
    rw [List.take_succ_eq_append_getElem hkn, List.map_append]; rfl
  · have : k = R.length := by omega
    subst this
    rw [List.take_length]
    exact .inr ⟨_, he, rfl⟩

/-- What is joined so far. -/
def allS (c : List Int) (R : List (List Int)) (m k : Nat) : List (Bool × List Int) := (List.range (rankH (nxR c R) m)).map fun s => (true, catR R (memb (nxR c R) k s))

theorem allS_get {c : List Int} {R : List (List Int)} {m k s : Nat} (h : s < rankH (nxR c R) m) : (allS c R m k).getD s (false, []) = (true, catR R (memb (nxR c R) k s)) := by
  unfold allS
  rw [getD_at _ (by simpa using h)]
  simp

theorem allS_head {c : List Int} {R : List (List Int)} {k : Nat} (hp : prevOf (nxR c R) k = none) : allS c R k k ++ [(true, [])] = allS c R (k + 1) k := by
  unfold allS
  rw [rankH_succ, hp]
  simp only [Option.isNone_none, if_true]
  rw [List.range_succ, List.map_append, List.map_singleton]
  have := memb_head (nx := nxR c R) hp
  rw [sidx_head hp] at this
  rw [this]; rfl

theorem allS_prev {c : List Int} {R : List (List Int)} {k i : Nat} (hp : prevOf (nxR c R) k = some i) : allS c R k k = allS c R (k + 1) k := by
  unfold allS
  rw [rankH_succ, hp]
  simp

theorem allS_set {c : List Int} {R : List (List Int)} (k : Nat) : (allS c R (k + 1) k).set (sidx (nxR c R) k) (true, catR R (memb (nxR c R) k (sidx (nxR c R) k)) ++ R.getD k []) = allS c R (k + 1) (k + 1) := by
  unfold allS
  apply List.ext_getElem
  · simp
  · intro n h1 h2
    rw [List.getElem_set]
    split
    · rename_i hn
      subst hn
      simp only [List.getElem_map, List.getElem_range]
      rw [memb_succ, if_pos (by simp)]
      simp [catR]
    · rename_i hn
      simp only [List.getElem_map, List.getElem_range]
      rw [memb_succ, if_neg (by simpa using hn), List.append_nil]

theorem f7_eq {c v : List Int} {base : Int} (hc : c.length ≤ 100000) : Q.f7F (c, v, base) = some (if c.length = v.length then seqsS c v base else []) := by
  unfold Q.f7F
  dsimp only
  by_cases hcv : c.length = v.length
  rotate_left
  · rw [if_pos (by simp; omega), if_neg hcv]
  rw [if_neg (by simp; omega), if_pos hcv, f18_eq hc, f19_eq hc]
  simp only [Option.bind_some]
  have hsl : (seenS c).length ≤ 100000 := Nat.le_trans (sN_len _ _) hc
  rw [f20_eq hcv.symm (fun p hp => by obtain ⟨j, rfl, h1, _⟩ := seen_mem hp; omega) hsl hc]
  simp only [Option.bind_some]
  have hR : RF c (runsL (brkS c v) (seenS c)) := runsS_rf c v
  unfold seqsS runsS
  generalize hRe : runsL (brkS c v) (seenS c) = R at *
  have hcount := hR.count
  have hml : (matchS c).length = c.length := by simp [matchS]
  -- the second loop
  have second : ∀ x, x = allS c R R.length R.length → (Option.bind (iter (fun (s5 : Int × List (Bool × List Int) × List (List Int × Int × Int × Int)) =>
      if decide (s5.1 < (x.length : Int)) = true then
        if 0 ≤ s5.1 ∧ s5.1 < (s5.2.1.length : Int) then
          Option.bind (Q.f22F ((c, v, seenS c, rankS c), (s5.2.1.getD s5.1.toNat (false, [])).2, base)) fun v6 =>
            if roomOk (s5.2.2.length + 1) 48 then some (Sum.inl (IntKind.i64.wrap (s5.1 + 1), s5.2.1, s5.2.2 ++ [v6])) else none
        else none
      else some (Sum.inr s5.2.2)) (0, x, [])) fun v5 => some v5) = some ((List.range (rankH (nxR c R) R.length)).map fun s => seqS c v (catR R (memb (nxR c R) R.length s)) base) := by
    rintro _ rfl
    have hlen : (allS c R R.length R.length).length = rankH (nxR c R) R.length := by simp [allS]
    have hrk : rankH (nxR c R) R.length ≤ R.length := by unfold rankH; exact Nat.le_trans (List.length_filter_le _ _) (by simp)
    rw [iter_map2 (List.range (rankH (nxR c R) R.length)) (allS c R R.length R.length) (fun s => seqS c v (catR R (memb (nxR c R) R.length s)) base)]
    · rfl
    · intro k hk
      have hk' : k < rankH (nxR c R) R.length := by simpa using hk
      have hw : IntKind.i64.wrap ((k : Int) + 1) = ((k + 1 : Nat) : Int) := by rw [wrap_i64 (by omega) (by omega)]; omega
      have h1 := memb_len hR R.length k (Nat.le_refl _)
      dsimp only
      simp (disch := omega) only [if_pos, decide_eq_true_eq, hlen, Int.toNat_natCast, allS_get hk', hw]
      rw [f22_seq hc hcv.symm (memb_ne hR hk') (by omega) (memb_seen hR (Nat.le_refl _))]
      simp only [Option.bind_some]
      rw [if_pos (by unfold roomOk; simp; omega)]
      simp
    · dsimp only
      rw [if_neg (by rw [decide_eq_true_eq, hlen]; simp)]
  refine some_of (bind_ex (Q := fun e => e = allS c R R.length R.length) ?_ fun e he => ⟨_, second e he, rfl⟩)
  clear second
  refine iter_rule (I := fun (s : Int × List (Int × Int) × List (Bool × List Int)) => ∃ (k : Nat) (W : List (Int × Int)), k ≤ R.length ∧ s = ((k : Int), W, allS c R k k) ∧ ∀ p, mget (K := .int .i64) (V := .int .i64) W p = wS c R k p) (fun s => (R.length - s.1).toNat) ?_ _ ⟨0, [], Nat.zero_le _, rfl, fun p => rfl⟩
  rintro _ ⟨k, W, hk, rfl, hW⟩
  by_cases hkl : k < R.length
  rotate_left
  · have : k = R.length := by omega
    subst this
    right
    dsimp only
    rw [if_neg (by rw [decide_eq_true_eq]; omega)]
    exact ⟨_, rfl, rfl⟩
  left
  obtain ⟨hr1, hr2, hr3⟩ := hR.run hkl
  have hrl : (R.getD k []).length ≤ c.length := by
    have h1 : (R.getD k []).length ≤ R.flatten.length := by
      rw [List.length_flatten]
      exact len_le_sum hr1
    have := hR.small; omega
  have hw : IntKind.i64.wrap ((k : Int) + 1) = ((k + 1 : Nat) : Int) := by rw [wrap_i64 (by omega) (by omega)]; omega
  have hwl : IntKind.i64.wrap (((R.getD k []).length : Int) - 1) = (((R.getD k []).length - 1 : Nat) : Int) := by rw [wrap_i64 (by omega) (by omega)]; omega
  have hrk : rankH (nxR c R) k ≤ k := by unfold rankH; exact Nat.le_trans (List.length_filter_le _ _) (by simp)
  have hrk1 : rankH (nxR c R) (k + 1) ≤ k + 1 := by unfold rankH; exact Nat.le_trans (List.length_filter_le _ _) (by simp)
  have hal : ∀ m j, (allS c R m j).length = rankH (nxR c R) m := fun m j => by simp [allS]
  have hfst : (R.getD k []).getD 0 0 = fstR R k := rfl
  have hlst : (R.getD k []).getD ((R.getD k []).length - 1) 0 = lstR R k := rfl
  have hz : Int.toNat (0 : Int) = 0 := rfl
  have hget : mgetX (.int .i64) (.int .i64) W (fstR R k) = (prevOf (nxR c R) k).map fun i => (sidx (nxR c R) i : Int) := by
    show mget (K := .int .i64) (V := .int .i64) W (fstR R k) = _
    rw [hW]
    unfold wS
    rw [hR.prev_find hkl]
  -- which one it joins
  have hjoin : ∀ (T : Type) (K : Int × List (Int × Int) × List (Bool × List Int) → Option T),
      (Option.bind (if (!((prevOf (nxR c R) k).map fun i => (sidx (nxR c R) i : Int)).isSome) = true then
        if roomOk ((allS c R k k).length + 1) 24 then some (((allS c R k k).length : Int), W, allS c R k k ++ [(true, [])]) else none
      else some (Option.getD ((prevOf (nxR c R) k).map fun i => (sidx (nxR c R) i : Int)) 0, W, allS c R k k)) K) = K ((sidx (nxR c R) k : Int), W, allS c R (k + 1) k) := by
    intro T K
    cases hp : prevOf (nxR c R) k with
    | none =>
      simp only [Option.map_none, Option.isSome_none, Bool.not_false, if_true]
      rw [if_pos (by unfold roomOk; rw [hal]; omega), allS_head hp, hal, sidx_head hp]; rfl
    | some i =>
      simp only [Option.map_some, Option.isSome_some, Bool.not_true, Bool.false_eq_true, if_false, Option.getD_some]
      rw [sidx_prev hp, allS_prev hp]; rfl
  have hsx := sidx_lt (nxR c R) k
  have hcl := memb_len hR k (sidx (nxR c R) k) (by omega)
  obtain ⟨j, hj, hj1, _⟩ := seen_mem (hR.lst_seen hkl)
  dsimp only
  rw [if_pos (by rw [decide_eq_true_eq]; omega), if_pos (by omega)]
  simp only [Int.toNat_natCast, hz]
  rw [if_pos (by omega)]
  simp only [hfst, hget, hwl, Int.toNat_natCast, hlst, hw]
  rw [hjoin]
  dsimp only
  rw [hal, if_pos (by omega)]
  simp only [Int.toNat_natCast, allS_get hsx, List.length_set, hal, List.set_set, allS_set, hw]
  rw [if_pos (by rfl), if_pos (by unfold roomOk; omega), if_pos (by omega), if_pos (by omega), if_pos (by rw [hj]; omega)]
  simp only [f21_eq, Option.bind_some, hj, Int.toNat_natCast, hml]
  have hsucc := hR.w_succ hkl
  cases ho : opens (c.getD j 0) with
  | false =>
    simp only [Bool.false_eq_true, if_false, Option.bind_some]
    refine ⟨_, rfl, ⟨k + 1, W, hkl, rfl, fun p => ?_⟩, by simp; omega⟩
    rw [hsucc, hW, if_neg (by unfold tgtR; rw [hj, Int.toNat_natCast, ho]; simp)]
  | true =>
    simp only [if_true]
    rw [if_pos (by omega)]
    simp only [Option.bind_some]
    have hme := matchS_open hj1 ho
    by_cases hm : (matchS c).getD j 0 = -1
    · rw [hm, if_neg (by decide)]
      refine ⟨_, rfl, ⟨k + 1, W, hkl, rfl, fun p => ?_⟩, by simp; omega⟩
      rw [hsucc, hW, if_neg (by unfold tgtR; rw [hj, Int.toNat_natCast, hm]; simp)]
    · rw [if_pos (by simpa using hm), if_pos (by omega)]
      have hpos : 0 ≤ (matchS c).getD j 0 := by
        rw [hme] at hm ⊢
        rcases endOf_gt c j with h2 | h2
        · exact absurd h2 hm
        · omega
      refine ⟨_, rfl, ⟨k + 1, _, hkl, rfl, fun p => ?_⟩, by simp; omega⟩
      show mget (K := .int .i64) (V := .int .i64) (mput (K := .int .i64) (V := .int .i64) W _ _) p = _
      rw [mget_mput, hsucc, hW]
      have ht : tgtR c R k = some ((matchS c).getD j 0) := by unfold tgtR; rw [hj, Int.toNat_natCast, if_pos ⟨ho, hpos⟩]
      rw [ht]
      by_cases hpm : p = (matchS c).getD j 0
      · rw [if_pos hpm, if_pos (by rw [hpm])]
      · rw [if_neg hpm, if_neg (fun e => hpm (Option.some.inj e).symm)]

end Go.Sx
