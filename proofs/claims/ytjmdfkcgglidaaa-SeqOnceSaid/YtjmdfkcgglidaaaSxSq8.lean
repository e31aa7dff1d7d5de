/- Seq, plain: the sequences, as the document joins them. -/
import Derived.Test.YtjmdfkcgglidaaaSxSq7
set_option linter.unusedVariables false
set_option linter.unusedSimpArgs false
namespace Go.Sx

/-- The number of the next run, or none. -/
def nxI (c : List Int) (R : List (List Int)) (k : Nat) : Int := match nxR c R k with
  | some j => (j : Int)
  | none => -1

theorem f25_eq {c : List Int} {R : List (List Int)} (h : RF c R) (hc : c.length ≤ 100000) {k : Nat} (hk : k < R.length) : Q.f25F (c, R, matchS c, (k : Int)) = some (nxI c R k) := by
  unfold Q.f25F
  dsimp only
  obtain ⟨hr1, hr2, hr3⟩ := h.run hk
  have hml : (matchS c).length = c.length := by simp [matchS]
  have hrl : (R.getD k []).length ≤ c.length := by
    have h1 : (R.getD k []).length ≤ R.flatten.length := by
      rw [List.length_flatten]
      exact len_le_sum hr1
    have := h.small; omega
  have hcount := h.count
  have hwl : IntKind.i64.wrap (((R.getD k []).length : Int) - 1) = (((R.getD k []).length - 1 : Nat) : Int) := by rw [wrap_i64 (by omega) (by omega)]; omega
  have hlst : (R.getD k []).getD ((R.getD k []).length - 1) 0 = lstR R k := rfl
  have hz : Int.toNat (0 : Int) = 0 := rfl
  obtain ⟨j, hj, hj1, _⟩ := seen_mem (h.lst_seen hk)
  rw [if_pos (by omega), if_pos (by omega)]
  simp only [Int.toNat_natCast, hwl, hlst, hz, hml]
  rw [if_pos (by omega), if_pos (by omega)]
  simp only [f35_eq, Option.bind_some, hj, Int.toNat_natCast]
  cases ho : opens (c.getD j 0) with
  | false =>
    simp only [Bool.not_false, if_true, Option.bind_some]
    unfold nxI nxR
    rw [if_pos hk, show tgtR c R k = none by unfold tgtR; rw [hj, Int.toNat_natCast, ho]; simp]
  | true =>
    simp only [Bool.not_true, Bool.false_eq_true, if_false]
    rw [if_pos (by omega)]
    simp only [Option.bind_some, decide_eq_true_eq]
    by_cases hm : (matchS c).getD j 0 < 0
    · rw [if_pos hm]
      unfold nxI nxR
      rw [if_pos hk, show tgtR c R k = none by unfold tgtR; rw [hj, Int.toNat_natCast, if_neg (by omega)]]
    · rw [if_neg hm]
      have ht : tgtR c R k = some ((matchS c).getD j 0) := by unfold tgtR; rw [hj, Int.toNat_natCast, if_pos ⟨ho, by omega⟩]
      have hnx : nxR c R k = (List.range R.length).find? fun i => fstR R i == (matchS c).getD j 0 := by
        unfold nxR; rw [if_pos hk, ht]
      unfold nxI
      rw [hnx]
      generalize (matchS c).getD j 0 = p at *
      have hkey : ∃ e : PUnit ⊕ Int, iter (fun (s2 : Int) => if s2 < (R.length : Int) then if 0 ≤ s2 ∧ s2 < (R.length : Int) then if 0 ≤ (0 : Int) ∧ 0 < ((R.getD s2.toNat []).length : Int) then
          if 0 ≤ (j : Int) ∧ (j : Int) < (c.length : Int) then if ((R.getD s2.toNat []).getD 0 0 == p) = true then some (Sum.inr (Sum.inr s2)) else some (Sum.inl (IntKind.i64.wrap (s2 + 1))) else none else none else none else some (Sum.inr (Sum.inl ()))) 0 = some e ∧
          ((∃ i : Nat, e = .inr (i : Int) ∧ (List.range R.length).find? (fun i => fstR R i == p) = some i) ∨ (e = .inl () ∧ (List.range R.length).find? (fun i => fstR R i == p) = none)) := by
        refine iter_rule (I := fun s => ∃ i : Nat, i ≤ R.length ∧ s = (i : Int) ∧ ∀ x, x < i → (fstR R x == p) = false) (fun s => (R.length - s).toNat) ?_ _ ⟨0, Nat.zero_le _, rfl, fun x hx => by omega⟩
        rintro _ ⟨i, hi, rfl, hno⟩
        by_cases hil : i < R.length
        · have hri := (h.run hil).2.2
          have hw : IntKind.i64.wrap ((i : Int) + 1) = ((i + 1 : Nat) : Int) := by rw [wrap_i64 (by omega) (by omega)]; omega
          rw [if_pos (by omega), if_pos (by omega)]
          simp only [Int.toNat_natCast]
          rw [if_pos (by omega), if_pos (by omega)]
          have hf : (R.getD i []).getD 0 0 = fstR R i := rfl
          simp only [hf]
          cases hb : (fstR R i == p) with
          | true =>
            right
            refine ⟨_, rfl, .inl ⟨i, rfl, ?_⟩⟩
            rw [List.find?_range_eq_some]
            exact ⟨hb, by simpa using hil, fun x hx => by simpa using hno x hx⟩
          | false =>
            left
            refine ⟨_, rfl, ⟨i + 1, hil, hw, fun x hx => ?_⟩, by rw [hw]; omega⟩
            by_cases hxi : x = i
            · subst hxi; exact hb
            · exact hno x (by omega)
        · have : i = R.length := by omega
          subst this
          right
          rw [if_neg (by omega)]
          refine ⟨_, rfl, .inr ⟨rfl, ?_⟩⟩
          rw [List.find?_eq_none]
          intro x hx
          have := hno x (by simpa using hx)
          simp [this]
      obtain ⟨e, he, hcase⟩ := hkey
      rw [he]
      rcases hcase with ⟨i, rfl, h2⟩ | ⟨rfl, h2⟩
      · rw [h2]; rfl
      · rw [h2]; rfl

theorem f8_eq {c v : List Int} {base : Int} (hc : c.length ≤ 100000) : Q.f8F (c, v, base) = some (if c.length = v.length then seqsS c v base else []) := by
  unfold Q.f8F
  dsimp only
  rw [f23_eq hc, f24_eq hc]
  simp only [Option.bind_some]
  by_cases hcv : c.length = v.length
  rotate_left
  · rw [if_neg hcv, if_neg hcv, if_pos (by simp [roomOk])]
    rw [iter_inr (e := []) (by rfl), Option.bind_some, iter_inr (e := []) (by rfl)]; rfl
  rw [if_pos hcv, if_pos hcv]
  have hR : RF c (runsS c v) := runsS_rf c v
  unfold seqsS
  generalize hRe : runsS c v = R at *
  have hcount := hR.count
  rw [if_pos (by refine ⟨by omega, by omega, ?_⟩; unfold roomOk; simp; omega)]
  have hch := hR.chain
  -- which ones are gone
  refine some_of (bind_ex (Q := fun G : List Bool => G.length = R.length ∧ ∀ j, j < R.length → G.getD j false = (prevOf (nxR c R) j).isSome) (iter_rule (I := fun (s : Int × List Bool) => ∃ (k : Nat) (G : List Bool), k ≤ R.length ∧ s = ((k : Int), G) ∧ G.length = R.length ∧ ∀ j, j < R.length → G.getD j false = (List.range k).any fun i => nxR c R i == some j)
    (fun s => (R.length - s.1).toNat) ?_ _ ⟨0, _, Nat.zero_le _, rfl, by simp, fun j hj => by simp [List.getD_eq_getElem?_getD, hj]⟩) ?_)
  · rintro _ ⟨k, G, hk, rfl, hGl, hG⟩
    by_cases hkl : k < R.length
    rotate_left
    · have : k = R.length := by omega
      subst this
      right
      dsimp only
      rw [if_neg (by rw [decide_eq_true_eq]; omega)]
      refine ⟨_, rfl, hGl, fun j hj => ?_⟩
      rw [hG j hj]
      cases hp : prevOf (nxR c R) j with
      | none =>
        rw [Option.isSome_none, List.any_eq_false]
        intro i hi
        have hir : i < R.length := by simpa using hi
        simp only [beq_iff_eq]
        intro he
        have := (hch.up i j he).1
        exact prevOf_none _ hp this he
      | some i =>
        obtain ⟨h1, h2⟩ := prevOf_some _ hp
        rw [Option.isSome_some, List.any_eq_true]
        exact ⟨i, by simp; omega, by simpa using h2⟩
    left
    have hw : IntKind.i64.wrap ((k : Int) + 1) = ((k + 1 : Nat) : Int) := by rw [wrap_i64 (by omega) (by omega)]; omega
    dsimp only
    rw [if_pos (by rw [decide_eq_true_eq]; omega), f25_eq hR hc hkl]
    simp only [Option.bind_some, hw]
    unfold nxI
    cases hn : nxR c R k with
    | none =>
      rw [if_neg (by simp)]
      refine ⟨_, rfl, ⟨k + 1, G, hkl, rfl, hGl, fun j hj => ?_⟩, by simp; omega⟩
      rw [hG j hj, List.range_succ, List.any_append]; simp [hn]
    | some m =>
      have hm := (hch.up k m hn).2
      simp only
      rw [if_pos (by rw [decide_eq_true_eq]; omega), if_pos (by omega)]
      simp only [Int.toNat_natCast]
      refine ⟨_, rfl, ⟨k + 1, _, hkl, rfl, by simpa using hGl, fun j hj => ?_⟩, by simp; omega⟩
      rw [List.range_succ, List.any_append, ← hG j hj]
      have : (G.set m true).getD j false = if m = j then true else G.getD j false := by
        simp only [List.getD_eq_getElem?_getD, List.getElem?_set]
        by_cases hmj : m = j
        · subst hmj; simp [hGl, hm]
        · simp [hmj]
      rw [this]
      by_cases hmj : m = j
      · subst hmj; simp [hn]
      · simp [hn, hmj]
  · rintro G ⟨hGl, hG⟩
    -- the heads
    refine bind_ex (Q := fun e => e = (List.range (rankH (nxR c R) R.length)).map fun s => seqS c v (catR R (memb (nxR c R) R.length s)) base) (iter_rule (I := fun (s : Int × List Bool × List (List Int × Int × Int × Int)) => ∃ k : Nat, k ≤ R.length ∧ s = ((k : Int), G, ((List.range k).filter fun i => (prevOf (nxR c R) i).isNone).map fun i => seqS c v (catR R (memb (nxR c R) R.length (rankH (nxR c R) i))) base))
      (fun s => (R.length - s.1).toNat) ?_ _ ⟨0, Nat.zero_le _, rfl⟩) fun e he => ⟨e, rfl, he⟩
    rintro _ ⟨k, hk, rfl⟩
    by_cases hkl : k < R.length
    rotate_left
    · have : k = R.length := by omega
      subst this
      right
      dsimp only
      rw [if_neg (by rw [decide_eq_true_eq]; omega)]
      refine ⟨_, rfl, ?_⟩
      rw [← heads_rank, List.map_map]; rfl
    left
    have hw : IntKind.i64.wrap ((k : Int) + 1) = ((k + 1 : Nat) : Int) := by rw [wrap_i64 (by omega) (by omega)]; omega
    dsimp only
    rw [if_pos (by rw [decide_eq_true_eq]; omega), if_pos (by omega)]
    simp only [Int.toNat_natCast, hG k hkl, hw]
    cases hp : prevOf (nxR c R) k with
    | some i =>
      simp only [Option.isSome_some, if_true]
      refine ⟨_, rfl, ⟨k + 1, hkl, ?_⟩, by simp; omega⟩
      rw [List.range_succ, List.filter_append]
      simp [List.filter_cons, hp]
    | none =>
      simp only [Option.isSome_none, Bool.false_eq_true, if_false]
      have hfl : ((List.range k).filter fun i => (prevOf (nxR c R) i).isNone).length ≤ k := Nat.le_trans (List.length_filter_le _ _) (by simp)
      generalize hout : ((List.range k).filter fun i => (prevOf (nxR c R) i).isNone).map (fun i => seqS c v (catR R (memb (nxR c R) R.length (rankH (nxR c R) i))) base) = out
      have houtl : out.length ≤ k := by rw [← hout, List.length_map]; exact hfl
      -- the chain
      have hchain : ∃ e, iter (fun (s5 : Int × List Bool × List (List Int × Int × Int × Int) × List Int) => if decide (s5.1 ≥ 0) = true then if 0 ≤ s5.1 ∧ s5.1 < (R.length : Int) then
            if roomOk (s5.2.2.2.length + (R.getD s5.1.toNat []).length) 8 then Option.bind (Q.f25F (c, R, matchS c, s5.1)) fun v6 => some (Sum.inl (v6, s5.2.1, s5.2.2.1, s5.2.2.2 ++ R.getD s5.1.toNat [])) else none else none
          else some (Sum.inr (s5.2.1, s5.2.2.1, s5.2.2.2))) ((k : Int), G, out, []) = some e ∧ e = (G, out, catR R (memb (nxR c R) R.length (sidx (nxR c R) k))) := by
        refine iter_rule (I := fun (s : Int × List Bool × List (List Int × Int × Int × Int) × List Int) => (∃ j : Nat, j < R.length ∧ sidx (nxR c R) j = sidx (nxR c R) k ∧ s = ((j : Int), G, out, catR R (memb (nxR c R) j (sidx (nxR c R) k)))) ∨ s = (-1, G, out, catR R (memb (nxR c R) R.length (sidx (nxR c R) k))))
          (fun s => if s.1 < 0 then 0 else (R.length + 1 - s.1).toNat) ?_ _ (.inl ⟨k, hkl, rfl, by rw [memb_head hp]; rfl⟩)
        rintro _ (⟨j, hj, hs, rfl⟩ | rfl)
        · left
          have h1 := memb_len hR j (sidx (nxR c R) k) (by omega)
          have hr1 := (hR.run hj).1
          have h2 : (R.getD j []).length ≤ c.length := by
            have h1 : (R.getD j []).length ≤ R.flatten.length := by
              rw [List.length_flatten]
              exact len_le_sum hr1
            have := hR.small; omega
          dsimp only
          simp only [Int.toNat_natCast]
          rw [if_pos (by rw [decide_eq_true_eq]; omega), if_pos (by omega), if_pos (by unfold roomOk; omega), f25_eq hR hc hj]
          simp only [Option.bind_some]
          unfold nxI
          cases hn : nxR c R j with
          | none =>
            refine ⟨_, rfl, .inr ?_, ?_⟩
            · rw [← hs, hch.memb_last hj hn]
              simp [catR]
            · show (0 : Nat) < if (j : Int) < 0 then 0 else ((R.length : Int) + 1 - j).toNat
              rw [if_neg (by omega)]; omega
          | some m =>
            have hm := hch.up j m hn
            refine ⟨_, rfl, .inl ⟨m, hm.2, by rw [hch.sidx hn, hs], ?_⟩, ?_⟩
            · rw [← hs, hch.memb_next hn]
              simp [catR]
            · simp only
              rw [if_neg (by omega), if_neg (by omega)]; omega
        · right
          dsimp only
          rw [if_neg (by simp)]
          exact ⟨_, rfl, rfl⟩
      obtain ⟨e, he, rfl⟩ := hchain
      have hsr : sidx (nxR c R) k < rankH (nxR c R) R.length := Nat.lt_of_lt_of_le (sidx_lt _ k) (rankH_mono hkl)
      have hne := memb_ne hR hsr
      have hsn := memb_seen hR (k := R.length) (s := sidx (nxR c R) k) (Nat.le_refl _)
      have hln := memb_len hR R.length (sidx (nxR c R) k) (Nat.le_refl _)
      have hp0 := len_pos_of_ne hne
      have hm0 : (catR R (memb (nxR c R) R.length (sidx (nxR c R) k))).getD 0 0 ∈ seenS c := by rw [getD_at 0 hp0]; exact hsn _ (List.getElem_mem _)
      obtain ⟨q, hq, hq1, _⟩ := seen_mem hm0
      rw [he]
      simp only [Option.bind_some]
      have hz : Int.toNat (0 : Int) = 0 := rfl
      simp only [hz]
      rw [if_pos (by omega), if_pos (by omega), f26_seq hc hcv.symm hne (by omega) hsn]
      simp only [Option.bind_some]
      rw [if_pos (by unfold roomOk; omega)]
      refine ⟨_, rfl, ⟨k + 1, hkl, ?_⟩, by simp; omega⟩
      rw [List.range_succ, List.filter_append, List.map_append, hout]
      simp [List.filter_cons, hp, sidx_head hp]
end Go.Sx
