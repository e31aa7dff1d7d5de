/- Seq: 'SeqOnce', the law. -/
import Derived.Test.YtjmdfkcgglidaaaSxSqE
set_option linter.unusedVariables false
set_option linter.unusedSimpArgs false
namespace Go.Sx

theorem seqOnce_core {c v w : List Int} {b : Int} (hc : c.length ≤ 300) (hv : v.length = c.length) (hwl : w.length = c.length) (hw : ∀ i, i < c.length → outC (w.getD i 0) = outC (c.getD i 0))
    (hlv : ∀ i k, nxR c (runsS c v) i = some k → v.getD (lstR (runsS c v) i).toNat 0 = v.getD (fstR (runsS c v) k).toNat 0) {f : Int × Int → Option ((Int × Int) ⊕ (Int ⊕ Bool))}
    (hf : ∀ s : Int × Int, f s = 
      if decide (s.snd < ((seqsS c v b).length : Int)) = true then
        Option.bind
          (if 0 ≤ s.snd ∧ s.snd < ((seqsS c v b).length : Int) then
            if (((((seqsS c v b).getD (Int.toNat s.snd) ([], 0, 0, 0)).fst).length : Int) == 0) = true then some true
            else
              if decide (s.snd > 0) = true then
                if 0 ≤ IntKind.i64.wrap (s.snd - 1) ∧ IntKind.i64.wrap (s.snd - 1) < ((seqsS c v b).length : Int) then
                  if 0 ≤ (0 : Int) ∧ 0 < ((((seqsS c v b).getD (Int.toNat (IntKind.i64.wrap (s.snd - 1))) ([], 0, 0, 0)).fst).length : Int) then
                    if 0 ≤ s.snd ∧ s.snd < ((seqsS c v b).length : Int) then
                      if 0 ≤ (0 : Int) ∧ 0 < ((((seqsS c v b).getD (Int.toNat s.snd) ([], 0, 0, 0)).fst).length : Int) then
                        some (decide ((((seqsS c v b).getD (Int.toNat (IntKind.i64.wrap (s.snd - 1))) ([], 0, 0, 0)).fst).getD (Int.toNat 0) 0 ≥ (((seqsS c v b).getD (Int.toNat s.snd) ([], 0, 0, 0)).fst).getD (Int.toNat 0) 0))
                      else none
                    else none
                  else none
                else none
              else some false
          else none)
          fun (v7 : Bool) =>
          if v7 = true then some (Sum.inr (Sum.inr false))
          else
            Option.bind
              (iter
                (fun (s8 : Int × Int) =>
                  if 0 ≤ s.snd ∧ s.snd < ((seqsS c v b).length : Int) then
                    if decide (s8.snd < ((((seqsS c v b).getD (Int.toNat s.snd) ([], 0, 0, 0)).fst).length : Int)) = true then
                      if 0 ≤ s.snd ∧ s.snd < ((seqsS c v b).length : Int) then
                        if 0 ≤ s8.snd ∧ s8.snd < ((((seqsS c v b).getD (Int.toNat s.snd) ([], 0, 0, 0)).fst).length : Int) then
                          Option.bind
                            (if 0 ≤ (((seqsS c v b).getD (Int.toNat s.snd) ([], 0, 0, 0)).fst).getD (Int.toNat s8.snd) 0 ∧ (((seqsS c v b).getD (Int.toNat s.snd) ([], 0, 0, 0)).fst).getD (Int.toNat s8.snd) 0 < (v.length : Int) then
                              if 0 ≤ s.snd ∧ s.snd < ((seqsS c v b).length : Int) then
                                if (v.getD (Int.toNat ((((seqsS c v b).getD (Int.toNat s.snd) ([], 0, 0, 0)).fst).getD (Int.toNat s8.snd) 0)) 0 != ((seqsS c v b).getD (Int.toNat s.snd) ([], 0, 0, 0)).snd.fst) = true then some true
                                else
                                  if 0 ≤ (((seqsS c v b).getD (Int.toNat s.snd) ([], 0, 0, 0)).fst).getD (Int.toNat s8.snd) 0 ∧ (((seqsS c v b).getD (Int.toNat s.snd) ([], 0, 0, 0)).fst).getD (Int.toNat s8.snd) 0 < (w.length : Int) then
                                    Option.bind (Q.f17F (w.getD (Int.toNat ((((seqsS c v b).getD (Int.toNat s.snd) ([], 0, 0, 0)).fst).getD (Int.toNat s8.snd) 0)) 0)) fun (v9 : Bool) => some v9
                                  else none
                              else none
                            else none)
                            fun (v9 : Bool) =>
                            if v9 = true then some (Sum.inr (Sum.inr false))
                            else some (Sum.inl (IntKind.i64.wrap (s8.fst + 1), IntKind.i64.wrap (s8.snd + 1)))
                        else none
                      else none
                    else some (Sum.inr (Sum.inl s8.1))
                  else none)
                (s.1, 0))
              fun (v8 : Int ⊕ Bool) =>
              Sum.elim
                (fun (p9 : Int) =>
                  Option.bind
                    (if (s.snd == 0) = true then
                      if 0 ≤ s.snd ∧ s.snd < ((seqsS c v b).length : Int) then
                        if 0 ≤ (0 : Int) ∧ 0 < ((((seqsS c v b).getD (Int.toNat s.snd) ([], 0, 0, 0)).fst).length : Int) then
                          if ((((seqsS c v b).getD (Int.toNat s.snd) ([], 0, 0, 0)).fst).getD (Int.toNat 0) 0 == 0) = true then
                            if 0 ≤ s.snd ∧ s.snd < ((seqsS c v b).length : Int) then
                              if 0 ≤ s.snd ∧ s.snd < ((seqsS c v b).length : Int) then
                                Option.bind (Q.f14F (maxI ((seqsS c v b).getD (Int.toNat s.snd) ([], 0, 0, 0)).snd.fst b)) fun (v10 : Int) =>
                                  some (((seqsS c v b).getD (Int.toNat s.snd) ([], 0, 0, 0)).snd.snd.fst != v10)
                              else none
                            else none
                          else some false
                        else none
                      else none
                    else some false)
                    fun (v10 : Bool) => if v10 = true then some (Sum.inr (Sum.inr false)) else some (Sum.inl (p9, IntKind.i64.wrap (s.snd + 1))))
                (fun (q9 : Bool) => some (Sum.inr (Sum.inr q9))) v8
      else some (Sum.inr (Sum.inl s.1))) :
    iter f (0, 0) = some (.inl ((seenS c).length : Int)) := by
  have hcnt : (seqsS c v b).length = cntS c v := by unfold seqsS cntS; simp
  have hS : cntS c v ≤ 300 := by
    have := seqs_len c v b (by omega)
    have h := (runsS_rf c v).count
    have : cntS c v ≤ (runsS c v).length := by unfold cntS rankH; exact Nat.le_trans (List.length_filter_le _ _) (by simp)
    omega
  have hget : ∀ s, s < cntS c v → (seqsS c v b).getD s ([], 0, 0, 0) = seqS c v (atS c v s) b := by
    intro s hs
    rw [getD_at _ (by rw [hcnt]; exact hs)]
    unfold seqsS
    rw [List.getElem_map, List.getElem_range]; rfl
  have hne : ∀ s, s < cntS c v → atS c v s ≠ [] := fun s hs => memb_ne (runsS_rf c v) hs
  have hseen : ∀ s, s < cntS c v → ∀ p ∈ atS c v s, p ∈ seenS c := fun s hs p hp => memb_seen (runsS_rf c v) (Nat.le_refl _) p hp
  have hlen : ∀ s, (atS c v s).length ≤ 300 := fun s => Nat.le_trans (memb_len (runsS_rf c v) _ s (Nat.le_refl _)) hc
  have hplen := (places_perm c v).length_eq
  have hslen : (seenS c).length ≤ 300 := Nat.le_trans (sN_len _ _) hc
  have htake : ∀ k, k ≤ cntS c v → ((List.range k).flatMap (atS c v)).length ≤ 300 := by
    intro k hk
    have : (List.range (cntS c v)).flatMap (atS c v) = (List.range k).flatMap (atS c v) ++ ((List.range (cntS c v)).drop k).flatMap (atS c v) := by
      rw [← List.flatMap_append]
      congr 1
      have := (List.take_append_drop k (List.range (cntS c v))).symm
      rw [List.take_range, Nat.min_eq_left hk] at this
      exact this
    rw [this, List.length_append] at hplen
    omega
  refine some_of (iter_rule (I := fun (s : Int × Int) => ∃ k : Nat, k ≤ cntS c v ∧ s = ((((List.range k).flatMap (atS c v)).length : Int), (k : Int))) (Q := fun (r : Int ⊕ Bool) => r = .inl ((seenS c).length : Int)) (fun s => (cntS c v - s.2).toNat) ?_ _ ⟨0, Nat.zero_le _, rfl⟩)
  rintro _ ⟨k, hk, rfl⟩
  rw [hf]
  by_cases hkl : k < cntS c v
  rotate_left
  · have : k = cntS c v := by omega
    subst this
    right
    dsimp only
    rw [if_neg (by rw [decide_eq_true_eq, hcnt]; omega), hplen]
    exact ⟨_, rfl, rfl⟩
  left
  have hw1 : IntKind.i64.wrap ((k : Int) + 1) = ((k + 1 : Nat) : Int) := by rw [wrap_i64 (by omega) (by omega)]; omega
  have ht1 := htake (k + 1) hkl
  have hsucc : ((List.range (k + 1)).flatMap (atS c v)).length = ((List.range k).flatMap (atS c v)).length + (atS c v k).length := by
    rw [List.range_succ, List.flatMap_append]; simp
  have hnk := hne k hkl
  have hpk := len_pos_of_ne hnk
  have hlk := hlen k
  have hsk := hseen k hkl
  have hone := fun p hp => one_level c v hlv hkl (p := p) hp
  have hz : Int.toNat (0 : Int) = 0 := rfl
  have b1 : (0 : Int) ≤ (k : Int) ∧ (k : Int) < ((seqsS c v b).length : Int) := by omega
  have b2 : (0 : Int) ≤ 0 ∧ (0 : Int) < ((atS c v k).length : Int) := by omega
  dsimp only
  rw [if_pos (by rw [decide_eq_true_eq]; omega)]
  simp only [if_pos b1, Int.toNat_natCast, hget k hkl, hw1]
  have hat : (seqS c v (atS c v k) b).1 = atS c v k := rfl
  simp only [hat, if_pos b2, hz]
  rw [if_neg (by simp; omega)]
  -- heads rise
  have hrise : ∀ K : Bool → Option ((Int × Int) ⊕ (Int ⊕ Bool)), Option.bind (if decide ((k : Int) > 0) = true then
        if 0 ≤ IntKind.i64.wrap ((k : Int) - 1) ∧ IntKind.i64.wrap ((k : Int) - 1) < ((seqsS c v b).length : Int) then
          if 0 ≤ (0 : Int) ∧ 0 < ((((seqsS c v b).getD (Int.toNat (IntKind.i64.wrap ((k : Int) - 1))) ([], 0, 0, 0)).fst).length : Int) then
            some (decide ((((seqsS c v b).getD (Int.toNat (IntKind.i64.wrap ((k : Int) - 1))) ([], 0, 0, 0)).fst).getD 0 0 ≥ (atS c v k).getD 0 0))
          else none
        else none
      else some false) K = K false := by
    intro K
    by_cases hk0 : k = 0
    · subst hk0; rfl
    · obtain ⟨m, rfl⟩ : ∃ m, k = m + 1 := ⟨k - 1, by omega⟩
      have hw : IntKind.i64.wrap (((m + 1 : Nat) : Int) - 1) = (m : Int) := by rw [wrap_i64 (by omega) (by omega)]; omega
      have hr := heads_rise c v hkl
      have hpm := len_pos_of_ne (hne m (by omega))
      rw [if_pos (by rw [decide_eq_true_eq]; omega), hw, if_pos (by omega), Int.toNat_natCast, hget m (by omega)]
      have hat : (seqS c v (atS c v m) b).1 = atS c v m := rfl
      rw [hat, if_pos (by omega)]
      have : decide ((atS c v m).getD 0 0 ≥ (atS c v (m + 1)).getD 0 0) = false := by rw [decide_eq_false_iff_not]; omega
      rw [this]; rfl
  rw [hrise]
  simp only [Bool.false_eq_true, if_false]
  have hlev : (seqS c v (atS c v k) b).2.1 = v.getD ((atS c v k).getD 0 0).toNat 0 := rfl
  have hinner : iter (fun (s8 : Int × Int) =>
      if decide (s8.snd < ((atS c v k).length : Int)) = true then
        if 0 ≤ s8.snd ∧ s8.snd < ((atS c v k).length : Int) then
          Option.bind
            (if 0 ≤ (atS c v k).getD (Int.toNat s8.snd) 0 ∧ (atS c v k).getD (Int.toNat s8.snd) 0 < (v.length : Int) then
              if (v.getD (Int.toNat ((atS c v k).getD (Int.toNat s8.snd) 0)) 0 != (seqS c v (atS c v k) b).2.1) = true then some true
              else
                if 0 ≤ (atS c v k).getD (Int.toNat s8.snd) 0 ∧ (atS c v k).getD (Int.toNat s8.snd) 0 < (w.length : Int) then
                  Option.bind (Q.f17F (w.getD (Int.toNat ((atS c v k).getD (Int.toNat s8.snd) 0)) 0)) fun (v9 : Bool) => some v9
                else none
            else none)
            fun (v9 : Bool) =>
            if v9 = true then some (Sum.inr (Sum.inr false))
            else some (Sum.inl (IntKind.i64.wrap (s8.fst + 1), IntKind.i64.wrap (s8.snd + 1)))
        else none
      else some (Sum.inr (Sum.inl s8.1))) ((((List.range k).flatMap (atS c v)).length : Int), 0) = some (.inl (((List.range (k + 1)).flatMap (atS c v)).length : Int) : Int ⊕ Bool) := by
    refine some_of (iter_rule (I := fun (s : Int × Int) => ∃ j : Nat, j ≤ (atS c v k).length ∧ s = ((((List.range k).flatMap (atS c v)).length : Int) + j, (j : Int))) (Q := fun (r : Int ⊕ Bool) => r = (.inl (((List.range (k + 1)).flatMap (atS c v)).length : Int) : Int ⊕ Bool)) (fun s => ((atS c v k).length - s.2).toNat) ?_ _ ⟨0, Nat.zero_le _, by simp⟩)
    rintro _ ⟨j, hj, rfl⟩
    by_cases hjl : j < (atS c v k).length
    rotate_left
    · have : j = (atS c v k).length := by omega
      subst this
      right
      rw [if_neg (by rw [decide_eq_true_eq]; omega)]
      exact ⟨_, rfl, by rw [hsucc]; simp⟩
    left
    have hm : (atS c v k).getD j 0 ∈ atS c v k := by rw [getD_at 0 hjl]; exact List.getElem_mem _
    obtain ⟨p, hp, hp1, hp2⟩ := seen_mem (hsk _ hm)
    have h1 := hone _ hm
    have hwj : IntKind.i64.wrap ((j : Int) + 1) = ((j + 1 : Nat) : Int) := by rw [wrap_i64 (by omega) (by omega)]; omega
    have hwc : IntKind.i64.wrap ((((List.range k).flatMap (atS c v)).length : Int) + j + 1) = (((List.range k).flatMap (atS c v)).length : Int) + ((j + 1 : Nat) : Int) := by rw [wrap_i64 (by omega) (by omega)]; omega
    dsimp only
    rw [if_pos (by rw [decide_eq_true_eq]; omega), if_pos (by omega)]
    simp only [Int.toNat_natCast, hwj, hwc]
    rw [hlev, ← h1, if_pos (by omega), if_neg (by simp), if_pos (by omega), f17_eq, hp, Int.toNat_natCast, hw p hp1, hp2]
    exact ⟨_, rfl, ⟨j + 1, hjl, rfl⟩, by simp; omega⟩
  rw [hinner]
  simp only [Option.bind_some, Sum.elim_inl]
  refine ⟨_, ?_, ⟨k + 1, hkl, rfl⟩, by simp; omega⟩
  by_cases hk0 : k = 0
  rotate_left
  · rw [if_neg (by simp; omega)]; rfl
  · rw [if_pos (by simp; omega)]
    cases h0 : ((atS c v k).getD 0 0 == 0) with
    | false => rfl
    | true =>
      have h0' : (atS c v k).getD 0 0 = 0 := by simpa using h0
      simp only [if_true, f14_dir, Option.bind_some]
      have hl0 : levS c v ((atS c v k).getD 0 0) (-1) b = b := by
        unfold levS
        rw [h0', pos_zero, if_pos (Or.inl (by decide))]
      have : (seqS c v (atS c v k) b).2.2.1 = dirS (maxI (seqS c v (atS c v k) b).2.1 b) := by
        unfold seqS
        dsimp only
        rw [hl0]
      rw [this, bne_self_eq_false, if_neg (by decide)]

theorem seqOnce_pure (x : List Int × Bool) (h : wfTup [.sl (.int .i64), .bool] x) : Q.f4F x = some true := by
  obtain ⟨c, right⟩ := x
  unfold Q.f4F
  rw [aliveQ]
  simp only [Option.bind_some, Bool.not_true, Bool.false_eq_true, if_false]
  by_cases hc : (c.length : Int) > 300
  · rw [if_pos (c := decide ((c.length : Int) > 300) = true) (decide_eq_true hc)]
  rw [if_neg (c := decide ((c.length : Int) > 300) = true) (by rw [decide_eq_false hc]; simp)]
  have hn : ∃ n : Int, (if right = true then some (1 : Int) else some 0) = some n ∧ baseOf n = n := by
    cases right
    · exact ⟨0, rfl, rfl⟩
    · exact ⟨1, rfl, rfl⟩
  obtain ⟨n, hn1, hn2⟩ := hn
  rw [hn1, Option.bind_some]
  rw [f15_eq (l := c) (by omega) n, hn2]
  have hb : n = 0 ∨ n = 1 := by have := baseOf_or n; rwa [hn2] at this
  obtain ⟨_, _, hlv, hcl, htold⟩ := runS_told hb c c.length
  have hjoin := joined_level hb c
  have hw := fun i hi => (htold i hi).2.2.1
  clear htold
  generalize (runS c n c.length).lv = V at *
  generalize (runS c n c.length).cl = W at *
  have h7 : Q.f7F (c, V, n) = some (seqsS c V n) := by rw [f7_eq (by omega), if_pos hlv.symm]
  have h16 : Q.f16F (seqsS c V n, (c.length : Int)) = some true := by
    rw [f16_eq (R := seqsS c V n) (n := (c.length : Int)) (seqs_len c V n (by omega)) (fun r hr => by
      unfold seqsS at hr
      obtain ⟨s, _, rfl⟩ := List.mem_map.1 hr
      exact (at_asc c V s).imp (fun h => by omega)) (fun r hr => Nat.le_trans (seqs_at c V n r hr) (by omega))]
    exact congrArg some (decide_eq_true (places_good c V n))
  rw [Option.bind_some]
  dsimp only
  rw [h7, Option.bind_some, h16, Option.bind_some]
  rw [if_neg (by decide)]
  rw [seqOnce_core (c := c) (v := V) (w := W) (b := n) (by omega) hlv hcl hw hjoin (fun s => rfl)]
  rw [Option.bind_some]
  dsimp only [Sum.elim_inl]
  rw [cnt_left, if_pos (by omega), Option.bind_some]
  simp
end Go.Sx
