/- Seq: 'SeqOnce'. -/
import Derived.Test.YtjmdfkcgglidaaaSxSqD
set_option linter.unusedVariables false
set_option linter.unusedSimpArgs false
namespace Go.Sx

/-- All sequences' members are all runs. -/
theorem classes_perm (f : Nat → Nat) (l : List Nat) : ∀ S : Nat, ((List.range S).flatMap fun s => l.filter fun i => f i == s).Perm (l.filter fun i => decide (f i < S)) := by
  intro S
  induction S with
  | zero => simp
  | succ S ih =>
    rw [List.range_succ, List.flatMap_append]
    have h1 := List.filter_append_perm (fun i => decide (f i < S)) (l.filter fun i => decide (f i < S + 1))
    rw [List.filter_filter, List.filter_filter] at h1
    have e1 : (l.filter fun a => decide (f a < S) && decide (f a < S + 1)) = l.filter fun i => decide (f i < S) := by
      apply List.filter_congr
      intro x _
      rw [Bool.eq_iff_iff]; simp; omega
    have e2 : (l.filter fun a => !decide (f a < S) && decide (f a < S + 1)) = l.filter fun i => f i == S := by
      apply List.filter_congr
      intro x _
      rw [Bool.eq_iff_iff]; simp; omega
    rw [e1, e2] at h1
    refine List.Perm.trans ?_ h1
    simp only [List.flatMap_cons, List.flatMap_nil, List.append_nil]
    exact ih.append_right _

theorem catR_perm (R : List (List Int)) {l1 l2 : List Nat} (h : l1.Perm l2) : (catR R l1).Perm (catR R l2) := by
  unfold catR
  induction h with
  | nil => exact List.Perm.refl _
  | cons x _ ih => simp only [List.flatMap_cons]; exact ih.append_left _
  | swap x y l =>
    simp only [List.flatMap_cons]
    rw [← List.append_assoc, ← List.append_assoc]
    exact List.perm_append_comm.append_right _
  | trans _ _ h1 h2 => exact h1.trans h2

theorem catR_sub (R : List (List Int)) (q : Nat → Bool) : ∀ l : List Nat, (catR R (l.filter q)).Sublist (catR R l)
  | [] => List.Sublist.refl _
  | x :: l => by
    have ih := catR_sub R q l
    unfold catR at ih ⊢
    rw [List.filter_cons]
    split
    · simp only [List.flatMap_cons]
      exact (List.Sublist.refl _).append ih
    · simp only [List.flatMap_cons]
      exact ih.trans (List.sublist_append_right _ _)

theorem catR_flat (R : List (List Int)) : catR R (List.range R.length) = R.flatten := by
  rw [catR_all R R.length (Nat.le_refl _), List.take_length]

section
variable (c v : List Int)

/-- The places of a sequence. -/
def atS (s : Nat) : List Int := catR (runsS c v) (memb (nxR c (runsS c v)) (runsS c v).length s)
def cntS : Nat := rankH (nxR c (runsS c v)) (runsS c v).length

theorem seqs_places (base : Int) : placesR (seqsS c v base) = (List.range (cntS c v)).flatMap (atS c v) := by
  unfold placesR seqsS cntS
  rw [List.flatMap_map]; rfl

theorem sidx_cnt {i : Nat} (hi : i < (runsS c v).length) : sidx (nxR c (runsS c v)) i < cntS c v := Nat.lt_of_lt_of_le (sidx_lt _ i) (rankH_mono hi)

theorem places_perm : ((List.range (cntS c v)).flatMap (atS c v)).Perm (seenS c) := by
  have h1 := classes_perm (sidx (nxR c (runsS c v))) (List.range (runsS c v).length) (cntS c v)
  have h2 : ((List.range (runsS c v).length).filter fun i => decide (sidx (nxR c (runsS c v)) i < cntS c v)) = List.range (runsS c v).length := by
    rw [List.filter_eq_self]
    intro i hi
    have := sidx_cnt c v (i := i) (by simpa using hi)
    simpa using this
  rw [h2] at h1
  have h3 := catR_perm (runsS c v) h1
  rw [catR_flat] at h3
  have h4 : (runsS c v).flatten = seenS c := (runsL_ok (brkS c v) (seenS c)).all
  rw [h4] at h3
  refine List.Perm.trans ?_ h3
  have : (List.range (cntS c v)).flatMap (atS c v) = catR (runsS c v) ((List.range (cntS c v)).flatMap fun s => (List.range (runsS c v).length).filter fun i => sidx (nxR c (runsS c v)) i == s) := by
    unfold catR
    rw [List.flatMap_assoc]
    rfl
  rw [this]

theorem at_asc (s : Nat) : (atS c v s).Pairwise (· < ·) := by
  have h := catR_sub (runsS c v) (fun i => sidx (nxR c (runsS c v)) i == s) (List.range (runsS c v).length)
  rw [catR_flat] at h
  exact (runsS_rf c v).asc.sublist h

theorem places_good (base : Int) : GoodF (placesR (seqsS c v base)) c.length := by
  rw [seqs_places]
  have hp := places_perm c v
  refine ⟨fun p h => ?_, ?_⟩
  · obtain ⟨j, rfl, h1, _⟩ := seen_mem (hp.mem_iff.1 h)
    omega
  · rw [hp.nodup_iff]
    exact (sN_asc c c.length).imp (fun h => by omega)

/-- A sequence's head. -/
theorem head_of (N s : Nat) (nx : Nat → Option Nat) (hs : s < rankH nx N) : ∃ h, h < N ∧ prevOf nx h = none ∧ rankH nx h = s := by
  have h1 : s ∈ List.range (rankH nx N) := by simpa using hs
  rw [← heads_rank] at h1
  obtain ⟨i, h2, h3⟩ := List.mem_map.1 h1
  simp only [List.mem_filter, List.mem_range, Option.isNone_iff_eq_none] at h2
  exact ⟨i, h2.1, h2.2, h3⟩

theorem memb_from (nx : Nat → Option Nat) (k s d : Nat) : ∃ t, memb nx (k + d) s = memb nx k s ++ t := by
  induction d with
  | zero => exact ⟨[], by simp⟩
  | succ d ih =>
    obtain ⟨t, ht⟩ := ih
    rw [← Nat.add_assoc, memb_succ, ht]
    exact ⟨_, List.append_assoc _ _ _⟩

theorem at_head {h : Nat} (hh : h < (runsS c v).length) (hp : prevOf (nxR c (runsS c v)) h = none) : (atS c v (rankH (nxR c (runsS c v)) h)).getD 0 0 = fstR (runsS c v) h := by
  have h1 := memb_head hp
  have h2 := sidx_head hp
  rw [h2] at h1
  obtain ⟨t, ht⟩ := memb_from (nxR c (runsS c v)) (h + 1) (rankH (nxR c (runsS c v)) h) ((runsS c v).length - (h + 1))
  rw [show h + 1 + ((runsS c v).length - (h + 1)) = (runsS c v).length by omega, memb_succ, h1, h2, if_pos (by simp)] at ht
  unfold atS
  rw [ht]
  obtain ⟨_, g2, g3⟩ := (runsS_rf c v).run hh
  have e : catR (runsS c v) ([] ++ [h] ++ t) = (runsS c v).getD h [] ++ catR (runsS c v) t := by
    unfold catR; simp
  rw [e]
  unfold fstR
  rw [getD_at 0 (by rw [List.length_append]; omega), getD_at 0 g3, List.getElem_append_left g3]

/-- Heads rise. -/
theorem heads_rise {s : Nat} (hs : s + 1 < cntS c v) : (atS c v s).getD 0 0 < (atS c v (s + 1)).getD 0 0 := by
  obtain ⟨a, a1, a2, a3⟩ := head_of (runsS c v).length s (nxR c (runsS c v)) (Nat.lt_trans (by omega) hs)
  obtain ⟨b, b1, b2, b3⟩ := head_of (runsS c v).length (s + 1) (nxR c (runsS c v)) hs
  have ha := at_head c v a1 a2
  have hb := at_head c v b1 b2
  rw [a3] at ha
  rw [b3] at hb
  rw [ha, hb]
  have hR := runsS_rf c v
  have hab : a < b := by
    apply Nat.lt_of_not_le
    intro hle
    have := rankH_mono (nx := nxR c (runsS c v)) hle
    omega
  have := hR.lst_lt hab b1
  have := hR.fst_le a1
  omega

/-- All of a sequence stands at the level at which it begins. -/
theorem one_level (hlv : ∀ i k, nxR c (runsS c v) i = some k → v.getD (lstR (runsS c v) i).toNat 0 = v.getD (fstR (runsS c v) k).toNat 0) {s : Nat} (hs : s < cntS c v) {p : Int} (hp : p ∈ atS c v s) :
    v.getD p.toNat 0 = v.getD ((atS c v s).getD 0 0).toNat 0 := by
  have hR := runsS_rf c v
  have hrun : ∀ k, k < (runsS c v).length → ∀ q ∈ (runsS c v).getD k [], v.getD q.toNat 0 = v.getD (fstR (runsS c v) k).toNat 0 := by
    intro k hk q hq
    have hb := hR.in_run hk hq
    obtain ⟨j, rfl, _, ho⟩ := seen_mem (hR.mem _ (hR.run hk).1 _ hq)
    exact (in_ok hk hb.1 hb.2 ho).1
  have key : ∀ i, i < (runsS c v).length → ∃ h, h ≤ i ∧ prevOf (nxR c (runsS c v)) h = none ∧ sidx (nxR c (runsS c v)) h = sidx (nxR c (runsS c v)) i ∧ v.getD (fstR (runsS c v) i).toNat 0 = v.getD (fstR (runsS c v) h).toNat 0 := by
    intro i
    induction i using Nat.strongRecOn with
    | ind i ih =>
      intro hi
      cases hp : prevOf (nxR c (runsS c v)) i with
      | none => exact ⟨i, Nat.le_refl _, hp, rfl, rfl⟩
      | some j =>
        obtain ⟨q1, q2⟩ := prevOf_some _ hp
        obtain ⟨h, h1, h2, h3, h4⟩ := ih j q1 (by omega)
        refine ⟨h, by omega, h2, by rw [h3, sidx_prev hp], ?_⟩
        rw [← hlv j i q2, ← h4]
        exact hrun j (by omega) _ (hR.lst_mem (by omega))
  obtain ⟨a, a1, a2, a3⟩ := head_of (runsS c v).length s (nxR c (runsS c v)) hs
  have ha := at_head c v a1 a2
  rw [a3] at ha
  unfold atS catR at hp
  obtain ⟨i, h1, h2⟩ := List.mem_flatMap.1 hp
  unfold memb at h1
  simp only [List.mem_filter, List.mem_range, beq_iff_eq] at h1
  obtain ⟨h, g1, g2, g3, g4⟩ := key i h1.1
  have hha : h = a := by
    have e : rankH (nxR c (runsS c v)) h = s := by rw [← sidx_head g2, g3, h1.2]
    rcases Nat.lt_trichotomy h a with q | q | q
    · have := rankH_mono (nx := nxR c (runsS c v)) (show h + 1 ≤ a by omega)
      rw [rankH_succ, g2] at this
      simp at this; omega
    · exact q
    · have := rankH_mono (nx := nxR c (runsS c v)) (show a + 1 ≤ h by omega)
      rw [rankH_succ, a2] at this
      simp at this; omega
  rw [ha, hrun i h1.1 p h2, g4, hha]
end

/-- At the levels of the walk, what is joined stands alike. -/
theorem joined_level {b : Int} (hb : b = 0 ∨ b = 1) (c : List Int) (i k : Nat) (h : nxR c (runsS c (runS c b c.length).lv) i = some k) :
    (runS c b c.length).lv.getD (lstR (runsS c (runS c b c.length).lv) i).toNat 0 = (runS c b c.length).lv.getD (fstR (runsS c (runS c b c.length).lv) k).toNat 0 := by
  have hR := runsS_rf c (runS c b c.length).lv
  obtain ⟨hi, hk⟩ := hR.nx_lt h
  have ht := (hR.nx_iff hi hk).1 h
  obtain ⟨j, j1, j2, j3, j4, j5, j6⟩ := hR.tgt hi ht
  obtain ⟨p, hp⟩ := Int.eq_ofNat_of_zero_le (show 0 ≤ fstR (runsS c (runS c b c.length).lv) k by omega)
  rw [j1, hp, Int.toNat_natCast, Int.toNat_natCast]
  exact (iso_level hb c j2 j3 (by rw [j4, hp])).symm

theorem pos_zero (c : List Int) : posS c 0 = 0 := rfl

theorem cnt_left (c : List Int) : iter (fun (s8 : Int × Int) => if decide (s8.2 < (c.length : Int)) = true then if 0 ≤ s8.2 ∧ s8.2 < (c.length : Int) then Option.bind (Q.f17F (c.getD s8.2.toNat 0)) fun v9 =>
    if (!v9) = true then some (Sum.inl (IntKind.i64.wrap (s8.1 + 1), IntKind.i64.wrap (s8.2 + 1))) else some (Sum.inl (s8.1, IntKind.i64.wrap (s8.2 + 1))) else none else some (Sum.inr s8.1)) (0, 0) = if c.length ≤ 100000 then some ((seenS c).length : Int) else iter (fun (s8 : Int × Int) => if decide (s8.2 < (c.length : Int)) = true then if 0 ≤ s8.2 ∧ s8.2 < (c.length : Int) then Option.bind (Q.f17F (c.getD s8.2.toNat 0)) fun v9 =>
    if (!v9) = true then some (Sum.inl (IntKind.i64.wrap (s8.1 + 1), IntKind.i64.wrap (s8.2 + 1))) else some (Sum.inl (s8.1, IntKind.i64.wrap (s8.2 + 1))) else none else some (Sum.inr s8.1)) (0, 0) := by
  by_cases hl : c.length ≤ 100000
  rotate_left
  · rw [if_neg hl]
  rw [if_pos hl]
  refine some_of (iter_rule (I := fun (s : Int × Int) => ∃ k : Nat, k ≤ c.length ∧ s = (((sN c k).length : Int), (k : Int))) (Q := fun r => r = ((seenS c).length : Int)) (fun s => (c.length - s.2).toNat) ?_ _ ⟨0, Nat.zero_le _, rfl⟩)
  rintro _ ⟨k, hk, rfl⟩
  have hsl := sN_len c k
  by_cases hkl : k < c.length
  · left
    have hw : IntKind.i64.wrap ((k : Int) + 1) = ((k + 1 : Nat) : Int) := by rw [wrap_i64 (by omega) (by omega)]; omega
    have hw2 : IntKind.i64.wrap (((sN c k).length : Int) + 1) = (((sN c k).length + 1 : Nat) : Int) := by rw [wrap_i64 (by omega) (by omega)]; omega
    dsimp only
    rw [if_pos (by rw [decide_eq_true_eq]; omega), if_pos (by omega)]
    simp only [f17_eq, Option.bind_some, hw, hw2, Int.toNat_natCast]
    cases ho : outC (c.getD k 0) with
    | true => exact ⟨_, rfl, ⟨k + 1, hkl, by rw [sN_succ, ho]; rfl⟩, by simp; omega⟩
    | false => exact ⟨_, rfl, ⟨k + 1, hkl, by rw [sN_succ, ho]; simp⟩, by simp; omega⟩
  · have : k = c.length := by omega
    subst this
    right
    rw [if_neg (by rw [decide_eq_true_eq]; omega)]
    exact ⟨_, rfl, rfl⟩
end Go.Sx
