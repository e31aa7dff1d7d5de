/- Sim, plain: behind a character; a run. -/
import Derived.Test.YtjmmbgjdfmceeaaSxDY7
set_option linter.unusedVariables false
set_option linter.unusedSimpArgs false
namespace Go.Sx
def okM (p : List Inst) (c k : Int) : Bool := inR p.length k && (decide ((p.getD k.toNat dI).1 = 1) && hasS (p.getD k.toNat dI).2.1 c)
def moveS (p : List Inst) (A : List Int) (c : Int) : List Int := (A.filter (okM p c)).map (· + 1)
def ranged (p : List Inst) : Prop := ∀ x ∈ p, x.2.1.length ≤ 9223372036854775807
theorem ranged.get {p : List Inst} (h : ranged p) {k : Int} (h0 : 0 ≤ k) (hk : k < p.length) : (p.getD k.toNat dI).2.1.length ≤ 9223372036854775807 := by
  rw [getD_lt _ _ (show k.toNat < p.length by omega)]
  exact h _ (List.getElem_mem _)
theorem moveS_rise {p : List Inst} {A : List Int} (h : A.Pairwise (· < ·)) (c : Int) : (moveS p A c).Pairwise (· < ·) := by
  unfold moveS
  rw [List.pairwise_map]
  exact (h.sublist List.filter_sublist).imp fun h => by omega
theorem moveS_len (p : List Inst) (A : List Int) (c : Int) : (moveS p A c).length ≤ A.length := by
  unfold moveS
  rw [List.length_map]
  exact List.length_filter_le _ _
theorem moveS_mem {p : List Inst} {A : List Int} {c k : Int} : k ∈ moveS p A c ↔ (k - 1) ∈ A ∧ okM p c (k - 1) = true := by
  unfold moveS
  simp only [List.mem_map, List.mem_filter]
  constructor
  · rintro ⟨i, ⟨h1, h2⟩, rfl⟩
    rw [show i + 1 - 1 = i by omega]
    exact ⟨h1, h2⟩
  · rintro ⟨h1, h2⟩
    exact ⟨k - 1, ⟨h1, h2⟩, by omega⟩
theorem s46_ok {p : List Inst} {A : List Int} (hl : A.length < 1100) (hp : p.length ≤ 100000) (hr : ranged p) (c : Int) : ∃ r, D.f46F (p, A, c) = some r ∧ r.Pairwise (· < ·) ∧ (∀ k, k ∈ r ↔ k ∈ moveS p A c) ∧ r.length ≤ A.length := by
  unfold D.f46F
  refine bind_ex (iter_rule (I := fun (s : Int × List Int) => ∃ i : Nat, s = ((i : Int), moveS p (A.take i) c) ∧ i ≤ A.length) (Q := fun e => e = moveS p A c) (fun s => ((A.length : Int) - s.1).toNat) ?_ _ ⟨0, rfl, Nat.zero_le _⟩) ?_
  · rintro _ ⟨i, rfl, hi⟩
    dsimp only
    by_cases hil : i < A.length
    · have hm : ((A.length : Int) - ((i : Int) + 1)).toNat < ((A.length : Int) - (i : Int)).toNat := by omega
      have hlen := moveS_len p (A.take i) c
      rw [List.length_take] at hlen
      have hs : moveS p (A.take (i + 1)) c = moveS p (A.take i) c ++ (if okM p c A[i] = true then [A[i] + 1] else []) := by
        unfold moveS
        rw [List.take_succ_eq_append_getElem hil, List.filter_append, List.map_append]
        congr 1
        by_cases h : okM p c A[i] = true
        · rw [if_pos h, List.filter_cons_of_pos h]; rfl
        · rw [if_neg h, List.filter_cons_of_neg h]; rfl
      rw [if_pos (by rw [decide_eq_true_eq]; omega), if_pos (by omega), Int.toNat_natCast, getD_lt _ _ hil, wrap_i64 (x := (i : Int) + 1) (by omega) (by omega)]
      have hok : (if decide (A[i] ≥ 0) = true then (if decide (A[i] < (p.length : Int)) = true then (if (0 : Int) ≤ A[i] ∧ A[i] < (p.length : Int) then (if ((p.getD A[i].toNat dI).1 == 1) = true then (if (0 : Int) ≤ A[i] ∧ A[i] < (p.length : Int) then
          Option.bind (D.f73F ((p.getD A[i].toNat dI).2.1, c)) fun (v2 : Bool) => some (v2, moveS p (A.take i) c) else none) else some (false, moveS p (A.take i) c)) else none) else some (false, moveS p (A.take i) c)) else some (false, moveS p (A.take i) c)) = some (okM p c A[i], moveS p (A.take i) c) := by
        unfold okM inR
        by_cases h0 : 0 ≤ A[i]
        · rw [if_pos (by rw [decide_eq_true_eq]; exact h0), decide_eq_true h0]
          by_cases h1 : A[i] < (p.length : Int)
          · rw [if_pos (by rw [decide_eq_true_eq]; exact h1), if_pos ⟨h0, h1⟩, decide_eq_true h1]
            by_cases h2 : (p.getD A[i].toNat dI).1 = 1
            · rw [if_pos (by rw [beq_iff_eq]; exact h2), if_pos ⟨h0, h1⟩, s73_eq _ _ (hr.get h0 h1), decide_eq_true h2]
              rfl
            · rw [if_neg (by rw [beq_iff_eq]; exact h2), decide_eq_false h2]
              rfl
          · rw [if_neg (by rw [decide_eq_true_eq]; exact h1), decide_eq_false h1]
            rfl
        · rw [if_neg (by rw [decide_eq_true_eq]; exact h0), decide_eq_false h0]
          rfl
      rw [hok]
      simp only [Option.bind_some]
      by_cases h : okM p c A[i] = true
      · have hv : 0 ≤ A[i] ∧ A[i] < p.length := by
          unfold okM inR at h
          simp only [Bool.and_eq_true, decide_eq_true_eq] at h
          exact h.1
        rw [if_pos h, wrap_i64 (x := A[i] + 1) (by omega) (by omega), if_pos (by unfold roomOk; first | omega | (simp only [List.length_cons, List.length_nil]; omega))]
        exact .inl ⟨_, rfl, ⟨i + 1, by rw [hs, if_pos h]; rfl, hil⟩, hm⟩
      · rw [if_neg h]
        exact .inl ⟨_, rfl, ⟨i + 1, by rw [hs, if_neg h, List.append_nil]; rfl, hil⟩, hm⟩
    · rw [if_neg (by rw [decide_eq_true_eq]; omega)]
      rw [List.take_of_length_le (by omega)]
      exact .inr ⟨_, rfl, rfl⟩
  · rintro _ rfl
    have hlen := moveS_len p A c
    obtain ⟨l', h1, h2, h3⟩ := s74_ok (l := moveS p A c) (by omega)
    rw [h1]
    simp only [Option.bind_some]
    have := h2.length_eq
    rw [s75_ok l' (by omega)]
    exact ⟨_, rfl, compS_rise h3, fun k => compS_mem.trans h2.mem_iff, by have := compS_len l'; omega⟩
theorem s46_rise {p : List Inst} {A : List Int} (hA : A.Pairwise (· < ·)) (hl : A.length < 1100) (hp : p.length ≤ 100000) (hr : ranged p) (c : Int) : D.f46F (p, A, c) = some (moveS p A c) := by
  obtain ⟨r, h1, h2, h3, _⟩ := s46_ok hl hp hr c
  rw [h1, rise_ext h2 (moveS_rise hA c) h3]
theorem s20_any {p : List Inst} {A : List Int} (hl : A.length ≤ 100000) (hp : rightS p = true) (hr : ranged p) (c : Int) : ∃ r, D.f20F (p, A, c) = some r ∧ r.Pairwise (· < ·) ∧ ∀ k, k ∈ r ↔ k ∈ moveS p A c := by
  obtain ⟨hn, hpos, _, _⟩ := rightS_all hp
  unfold D.f20F
  dsimp only
  rw [s26_eq _ (by omega), hp]
  simp only [Option.bind_some, Bool.not_true, Bool.false_eq_true, if_false]
  rw [wrap_i64 (x := (p.length : Int) + 1) (by omega) (by omega), show ((p.length : Int) + 1).toNat = p.length + 1 by omega, if_pos ⟨by omega, Int.le_refl _, by unfold roomOk; first | omega | (simp; omega)⟩]
  refine bind_ex (iter_rule (I := fun (s : Int × List Bool) => ∃ (i : Nat) (m : List Bool), s = ((i : Int), m) ∧ i ≤ A.length ∧ m.length = p.length + 1 ∧ ∀ j : Int, 0 ≤ j → (mkd m j = true ↔ j ∈ moveS p (A.take i) c))
    (Q := fun (m : List Bool) => m.length = p.length + 1 ∧ ∀ j : Int, 0 ≤ j → (mkd m j = true ↔ j ∈ moveS p A c)) (fun s => ((A.length : Int) - s.1).toNat) ?_ _ ⟨0, List.replicate (p.length + 1) false, rfl, Nat.zero_le _, by simp, fun j _ => by rw [mkd_repl]; simp [moveS]⟩) ?_
  · rintro _ ⟨i, m, rfl, hi, hlm, hI⟩
    dsimp only
    by_cases hil : i < A.length
    · have hm : ((A.length : Int) - ((i : Int) + 1)).toNat < ((A.length : Int) - (i : Int)).toNat := by omega
      have hs : ∀ j, j ∈ moveS p (A.take (i + 1)) c ↔ j ∈ moveS p (A.take i) c ∨ (j = A[i] + 1 ∧ okM p c A[i] = true) := by
        intro j
        rw [moveS_mem, moveS_mem, List.take_succ_eq_append_getElem hil, List.mem_append, List.mem_singleton]
        constructor
        · rintro ⟨h1 | h1, h2⟩
          · exact .inl ⟨h1, h2⟩
          · exact .inr ⟨by omega, by rw [← h1]; exact h2⟩
        · rintro (⟨h1, h2⟩ | ⟨h1, h2⟩)
          · exact ⟨.inl h1, h2⟩
          · rw [show j - 1 = A[i] by omega]; exact ⟨.inr rfl, h2⟩
      rw [if_pos (by rw [decide_eq_true_eq]; omega), if_pos (by omega), Int.toNat_natCast, getD_lt _ _ hil, wrap_i64 (x := (i : Int) + 1) (by omega) (by omega)]
      have hok : (if decide (A[i] ≥ 0) = true then (if decide (A[i] < (p.length : Int)) = true then (if (0 : Int) ≤ A[i] ∧ A[i] < (p.length : Int) then (if ((p.getD A[i].toNat dI).1 == 1) = true then (if (0 : Int) ≤ A[i] ∧ A[i] < (p.length : Int) then
          Option.bind (D.f47F ((p.getD A[i].toNat dI).2.1, c)) fun (v2 : Bool) => some (v2, m) else none) else some (false, m)) else none) else some (false, m)) else some (false, m)) = some (okM p c A[i], m) := by
        unfold okM inR
        by_cases h0 : 0 ≤ A[i]
        · rw [if_pos (by rw [decide_eq_true_eq]; exact h0), decide_eq_true h0]
          by_cases h1 : A[i] < (p.length : Int)
          · rw [if_pos (by rw [decide_eq_true_eq]; exact h1), if_pos ⟨h0, h1⟩, decide_eq_true h1]
            by_cases h2 : (p.getD A[i].toNat dI).1 = 1
            · rw [if_pos (by rw [beq_iff_eq]; exact h2), if_pos ⟨h0, h1⟩, s47_eq _ _ (hr.get h0 h1), decide_eq_true h2]
              rfl
            · rw [if_neg (by rw [beq_iff_eq]; exact h2), decide_eq_false h2]
              rfl
          · rw [if_neg (by rw [decide_eq_true_eq]; exact h1), decide_eq_false h1]
            rfl
        · rw [if_neg (by rw [decide_eq_true_eq]; exact h0), decide_eq_false h0]
          rfl
      rw [hok]
      simp only [Option.bind_some]
      by_cases h : okM p c A[i] = true
      · have hv : 0 ≤ A[i] ∧ A[i] < p.length := by
          unfold okM inR at h
          simp only [Bool.and_eq_true, decide_eq_true_eq] at h
          exact h.1
        rw [if_pos h, wrap_i64 (x := A[i] + 1) (by omega) (by omega), if_pos (by omega)]
        refine .inl ⟨_, rfl, ⟨i + 1, _, rfl, hil, by rw [List.length_set, hlm], fun j hj => ?_⟩, hm⟩
        rw [mkd_set (by omega) (by omega) hj, hs j, ← hI j hj]
        split
        · rename_i e; simp [e, h]
        · rename_i e; simp [e]
      · rw [if_neg h]
        refine .inl ⟨_, rfl, ⟨i + 1, _, rfl, hil, hlm, fun j hj => ?_⟩, hm⟩
        rw [hs j, ← hI j hj]
        simp [h]
    · rw [if_neg (by rw [decide_eq_true_eq]; omega)]
      rw [List.take_of_length_le (by omega)] at hI
      exact .inr ⟨_, rfl, hlm, hI⟩
  · rintro m ⟨hlm, hI⟩
    rw [s45_eq _ (by omega)]
    refine ⟨_, rfl, risingS_rise m, fun j => ?_⟩
    rw [risingS_mem]
    constructor
    · rintro ⟨h1, h2, h3⟩; exact (hI j h1).1 h3
    · intro h
      have h1 := (moveS_mem.1 h).2
      unfold okM inR at h1
      simp only [Bool.and_eq_true, decide_eq_true_eq] at h1
      exact ⟨by omega, by omega, (hI j (by omega)).2 h⟩
theorem s20_ok {p : List Inst} {A : List Int} (hA : A.Pairwise (· < ·)) (hl : A.length ≤ 100000) (hp : rightS p = true) (hr : ranged p) (c : Int) : D.f20F (p, A, c) = some (moveS p A c) := by
  obtain ⟨r, h1, h2, h3⟩ := s20_any hl hp hr c
  rw [h1, rise_ext h2 (moveS_rise hA c) h3]
def matchS (p : List Inst) (r : List Int) : Bool := r.any fun i => decide ((p.getD i.toNat dI).1 = 0)
theorem s5_eq {p : List Inst} {r : List Int} (hr : ∀ i ∈ r, 0 ≤ i ∧ i < p.length) (hl : r.length ≤ 100000) : D.s5F (r, p) = some (matchS p r, p) := by
  unfold D.s5F D.s4F
  obtain ⟨e, h1, h2⟩ := idx_rule r 0 (fun i => decide ((p.getD i.toNat dI).1 = 0)) p D.f76F (by omega) (fun x hx => by
    unfold D.f76F
    dsimp only
    rw [if_pos (hr x hx)]
    congr 2)
  dsimp only
  rw [h1, Option.bind_some, h2, findIdx_any]
  unfold matchS
  congr 2
  split <;> rfl
theorem s78_eq {p : List Inst} {r : List Int} (hr : ∀ i ∈ r, 0 ≤ i ∧ i < p.length) (hl : r.length ≤ 100000) : D.f78F (p, r) = some (matchS p r) := by
  unfold D.f78F
  refine bind_of ?_
  refine any_rule r _ 0 ?_ ?_
  · intro i hi
    dsimp only
    rw [if_pos (by rw [decide_eq_true_eq]; omega), if_pos (by omega), Int.toNat_natCast, getD_lt _ _ hi, if_pos (hr _ (List.getElem_mem hi)), wrap_i64 (by omega) (by omega)]
    by_cases h : (p.getD r[i].toNat dI).1 = 0
    · rw [if_pos (by rw [beq_iff_eq]; exact h), if_pos (by rw [decide_eq_true_eq]; exact h)]
    · rw [if_neg (by rw [beq_iff_eq]; exact h), if_neg (by rw [decide_eq_true_eq]; exact h)]
  · dsimp only
    rw [if_neg (by simp)]
open Classical in
noncomputable def reachS (p : List Inst) (A : List Int) (st sp : Bool) : List Int := ((List.range p.length).filter fun j : Nat => decide (Rch p st sp (· ∈ A) (j : Int))).map fun j : Nat => (j : Int)
open Classical in
theorem Marks.reachS {p : List Inst} {st sp : Bool} {A : List Int} {m : List Bool} (h : Marks p st sp A m) : risingS m = reachS p A st sp := by
  unfold risingS Go.Sx.reachS
  rw [h.len]
  congr 1
  refine List.filter_congr fun i hi => ?_
  have := h.iff (i : Int) (by omega)
  unfold mkd at this
  rw [Int.toNat_natCast] at this
  rw [Bool.eq_iff_iff, this, decide_eq_true_eq]
theorem reachS_in {p : List Inst} {A : List Int} {st sp : Bool} : ∀ i ∈ reachS p A st sp, 0 ≤ i ∧ i < p.length := by
  intro i hi
  unfold reachS at hi
  simp only [List.mem_map, List.mem_filter, List.mem_range] at hi
  obtain ⟨j, ⟨h1, _⟩, rfl⟩ := hi
  omega
theorem reachS_rise (p : List Inst) (A : List Int) (st sp : Bool) : (reachS p A st sp).Pairwise (· < ·) := by
  unfold reachS
  rw [List.pairwise_map]
  exact (List.pairwise_lt_range.sublist List.filter_sublist).imp fun h => by omega
theorem reachS_len (p : List Inst) (A : List Int) (st sp : Bool) : (reachS p A st sp).length ≤ p.length := by
  unfold reachS
  rw [List.length_map]
  exact Nat.le_trans (List.length_filter_le _ _) (by simp)
noncomputable def walkS (p : List Inst) : List Int → Nat → List Int → List Int × Nat
  | _, _, [] => ([], 0)
  | [], i, A => let r := reachS p A (decide (i = 0)) true
    (if matchS p r = true then [(i : Int)] else [], r.length)
  | c :: l, i, A => let r := reachS p A (decide (i = 0)) false
    let w := walkS p l (i + 1) (moveS p r c)
    ((if matchS p r = true then [(i : Int)] else []) ++ w.1, r.length + w.2)
theorem walkS_nil (p : List Inst) (l : List Int) (i : Nat) : walkS p l i [] = ([], 0) := by
  cases l <;> rfl
theorem walkS_ge (p : List Inst) : ∀ (l : List Int) (i : Nat) (A : List Int), ∀ k ∈ (walkS p l i A).1, (i : Int) ≤ k ∧ k ≤ i + l.length
  | l, i, [], k, hk => by rw [walkS_nil] at hk; simp at hk
  | [], i, a :: A, k, hk => by
    simp only [walkS] at hk
    split at hk
    · simp at hk; subst hk; simp
    · simp at hk
  | c :: l, i, a :: A, k, hk => by
    simp only [walkS] at hk
    rcases List.mem_append.1 hk with hk | hk
    · split at hk
      · simp at hk; subst hk; simp; omega
      · simp at hk
    · have := walkS_ge p l (i + 1) _ k hk
      simp only [List.length_cons]
      omega
theorem walkS_steps (p : List Inst) : ∀ (l : List Int) (i : Nat) (A : List Int), (walkS p l i A).2 ≤ p.length * (l.length + 1)
  | l, i, [] => by rw [walkS_nil]; exact Nat.zero_le _
  | [], i, a :: A => by
    simp only [walkS]
    have := reachS_len p (a :: A) (decide (i = 0)) true
    simpa using this
  | c :: l, i, a :: A => by
    simp only [walkS]
    have h1 := reachS_len p (a :: A) (decide (i = 0)) false
    have h2 := walkS_steps p l (i + 1) (moveS p (reachS p (a :: A) (decide (i = 0)) false) c)
    rw [List.length_cons, Nat.mul_succ]
    omega
theorem walkS_last (p : List Inst) {i : Nat} {A : List Int} (hA : A ≠ []) : walkS p [] i A = (if matchS p (reachS p A (decide (i = 0)) true) = true then [(i : Int)] else [], (reachS p A (decide (i = 0)) true).length) := by
  cases A with
  | nil => exact absurd rfl hA
  | cons a A => rfl
theorem walkS_cons (p : List Inst) {c : Int} {l : List Int} {i : Nat} {A : List Int} (hA : A ≠ []) : walkS p (c :: l) i A = ((if matchS p (reachS p A (decide (i = 0)) false) = true then [(i : Int)] else []) ++ (walkS p l (i + 1) (moveS p (reachS p A (decide (i = 0)) false) c)).1,
    (reachS p A (decide (i = 0)) false).length + (walkS p l (i + 1) (moveS p (reachS p A (decide (i = 0)) false) c)).2) := by
  cases A with
  | nil => exact absurd rfl hA
  | cons a A => rfl
end Go.Sx
