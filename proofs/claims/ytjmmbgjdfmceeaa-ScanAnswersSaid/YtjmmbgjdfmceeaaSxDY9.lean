/- Sim, plain: runs; the laws SimRuns and SimLongests. -/
import Derived.Test.YtjmmbgjdfmceeaaSxDY8
set_option linter.unusedVariables false
set_option linter.unusedSimpArgs false
namespace Go.Sx
def runOk (p : List Inst) (l : List Int) (k : Int) : Bool := rightS p && (decide (0 ≤ k) && decide (k ≤ l.length))
noncomputable def runS (p : List Inst) (l : List Int) (k : Int) : List Int × Nat := if runOk p l k = true then walkS p (l.drop k.toNat) k.toNat [0] else ([], 0)
def lastOr (e : Int) (l : List Int) : Int := l.getLastD e
theorem lastOr_app (e : Int) (a b : List Int) : lastOr e (a ++ b) = lastOr (lastOr e a) b := by
  unfold lastOr
  induction a generalizing e with
  | nil => rfl
  | cons x a ih => rw [List.cons_append, List.getLastD_cons, List.getLastD_cons, ih]
structure RunI (p : List Inst) (l : List Int) (i : Nat) (A : List Int) : Prop where
  le : i ≤ l.length
  rise : A.Pairwise (· < ·)
  len : A.length ≤ 1001
theorem RunI.next {p : List Inst} {l : List Int} {i : Nat} {A : List Int} (hp : p.length ≤ 1000) (h : RunI p l i A) (hi : i < l.length) (st sp : Bool) (c : Int) : RunI p l (i + 1) (moveS p (reachS p A st sp) c) where
  le := hi
  rise := moveS_rise (reachS_rise p A st sp) c
  len := by
    have h1 := moveS_len p (reachS p A st sp) c
    have h2 := reachS_len p A st sp
    omega
theorem natb (i n : Nat) : ((i : Int) == (n : Int)) = decide (i = n) := by
  rw [Bool.eq_iff_iff, beq_iff_eq, decide_eq_true_eq]; omega
theorem natb0 (i : Nat) : ((i : Int) == (0 : Int)) = decide (i = 0) := natb i 0
theorem risingS_count (m : List Bool) : (risingS m).length = m.count true := by
  have key : ∀ n, n ≤ m.length → (risingTo m n).length = (m.take n).count true := by
    intro n
    induction n with
    | zero => intro _; rfl
    | succ n ih =>
      intro hn
      rw [risingTo_succ, List.length_append, ih (by omega), List.take_succ_eq_append_getElem (by omega), List.count_append, getD_lt _ _ (show n < m.length by omega)]
      cases m[n] <;> simp
  have := key m.length (Nat.le_refl _)
  rw [List.take_length] at this
  exact this
theorem walkS_outs (p : List Inst) : ∀ (l : List Int) (i : Nat) (A : List Int), (walkS p l i A).1.length ≤ l.length + 1
  | l, i, [] => by rw [walkS_nil]; exact Nat.zero_le _
  | [], i, a :: A => by
    simp only [walkS]
    split <;> simp
  | c :: l, i, a :: A => by
    simp only [walkS]
    have h2 := walkS_outs p l (i + 1) (moveS p (reachS p (a :: A) (decide (i = 0)) false) c)
    rw [List.length_append, List.length_cons]
    split <;> simp <;> omega
theorem s18_eq {p : List Inst} {st sp : Bool} {A : List Int} (hp : rightS p = true) (hA : A.length ≤ 100000) : D.f18F (p, A, st, sp) = some (reachS p A st sp) := by
  obtain ⟨m, h1, h2⟩ := s18_ok (st := st) (sp := sp) hp hA
  rw [h1, h2.reachS]
theorem s50_ok {p : List Inst} (hl : p.length ≤ 100000) (hr : ranged p) (l : List Int) (hll : l.length ≤ 10000) (k : Int) : D.f50F (p, l, k) = some ((runS p l k).1, ((runS p l k).2 : Int)) := by
  unfold D.f50F runS runOk
  dsimp only
  rw [s26_eq _ hl]
  simp only [Option.bind_some]
  cases hp : rightS p with
  | false => rfl
  | true =>
  obtain ⟨hn, hpos, _, _⟩ := rightS_all hp
  simp only [Bool.not_true, Bool.false_eq_true, if_false]
  by_cases hk0 : k < 0
  · rw [if_pos (by rw [decide_eq_true_eq]; exact hk0), decide_eq_false (show ¬ 0 ≤ k by omega)]
    rfl
  rw [if_neg (by rw [decide_eq_true_eq]; exact hk0)]
  by_cases hk1 : k > (l.length : Int)
  · rw [decide_eq_true hk1, decide_eq_false (show ¬ k ≤ l.length by omega)]
    simp
  rw [decide_eq_false hk1, decide_eq_true (show 0 ≤ k by omega), decide_eq_true (show k ≤ l.length by omega)]
  simp only [Option.bind_some, Bool.false_eq_true, if_false, Bool.and_self, if_true]
  obtain ⟨k, rfl⟩ := Int.eq_ofNat_of_zero_le (show 0 ≤ k by omega)
  rw [Int.toNat_natCast]
  have hts := walkS_steps p (l.drop k) k [0]
  have hto := walkS_outs p (l.drop k) k [0]
  rw [List.length_drop] at hts hto
  have hts' : (walkS p (l.drop k) k [0]).2 ≤ 1000 * 10001 := Nat.le_trans hts (Nat.mul_le_mul hn (by omega))
  generalize htot : walkS p (l.drop k) k [0] = tot at *
  suffices hh : ∃ r, Option.bind _ _ = some r ∧ r = (tot.1, (tot.2 : Int)) by
    obtain ⟨r, h1, rfl⟩ := hh
    exact h1
  refine bind_ex (iter_rule (I := fun (s : Int × List Int × Int × List Int) => ∃ (i st : Nat) (A out : List Int), s = ((st : Int), A, (i : Int), out) ∧ (A = [] ∨ RunI p l i A) ∧ out ++ (walkS p (l.drop i) i A).1 = tot.1 ∧ st + (walkS p (l.drop i) i A).2 = tot.2) (Q := fun e => e = ((tot.2 : Int), tot.1))
    (fun s => ((l.length : Int) - s.2.2.1).toNat + (if s.2.1 = [] then 0 else 1)) ?_ _ ⟨k, 0, [0], [], rfl, .inr ⟨by omega, by simp, by simp⟩, by rw [htot]; rfl, by rw [htot]; omega⟩) ?_
  · rintro _ ⟨i, st, A, out, rfl, hA, h1, h2⟩
    dsimp only
    by_cases hA0 : A = []
    · subst hA0
      rw [if_neg (by simp)]
      rw [walkS_nil] at h1 h2
      simp only [List.append_nil, Nat.add_zero] at h1 h2
      exact .inr ⟨_, rfl, by rw [h1, h2]⟩
    have hR := hA.resolve_left hA0
    have hAl : 0 < A.length := List.length_pos_iff.2 hA0
    have hi := hR.le
    rw [if_pos (by rw [decide_eq_true_eq]; omega), s18_eq hp (by have := hR.len; omega), natb0, natb]
    simp only [Option.bind_some]
    have hrl := reachS_len p A (decide (i = 0)) (decide (i = l.length))
    rw [s78_eq reachS_in (by omega)]
    simp only [Option.bind_some]
    have hout : out.length ≤ 10001 := by
      have := congrArg List.length h1
      rw [List.length_append] at this
      omega
    rw [if_pos (show roomOk _ _ by unfold roomOk; first | omega | (simp only [List.length_cons, List.length_nil]; omega))]
    have hv4 : ∀ (b : Bool), (if b = true then some (out ++ [(i : Int)]) else some out) = some (out ++ (if b = true then [(i : Int)] else [])) := fun b => by cases b <;> simp
    rw [hv4]
    simp only [Option.bind_some]
    by_cases hil : i < l.length
    · rw [if_pos (by rw [decide_eq_true_eq]; omega), if_pos (by omega), Int.toNat_natCast, getD_lt _ _ hil]
      have hsp : decide (i = l.length) = false := decide_eq_false (by omega)
      rw [hsp] at hrl ⊢
      rw [s20_ok (reachS_rise _ _ _ _) (by omega) hp hr]
      simp only [Option.bind_some]
      rw [List.drop_eq_getElem_cons hil, walkS_cons p hA0] at h1 h2
      rw [wrap_i64 (x := (i : Int) + 1) (by omega) (by omega), wrap_i64 (by omega) (by omega)]
      refine .inl ⟨_, rfl, ⟨i + 1, st + (reachS p A (decide (i = 0)) false).length, _, _, rfl, .inr (hR.next hn hil _ _ _), ?_, ?_⟩, ?_⟩
      · rw [← h1]; simp only [List.append_assoc]
      · rw [← h2]; omega
      · show ((l.length : Int) - ((i : Int) + 1)).toNat + (if moveS p _ _ = [] then 0 else 1) < ((l.length : Int) - (i : Int)).toNat + (if A = [] then 0 else 1)
        rw [if_neg hA0]
        split <;> omega
    · rw [if_neg (by rw [decide_eq_true_eq]; omega)]
      have hile : i = l.length := by omega
      have hsp : decide (i = l.length) = true := decide_eq_true hile
      rw [hsp] at hrl ⊢
      rw [List.drop_of_length_le (by omega), walkS_last p hA0] at h1 h2
      rw [wrap_i64 (x := (i : Int) + 1) (by omega) (by omega), wrap_i64 (by dsimp only at h2; omega) (by dsimp only at h2; omega)]
      refine .inl ⟨_, rfl, ⟨i + 1, st + (reachS p A (decide (i = 0)) true).length, [], _, rfl, .inl rfl, ?_, ?_⟩, ?_⟩
      · rw [walkS_nil, ← h1]; simp
      · rw [walkS_nil, ← h2]; rfl
      · show ((l.length : Int) - ((i : Int) + 1)).toNat + (if ([] : List Int) = [] then 0 else 1) < ((l.length : Int) - (i : Int)).toNat + (if A = [] then 0 else 1)
        rw [if_neg hA0, if_pos rfl]
        omega
  · rintro _ rfl
    exact ⟨_, rfl, rfl⟩
theorem s43_eq {p : List Inst} {st sp : Bool} {A : List Int} (hp : rightS p = true) (hA : A.length ≤ 100000) : ∃ m : List Bool, D.f43F (p, A, st, sp) = some (p, st, sp, ((reachS p A st sp).length : Int), m) ∧ ∀ c, D.f44F (p, st, sp, m, c) = some (reachS p A st sp) := by
  obtain ⟨hn, _⟩ := rightS_all hp
  obtain ⟨m, h1, h2⟩ := s43_ok (st := st) (sp := sp) hp hA
  refine ⟨m, ?_, fun c => ?_⟩
  · rw [h1, ← h2.reachS, risingS_count]
  · rw [s44_eq _ _ _ _ _ (by rw [h2.len]; omega), h2.reachS]
theorem s42_part {p : List Inst} (hl : p.length ≤ 100000) (l : List Int) (k : Int) {R : Type} (y : Bool → Option R) :
    (∀ {α : Type} (a : α), Option.bind (if decide (k < 0) = true then some (true, a) else if decide (k > (l.length : Int)) = true then some (true, a) else Option.bind (D.f42F p) fun (v1 : Bool) => some (!v1, a)) (fun v => y v.1) = y (!runOk p l k)) := by
  intro α a
  unfold runOk
  by_cases hk0 : k < 0
  · rw [if_pos (by rw [decide_eq_true_eq]; exact hk0), decide_eq_false (show ¬ 0 ≤ k by omega)]
    simp
  rw [if_neg (by rw [decide_eq_true_eq]; exact hk0), decide_eq_true (show 0 ≤ k by omega)]
  by_cases hk1 : k > (l.length : Int)
  · rw [if_pos (by rw [decide_eq_true_eq]; exact hk1), decide_eq_false (show ¬ k ≤ l.length by omega)]
    simp
  rw [if_neg (by rw [decide_eq_true_eq]; exact hk1), s42_eq _ hl, decide_eq_true (show k ≤ l.length by omega)]
  simp
theorem s6_ok {p : List Inst} (hl : p.length ≤ 100000) (hr : ranged p) (l : List Int) (hll : l.length ≤ 10000) (k e0 : Int) : D.s6F (p, l, k, e0) = some (((runS p l k).2 : Int), lastOr e0 (runS p l k).1) := by
  unfold D.s6F
  dsimp only
  have hpre : (if decide (k < 0) = true then some (true, e0, p) else if decide (k > (l.length : Int)) = true then some (true, e0, p) else Option.bind (D.f42F p) fun (v1 : Bool) => some (!v1, e0, p)) = some (!runOk p l k, e0, p) := by
    have := s42_part hl l k (fun b => some (b, e0, p)) (e0, p)
    unfold runOk
    by_cases hk0 : k < 0
    · rw [if_pos (by rw [decide_eq_true_eq]; exact hk0), decide_eq_false (show ¬ 0 ≤ k by omega)]
      simp
    rw [if_neg (by rw [decide_eq_true_eq]; exact hk0), decide_eq_true (show 0 ≤ k by omega)]
    by_cases hk1 : k > (l.length : Int)
    · rw [if_pos (by rw [decide_eq_true_eq]; exact hk1), decide_eq_false (show ¬ k ≤ l.length by omega)]
      simp
    rw [if_neg (by rw [decide_eq_true_eq]; exact hk1), s42_eq _ hl, decide_eq_true (show k ≤ l.length by omega)]
    simp
  rw [hpre]
  unfold runS
  simp only [Option.bind_some]
  cases hok : runOk p l k with
  | false => rfl
  | true =>
  simp only [Bool.not_true, Bool.false_eq_true, if_false, if_true]
  unfold runOk at hok
  simp only [Bool.and_eq_true, decide_eq_true_eq] at hok
  obtain ⟨hp, hk0, hk1⟩ := hok
  obtain ⟨hn, hpos, _, _⟩ := rightS_all hp
  obtain ⟨k, rfl⟩ := Int.eq_ofNat_of_zero_le hk0
  rw [Int.toNat_natCast]
  have hts := walkS_steps p (l.drop k) k [0]
  rw [List.length_drop] at hts
  have hts' : (walkS p (l.drop k) k [0]).2 ≤ 1000 * 10001 := Nat.le_trans hts (Nat.mul_le_mul hn (by omega))
  generalize htot : walkS p (l.drop k) k [0] = tot at *
  suffices hh : ∃ r, Option.bind _ _ = some r ∧ r = ((tot.2 : Int), lastOr e0 tot.1) by
    obtain ⟨r, h1, rfl⟩ := hh
    exact h1
  refine bind_ex (iter_rule (I := fun (s : Int × List Int × Int × Int × List Inst) => ∃ (i st : Nat) (A : List Int) (e : Int), s = ((st : Int), A, (i : Int), e, p) ∧ RunI p l i A ∧ lastOr e (walkS p (l.drop i) i A).1 = lastOr e0 tot.1 ∧ st + (walkS p (l.drop i) i A).2 = tot.2) (Q := fun (e : Int × Int ⊕ Int × Int) => e = .inl ((tot.2 : Int), lastOr e0 tot.1) ∨ e = .inr ((tot.2 : Int), lastOr e0 tot.1))
    (fun s => ((l.length : Int) - s.2.2.1).toNat) ?_ _ ⟨k, 0, [0], e0, rfl, ⟨by omega, by simp, by simp⟩, by rw [htot], by rw [htot]; omega⟩) ?_
  · rintro _ ⟨i, st, A, e, rfl, hR, h1, h2⟩
    dsimp only
    by_cases hA0 : A = []
    · subst hA0
      rw [if_neg (by simp)]
      rw [walkS_nil] at h1 h2
      simp only [Nat.add_zero] at h1 h2
      exact .inr ⟨_, rfl, .inl (by rw [← h1, h2]; rfl)⟩
    have hAl : 0 < A.length := List.length_pos_iff.2 hA0
    have hi := hR.le
    obtain ⟨m, q1, q2⟩ := s43_eq (st := decide (i = 0)) (sp := decide (i = l.length)) (A := A) hp (by have := hR.len; omega)
    have hrl := reachS_len p A (decide (i = 0)) (decide (i = l.length))
    rw [if_pos (by rw [decide_eq_true_eq]; omega), natb0, natb, q1]
    simp only [Option.bind_some]
    rw [q2]
    simp only [Option.bind_some]
    rw [s5_eq reachS_in (by omega)]
    simp only [Option.bind_some]
    have hv5 : ∀ b : Bool, (if b = true then Option.bind (D.f49F ((i : Int), e)) fun (v6 : Bool × Int) => (if (!v6.1) = true then some (true, v6.2, p) else some (decide (i = l.length), v6.2, p)) else some (decide (i = l.length), e, p)) = some (decide (i = l.length), lastOr e (if b = true then [(i : Int)] else []), p) := fun b => by
      cases b <;> rfl
    rw [hv5]
    simp only [Option.bind_some]
    by_cases hil : i < l.length
    · have hsp : decide (i = l.length) = false := decide_eq_false (by omega)
      rw [hsp] at hrl ⊢
      rw [if_neg (by simp), if_pos (by omega), Int.toNat_natCast, getD_lt _ _ hil, s46_rise (reachS_rise _ _ _ _) (by omega) hl hr]
      simp only [Option.bind_some]
      rw [List.drop_eq_getElem_cons hil, walkS_cons p hA0] at h1 h2
      rw [wrap_i64 (x := (i : Int) + 1) (by omega) (by omega), wrap_i64 (by omega) (by omega)]
      refine .inl ⟨_, rfl, ⟨i + 1, st + (reachS p A (decide (i = 0)) false).length, _, _, rfl, hR.next hn hil _ _ _, ?_, ?_⟩, ?_⟩
      · rw [← h1, lastOr_app]
      · rw [← h2]; omega
      · show ((l.length : Int) - ((i : Int) + 1)).toNat < ((l.length : Int) - (i : Int)).toNat
        omega
    · have hile : i = l.length := by omega
      have hsp : decide (i = l.length) = true := decide_eq_true hile
      rw [hsp] at hrl ⊢
      rw [if_pos rfl]
      rw [List.drop_of_length_le (by omega), walkS_last p hA0] at h1 h2
      rw [wrap_i64 (by dsimp only at h2; omega) (by dsimp only at h2; omega)]
      refine .inr ⟨_, rfl, .inr ?_⟩
      rw [← h1, ← h2]
      simp
  · rintro _ (rfl | rfl)
    · exact ⟨_, rfl, rfl⟩
    · exact ⟨_, rfl, rfl⟩
theorem s21_eq {p : List Inst} (hl : p.length ≤ 100000) (hr : ranged p) (l : List Int) (hll : l.length ≤ 10000) (k : Int) : D.f21F (p, l, k) = some (lastOr (-1) (runS p l k).1, ((runS p l k).2 : Int)) := by
  unfold D.f21F
  simp only [s6_ok hl hr l hll, Option.bind_some]
theorem runS_len {p : List Inst} (l : List Int) (k : Int) : (runS p l k).1.length ≤ l.length + 1 := by
  unfold runS
  split
  · have := walkS_outs p (l.drop k.toNat) k.toNat [0]
    rw [List.length_drop] at this
    omega
  · exact Nat.zero_le _
theorem s22_eq {p : List Inst} (hl : p.length ≤ 100000) (hr : ranged p) (l : List Int) (hll : l.length ≤ 10000) (k : Int) : D.f22F (p, l, k) = some (lastOr (-1) (runS p l k).1, ((runS p l k).2 : Int)) := by
  unfold D.f22F
  simp only [s50_ok hl hr l hll, Option.bind_some]
  have hlen := runS_len (p := p) l k
  by_cases h0 : (runS p l k).1 = []
  · rw [h0]; rfl
  · have hpos : 0 < (runS p l k).1.length := List.length_pos_iff.2 h0
    rw [if_neg (by rw [beq_iff_eq]; omega), wrap_i64 (by omega) (by omega), if_pos (by omega), show (((runS p l k).1.length : Int) - 1).toNat = (runS p l k).1.length - 1 by omega, getD_lt _ _ (by omega)]
    congr 2
    unfold lastOr
    rw [← List.getLast_eq_getElem h0, List.getLastD_eq_getLast?, List.getLast?_eq_some_getLast h0]
    rfl
theorem s17_eq {p : List Inst} {st sp : Bool} {A : List Int} (hp : rightS p = true) (hA : A.length ≤ 100000) : D.f17F (p, A, st, sp) = some (reachS p A st sp) := by
  obtain ⟨m, h1, h2⟩ := s17_ok (st := st) (sp := sp) hp hA
  rw [h1, h2.reachS]
end Go.Sx
