/- Sim, plain: programs that may be; marks. -/
import Derived.Test.YtjmmbgjdfmceeaaSxDY2
set_option linter.unusedVariables false
set_option linter.unusedSimpArgs false
namespace Go.Sx
abbrev dI : Inst := ((0 : Int), [], (0 : Int), (0 : Int))
def inR (n : Nat) (i : Int) : Bool := decide (0 ≤ i) && decide (i < n)
def goodI (n : Nat) (x : Inst) : Bool := if x.1 = 2 then inR n x.2.2.1 && inR n x.2.2.2 else if x.1 = 3 then inR n x.2.2.1 else decide (x.1 = 0) || decide (x.1 = 1) || decide (x.1 = 4) || decide (x.1 = 5)
def rightS (p : List Inst) : Bool := decide (p ≠ []) && decide (p.length ≤ 1000) && decide ((p.getD (p.length - 1) dI).1 = 0) && p.all (goodI p.length)
theorem s69_eq (i : Int) (n : Nat) : D.f69F (i, (n : Int)) = some (inR n i, (n : Int)) := by
  unfold D.f69F inR
  dsimp only
  by_cases h : 0 ≤ i
  · rw [if_pos (by rw [decide_eq_true_eq]; exact h)]; simp [h]
  · rw [if_neg (by rw [decide_eq_true_eq]; exact h)]; simp [h]
theorem s71_eq (x : Inst) (n : Nat) : D.f71F (x, (n : Int)) = some (!goodI n x, (n : Int)) := by
  obtain ⟨op, rs, to, alt⟩ := x
  unfold D.f71F goodI
  dsimp only
  by_cases h0 : op = 0
  · subst h0; simp
  by_cases h1 : op = 1
  · subst h1; simp
  by_cases h4 : op = 4
  · subst h4; simp
  by_cases h5 : op = 5
  · subst h5; simp
  rw [if_neg (by simpa using h0), if_neg (by simpa using h1), if_neg (by simpa using h4)]
  have e5 : (op == 5) = false := by simpa using h5
  rw [e5]
  simp only [Option.bind_some, Bool.false_eq_true, if_false]
  by_cases h2 : op = 2
  · subst h2
    rw [if_pos (by simp), if_pos rfl, s69_eq]
    simp only [Option.bind_some]
    cases h : inR n to with
    | false => simp
    | true => simp [s69_eq]
  by_cases h3 : op = 3
  · subst h3
    rw [if_neg (by simp), if_pos (by simp), if_neg (by decide), if_pos rfl, s69_eq]
    simp
  rw [if_neg (by simpa using h2), if_neg (by simpa using h3), if_neg h2, if_neg h3]
  simp [h0, h1, h4, h5]
theorem s1_eq (p : List Inst) (n : Nat) (hl : p.length ≤ 100000) : D.s1F (p, (n : Int)) = some (!p.all (goodI n), (n : Int)) := by
  unfold D.s1F D.s0F
  obtain ⟨r, h1, h2⟩ := idx_rule p dI (fun x => !goodI n x) (n : Int) D.f71F (by omega) (fun x _ => s71_eq x n)
  dsimp only
  rw [h1, Option.bind_some, h2, findIdx_any]
  rw [List.not_all_eq_any_not]
  congr 2
  split <;> rfl
theorem s42_eq (p : List Inst) (hl : p.length ≤ 100000) : D.f42F p = some (rightS p) := by
  unfold D.f42F rightS
  by_cases h0 : p = []
  · subst h0; simp
  have hpos : 0 < p.length := List.length_pos_iff.2 h0
  rw [if_neg (by simp; omega)]
  by_cases h1 : p.length ≤ 1000
  · rw [if_neg (by rw [decide_eq_true_eq]; omega), wrap_i64 (by omega) (by omega), if_pos (by omega), show ((p.length : Int) - 1).toNat = p.length - 1 by omega]
    simp only [Option.bind_some]
    by_cases h2 : (p.getD (p.length - 1) dI).1 = 0
    · rw [if_neg (by rw [bne_iff_ne]; exact fun k => k h2), s1_eq _ _ hl]
      simp only [Option.bind_some, Bool.not_not]
      rw [decide_eq_true h0, decide_eq_true h1, decide_eq_true h2]
      rfl
    · rw [if_pos (by rw [bne_iff_ne]; exact h2), decide_eq_false h2]
      simp only [Bool.and_false, Bool.false_and]
  · rw [if_pos (by rw [decide_eq_true_eq]; omega)]
    simp [h1]
theorem s26_eq (p : List Inst) (hl : p.length ≤ 100000) : D.f26F p = some (rightS p) := by
  unfold D.f26F rightS
  by_cases h0 : p = []
  · subst h0; simp
  have hpos : 0 < p.length := List.length_pos_iff.2 h0
  rw [if_neg (by rw [decide_eq_true_eq]; omega)]
  by_cases h1 : p.length ≤ 1000
  · rw [if_neg (by rw [decide_eq_true_eq]; omega), wrap_i64 (by omega) (by omega), if_pos (by omega), show ((p.length : Int) - 1).toNat = p.length - 1 by omega]
    simp only [Option.bind_some]
    by_cases h2 : (p.getD (p.length - 1) dI).1 = 0
    · rw [if_neg (by rw [bne_iff_ne]; exact fun k => k h2)]
      refine (bind_of (all_rule p (goodI p.length) dI ?_ ?_)).trans ?_
      · intro i hi
        rw [if_pos (by rw [decide_eq_true_eq]; omega), if_pos (by omega), wrap_i64 (by omega) (by omega), Int.toNat_natCast]
        obtain ⟨op, rs, to, alt⟩ := p.getD i dI
        unfold goodI inR
        dsimp only
        by_cases e2 : op = 2
        · subst e2
          rw [if_neg (by simp), if_neg (by simp), if_pos (by simp), if_pos rfl]
          by_cases k1 : to < 0
          · simp [k1, Int.not_le.2 k1]
          by_cases k2 : (p.length : Int) ≤ to
          · simp [k1, k2, Int.not_lt.2 k2]
          by_cases k3 : alt < 0
          · simp [k1, k2, k3, Int.not_le.2 k3]
          by_cases k4 : (p.length : Int) ≤ alt
          · simp [k1, k2, k3, k4, Int.not_lt.2 k4]
          · simp [k1, k2, k3, k4, Int.not_lt.1 k1, Int.not_le.1 k2, Int.not_lt.1 k3, Int.not_le.1 k4]
        by_cases e3 : op = 3
        · subst e3
          rw [if_neg (by simp), if_neg (by simp), if_neg (by simp), if_pos (by simp), if_neg e2, if_pos rfl]
          by_cases k1 : to < 0
          · simp [k1, Int.not_le.2 k1]
          by_cases k2 : (p.length : Int) ≤ to
          · simp [k1, k2, Int.not_lt.2 k2]
          · simp [k1, k2, Int.not_lt.1 k1, Int.not_le.1 k2]
        rw [if_neg e2, if_neg e3]
        by_cases k1 : op < 0
        · have : ¬ op = 0 ∧ ¬ op = 1 ∧ ¬ op = 4 ∧ ¬ op = 5 := by omega
          simp [k1, this]
        by_cases k2 : op > 5
        · have : ¬ op = 0 ∧ ¬ op = 1 ∧ ¬ op = 4 ∧ ¬ op = 5 := by omega
          simp [k1, k2, this]
        have : op = 0 ∨ op = 1 ∨ op = 4 ∨ op = 5 := by omega
        rcases this with rfl | rfl | rfl | rfl <;> simp
      · rw [if_neg (by simp)]
      · rw [decide_eq_true h0, decide_eq_true h1, decide_eq_true h2]
        rfl
    · rw [if_pos (by rw [bne_iff_ne]; exact h2), decide_eq_false h2]
      simp only [Bool.and_false, Bool.false_and, Option.bind_some, if_true]
  · rw [if_pos (by rw [decide_eq_true_eq]; omega)]
    simp [h1]
def risingS (m : List Bool) : List Int := ((List.range m.length).filter fun i => m.getD i false).map fun i : Nat => (i : Int)
theorem risingS_mem {m : List Bool} {k : Int} : k ∈ risingS m ↔ 0 ≤ k ∧ k < m.length ∧ m.getD k.toNat false = true := by
  unfold risingS
  simp only [List.mem_map, List.mem_filter, List.mem_range]
  constructor
  · rintro ⟨i, ⟨h1, h2⟩, rfl⟩
    exact ⟨by omega, by omega, by simpa using h2⟩
  · rintro ⟨h1, h2, h3⟩
    exact ⟨k.toNat, ⟨by omega, h3⟩, by omega⟩
theorem risingS_rise (m : List Bool) : (risingS m).Pairwise (· < ·) := by
  unfold risingS
  rw [List.pairwise_map]
  refine (List.pairwise_lt_range.sublist List.filter_sublist).imp fun h => by omega
def risingTo (m : List Bool) (n : Nat) : List Int := ((List.range n).filter fun i => m.getD i false).map fun i : Nat => (i : Int)
theorem risingTo_succ (m : List Bool) (n : Nat) : risingTo m (n + 1) = risingTo m n ++ (if m.getD n false = true then [(n : Int)] else []) := by
  unfold risingTo
  rw [List.range_succ, List.filter_append, List.map_append]
  congr 1
  by_cases h : m.getD n false = true
  · rw [if_pos h, List.filter_cons_of_pos (p := fun i => m.getD i false) h]; rfl
  · rw [if_neg h, List.filter_cons_of_neg (p := fun i => m.getD i false) h]; rfl
theorem risingTo_len (m : List Bool) (n : Nat) : (risingTo m n).length ≤ n := by
  unfold risingTo
  rw [List.length_map]
  exact Nat.le_trans (List.length_filter_le _ _) (by simp)
theorem s45_eq (m : List Bool) (hl : m.length ≤ 100000) : D.f45F m = some (risingS m) := by
  unfold D.f45F
  suffices h : ∃ r, Option.bind _ _ = some r ∧ r = risingS m by
    obtain ⟨r, h1, rfl⟩ := h
    exact h1
  refine bind_ex (iter_rule (I := fun (s : Int × List Int) => ∃ i : Nat, s = ((i : Int), risingTo m i) ∧ i ≤ m.length) (Q := fun e => e = risingS m) (fun s => ((m.length : Int) - s.1).toNat) ?_ _ ⟨0, rfl, Nat.zero_le _⟩) fun e he => ⟨e, rfl, he⟩
  rintro _ ⟨i, rfl, hi⟩
  dsimp only
  by_cases hil : i < m.length
  · have hlen := risingTo_len m i
    rw [if_pos (by rw [decide_eq_true_eq]; omega), if_pos (by omega), wrap_i64 (by omega) (by omega), Int.toNat_natCast]
    have hm : ((m.length : Int) - ((i : Int) + 1)).toNat < ((m.length : Int) - (i : Int)).toNat := by omega
    by_cases h : m.getD i false = true
    · rw [if_pos h, if_pos (by unfold roomOk; first | omega | (simp; omega))]
      exact .inl ⟨_, rfl, ⟨i + 1, by rw [risingTo_succ, if_pos h]; rfl, hil⟩, hm⟩
    · rw [if_neg h]
      exact .inl ⟨_, rfl, ⟨i + 1, by rw [risingTo_succ, if_neg h, List.append_nil]; rfl, hil⟩, hm⟩
  · rw [if_neg (by rw [decide_eq_true_eq]; omega)]
    have : i = m.length := by omega
    subst this
    exact .inr ⟨_, rfl, rfl⟩
theorem s44_eq (p : List Inst) (st sp : Bool) (c : Int) (m : List Bool) (hl : m.length ≤ 100000) : D.f44F (p, st, sp, m, c) = some (risingS m) := by
  unfold D.f44F
  suffices h : ∃ r, Option.bind _ _ = some r ∧ r = risingS m by
    obtain ⟨r, h1, rfl⟩ := h
    exact h1
  refine bind_ex (iter_rule (I := fun (s : Int × List Int) => ∃ i : Nat, s = ((i : Int), risingTo m i) ∧ i ≤ m.length) (Q := fun e => e = risingS m) (fun s => ((m.length : Int) - s.1).toNat) ?_ _ ⟨0, rfl, Nat.zero_le _⟩) ?_
  · rintro _ ⟨i, rfl, hi⟩
    dsimp only
    by_cases hil : i < m.length
    · have hlen := risingTo_len m i
      rw [if_pos (by rw [decide_eq_true_eq]; omega), if_pos (by omega), wrap_i64 (by omega) (by omega), Int.toNat_natCast]
      have hm : ((m.length : Int) - ((i : Int) + 1)).toNat < ((m.length : Int) - (i : Int)).toNat := by omega
      by_cases h : m.getD i false = true
      · rw [if_pos h, if_pos (by unfold roomOk; first | omega | (simp; omega))]
        exact .inl ⟨_, rfl, ⟨i + 1, by rw [risingTo_succ, if_pos h]; rfl, hil⟩, hm⟩
      · rw [if_neg h]
        exact .inl ⟨_, rfl, ⟨i + 1, by rw [risingTo_succ, if_neg h, List.append_nil]; rfl, hil⟩, hm⟩
    · rw [if_neg (by rw [decide_eq_true_eq]; omega)]
      have : i = m.length := by omega
      subst this
      exact .inr ⟨_, rfl, rfl⟩
  · rintro _ rfl
    exact ⟨_, rfl, rfl⟩
theorem s15_eq (p : List Inst) (st sp : Bool) (c : Int) (m : List Bool) (hl : m.length ≤ 100000) : D.s15F (p, st, sp, m, c) = some (risingS m) := by
  unfold D.s15F
  suffices h : ∃ r, Option.bind _ _ = some r ∧ r = risingS m by
    obtain ⟨r, h1, rfl⟩ := h
    exact h1
  refine bind_ex (iter_rule (I := fun (s : Int × List Int) => ∃ i : Nat, s = ((i : Int), risingTo m i) ∧ i ≤ m.length) (Q := fun e => e = risingS m) (fun s => ((m.length : Int) - s.1).toNat) ?_ _ ⟨0, rfl, Nat.zero_le _⟩) ?_
  · rintro _ ⟨i, rfl, hi⟩
    dsimp only
    by_cases hil : i < m.length
    · have hlen := risingTo_len m i
      rw [if_pos (by rw [decide_eq_true_eq]; omega), if_pos (by omega), wrap_i64 (by omega) (by omega), Int.toNat_natCast]
      have hm : ((m.length : Int) - ((i : Int) + 1)).toNat < ((m.length : Int) - (i : Int)).toNat := by omega
      by_cases h : m.getD i false = true
      · rw [if_pos h, if_pos (by unfold roomOk; first | omega | (simp; omega))]
        exact .inl ⟨_, rfl, ⟨i + 1, by rw [risingTo_succ, if_pos h]; rfl, hil⟩, hm⟩
      · rw [if_neg h]
        exact .inl ⟨_, rfl, ⟨i + 1, by rw [risingTo_succ, if_neg h, List.append_nil]; rfl, hil⟩, hm⟩
    · rw [if_neg (by rw [decide_eq_true_eq]; omega)]
      have : i = m.length := by omega
      subst this
      exact .inr ⟨_, rfl, rfl⟩
  · rintro _ rfl
    exact ⟨_, rfl, rfl⟩
end Go.Sx
