/- Seq: alive; 'SeqAnswers'. -/
import Derived.Test.YtjmdfkcgglidaaaSxSq9
import Derived.Test.YtjmdfkcgglidaaaSxR
set_option linter.unusedVariables false
set_option linter.unusedSimpArgs false
namespace Go.Sx

/-- Numbers, by their fuel. -/
def sidxF (nx : Nat → Option Nat) : Nat → Nat → Nat
  | 0, k => rankH nx k
  | n + 1, k => match prevOf nx k with
    | some i => sidxF nx n i
    | none => rankH nx k

theorem sidx_fuel (nx : Nat → Option Nat) : ∀ (n k : Nat), k ≤ n → sidx nx k = sidxF nx n k := by
  intro n
  induction n with
  | zero =>
    intro k hk
    have : k = 0 := by omega
    subst this
    rw [sidx_head (show prevOf nx 0 = none from rfl)]; rfl
  | succ n ih =>
    intro k hk
    show _ = match prevOf nx k with
      | some i => sidxF nx n i
      | none => rankH nx k
    cases hp : prevOf nx k with
    | none => exact sidx_head hp
    | some i =>
      rw [sidx_prev hp]
      exact ih i (by have := (prevOf_some nx hp).1; omega)

def seqsF (c v : List Int) (base : Int) : List (List Int × Int × Int × Int) :=
  (List.range (rankH (nxR c (runsS c v)) (runsS c v).length)).map fun s => seqS c v (catR (runsS c v) ((List.range (runsS c v).length).filter fun i => sidxF (nxR c (runsS c v)) (runsS c v).length i == s)) base

theorem seqsS_fuel (c v : List Int) (base : Int) : seqsS c v base = seqsF c v base := by
  unfold seqsS seqsF
  apply List.map_congr_left
  intro s _
  congr 2
  unfold memb
  apply List.filter_congr
  intro i hi
  have : i < (runsS c v).length := by simpa using hi
  rw [sidx_fuel _ (runsS c v).length i (by omega)]

theorem seqs_len (c v : List Int) (base : Int) (hc : c.length ≤ 100000) : (seqsS c v base).length ≤ 100000 := by
  unfold seqsS
  rw [List.length_map, List.length_range]
  have h := (runsS_rf c v).count
  have : rankH (nxR c (runsS c v)) (runsS c v).length ≤ (runsS c v).length := by unfold rankH; exact Nat.le_trans (List.length_filter_le _ _) (by simp)
  omega

theorem seqs_at (c v : List Int) (base : Int) : ∀ r ∈ seqsS c v base, r.1.length ≤ c.length := by
  intro r hr
  unfold seqsS at hr
  obtain ⟨s, _, rfl⟩ := List.mem_map.1 hr
  exact memb_len (runsS_rf c v) _ s (Nat.le_refl _)

theorem aliveQ : Q.f6F () = some true := by
  unfold Q.f6F
  have e1 : seqsF [0, 20, 1, 22, 9, 2] [0, 0, 1, 0, 0, 1] 0 = [([0, 1, 3], 0, 0, 1), ([2], 1, 1, 1), ([5], 1, 1, 1)] := by decide +kernel
  have h1 : Q.f7F ([0, 20, 1, 22, 9, 2], [0, 0, 1, 0, 0, 1], 0) = some [([0, 1, 3], 0, 0, 1), ([2], 1, 1, 1), ([5], 1, 1, 1)] := by
    rw [f7_eq (by simp), if_pos (by rfl), seqsS_fuel, e1]
  have e2 : endsS (runsS [0, 9, 0, 10, 0] [0, 5, 0, 0, 0]) = [[0, 3], [4, 4]] := by decide +kernel
  have h2 : Q.f11F ([0, 9, 0, 10, 0], [0, 5, 0, 0, 0]) = some [[0, 3], [4, 4]] := by
    rw [f11_eq (by simp), if_pos (by rfl), e2]
  have h3 := f9_self (R := [([0, 1, 3], 0, 0, 1), ([2], 1, 1, 1), ([5], 1, 1, 1)]) (by simp) (by decide)
  have h4 : Q.f16F ([([0, 1, 3], 0, 0, 1), ([2], 1, 1, 1), ([5], 1, 1, 1)], 6) = some true := by
    rw [f16_eq (by simp) (by decide) (by decide)]
    exact congrArg some (by decide)
  have h5 : Q.f16F ([([0, 1, 3], 0, 0, 1), ([2], 1, 1, 1), ([5], 1, 1, 1)], 5) = some false := by
    rw [f16_eq (by simp) (by decide) (by decide)]
    exact congrArg some (by decide)
  rw [h1]
  simp only [Option.bind_some, h2, h3, h4, h5, if_true, Bool.not_false, f13_dir]
  decide

theorem seqAnswers_pure (x : List Int × List Int × Int) (h : wfTup [.sl (.int .i64), .sl (.int .i64), .int .i64] x) : Q.f3F x = some true := by
  obtain ⟨c, v, base⟩ := x
  unfold Q.f3F
  rw [aliveQ]
  simp only [Option.bind_some, Bool.not_true, Bool.false_eq_true, if_false, decide_eq_true_eq]
  by_cases hc : (c.length : Int) > 300
  · rw [if_pos hc]; rfl
  rw [if_neg hc]
  simp only [Option.bind_some, decide_eq_true_eq]
  by_cases hv : (v.length : Int) > 300
  · rw [if_pos hv]
  rw [if_neg hv, f7_eq (by omega), f8_eq (by omega)]
  simp only [Option.bind_some]
  have hf9 : Q.f9F (if c.length = v.length then seqsS c v base else [], if c.length = v.length then seqsS c v base else []) = some true := by
    split
    · exact f9_self (seqs_len c v base (by omega)) fun r hr => Nat.le_trans (seqs_at c v base r hr) (by omega)
    · exact f9_self (by simp) (by simp)
  have hf10 : Q.f10F (if c.length = v.length then endsS (runsS c v) else [], if c.length = v.length then endsS (runsS c v) else []) = some true := by
    split
    · refine f10_self ?_
      unfold endsS
      rw [List.length_map]
      have := (runsS_rf c v).count
      omega
    · exact f10_self (by simp)
  rw [hf9]
  simp only [Option.bind_some, if_true]
  rw [f11_eq (by omega), f12_eq (by omega)]
  simp only [Option.bind_some, hf10, if_true, f13_dir, f14_dir, beq_self_eq_true]
end Go.Sx
