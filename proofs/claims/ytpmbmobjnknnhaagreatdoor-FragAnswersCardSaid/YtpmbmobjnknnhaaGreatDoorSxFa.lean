/- Frag, plain: runs of places of a span. -/
import Derived.Test.YtpmbmobjnknnhaaGreatDoorSxS
set_option linter.unusedVariables false
set_option linter.unusedSimpArgs false
namespace Go.Sx
def inSp (a b p : Int) : Bool := decide (p ≥ a) && decide (p < b)
def runsO (q : Int → Bool) : List Int → Nat → Option Nat → List (Nat × Nat)
  | [], _, none => []
  | [], k, some s => [(s, k)]
  | p :: l, k, none => if q p = true then runsO q l (k + 1) (some k) else runsO q l (k + 1) none
  | p :: l, k, some s => if q p = true then runsO q l (k + 1) (some s) else (s, k) :: runsO q l (k + 1) none
def begs (q : Int → Bool) : List Int → Bool → Nat
  | [], _ => 0
  | p :: l, pr => (if q p = true ∧ pr = false then 1 else 0) + begs q l (q p)
theorem len_runs (q : Int → Bool) : ∀ (l : List Int) (k : Nat), (runsO q l k none).length = begs q l false ∧ ∀ s, (runsO q l k (some s)).length = 1 + begs q l true
  | [], k => ⟨rfl, fun s => rfl⟩
  | p :: l, k => by
    obtain ⟨h1, h2⟩ := len_runs q l (k + 1)
    refine ⟨?_, fun s => ?_⟩
    · simp only [runsO, begs]
      cases hq : q p with
      | true => simp [h2 k]
      | false => simp [h1]
    · simp only [runsO, begs]
      cases hq : q p with
      | true => simp [h2 s]
      | false => simp [h1]; omega
def endR (q : Int → Bool) : List Int → Nat → Nat
  | [], k => k
  | p :: l, k => if q p = true then endR q l (k + 1) else k
theorem endR_ge (q : Int → Bool) : ∀ (l : List Int) (k : Nat), k ≤ endR q l k ∧ endR q l k ≤ k + l.length
  | [], k => ⟨Nat.le_refl _, Nat.le_refl _⟩
  | p :: l, k => by
    have := endR_ge q l (k + 1)
    simp only [endR, List.length_cons]
    split <;> omega
theorem runs_end (q : Int → Bool) : ∀ (l : List Int) (k s : Nat), runsO q l k (some s) = (s, endR q l k) :: runsO q (l.drop (endR q l k + 1 - k)) (endR q l k + 1) none
  | [], k, s => by simp [runsO, endR]
  | p :: l, k, s => by
    simp only [runsO, endR]
    by_cases hq : q p = true
    · rw [if_pos hq, if_pos hq, runs_end q l (k + 1) s]
      have := endR_ge q l (k + 1)
      congr 2
      rw [show endR q l (k + 1) + 1 - k = (endR q l (k + 1) + 1 - (k + 1)) + 1 by omega, List.drop_succ_cons]
    · rw [if_neg hq, if_neg hq, show k + 1 - k = 1 by omega, List.drop_succ_cons, List.drop_zero]
def fragsR (a b : Int) : List (Int × Int × List Int) → Nat → List (Int × Int × Int)
  | [], _ => []
  | r :: rows, i => (runsO (inSp a b) r.2.2 0 none).map (fun x => ((i : Int), (x.1 : Int), (x.2 : Int))) ++ fragsR a b rows (i + 1)
def colsF (l : List (Int × Int × Int)) : Int := (l.map fun f => max 0 (f.2.2 - f.2.1)).sum
theorem runs_pos (q : Int → Bool) : ∀ (l : List Int) (k : Nat), (∀ x ∈ runsO q l k none, k ≤ x.1 ∧ x.1 < x.2 ∧ x.2 ≤ k + l.length) ∧ ∀ s, s < k → ∀ x ∈ runsO q l k (some s), s ≤ x.1 ∧ x.1 < x.2 ∧ x.2 ≤ k + l.length
  | [], k => ⟨by simp [runsO], fun s hs x hx => by simp [runsO] at hx; subst hx; simp; omega⟩
  | p :: l, k => by
    obtain ⟨h1, h2⟩ := runs_pos q l (k + 1)
    refine ⟨fun x hx => ?_, fun s hs x hx => ?_⟩
    · simp only [runsO] at hx
      rw [List.length_cons]
      split at hx
      · have := h2 k (by omega) x hx; omega
      · have := h1 x hx; omega
    · simp only [runsO] at hx
      rw [List.length_cons]
      split at hx
      · have := h2 s (by omega) x hx; omega
      · rcases List.mem_cons.1 hx with rfl | hx
        · dsimp only; omega
        · have := h1 x hx; omega
theorem colsF_app (l m : List (Int × Int × Int)) : colsF (l ++ m) = colsF l + colsF m := by simp [colsF]
def heavy (rows : List (Int × Int × List Int)) : Nat := (rows.map fun r => r.2.2.length).sum
end Go.Sx
