/- Frag, plain: runs of places of a span. -/
import Derived.Test.YtpmbmobjnknnhaaGreatDoorSxS
set_option linter.unusedVariables false
set_option linter.unusedSimpArgs false
namespace Go.Sx
def inSp (a b p : Int) : Bool := decide (p ≥ a) && decide (p < b)
def runsO (q : Int → Bool) : List Int → Nat → Option Nat → List (Nat × Nat)
  | [], _, none => []
  | [], k, some s => [(s, k)]
  | p :: l, k, none => if q p = true then runsO q l (k + 1) (some k) else runsO q l (k + 1) none
  | p :: l, k, some s => if q p = true then runsO q l (k + 1) (some s) else (s, k) :: runsO q l (k + 1) none
def colsO (l : List (Nat × Nat)) : Int := (l.map fun r => (r.2 : Int) - r.1).sum
def cnt (q : Int → Bool) : List Int → Int
  | [] => 0
  | p :: l => (if q p = true then 1 else 0) + cnt q l
theorem cols_runs (q : Int → Bool) : ∀ (l : List Int) (k : Nat), colsO (runsO q l k none) = cnt q l ∧ ∀ s, colsO (runsO q l k (some s)) = (k : Int) - s + cnt q l
  | [], k => ⟨rfl, fun s => by simp [runsO, colsO, cnt]⟩
  | p :: l, k => by
    obtain ⟨h1, h2⟩ := cols_runs q l (k + 1)
    refine ⟨?_, fun s => ?_⟩
    · simp only [runsO, cnt]
      split
      · rw [h2 k]; omega
      · rw [h1]; omega
    · simp only [runsO, cnt]
      split
      · rw [h2 s]; omega
      · have : colsO ((s, k) :: runsO q l (k + 1) none) = ((k : Int) - s) + colsO (runsO q l (k + 1) none) := by simp [colsO]
        rw [this, h1]; omega
def begs (q : Int → Bool) : List Int → Bool → Nat
  | [], _ => 0
  | p :: l, pr => (if q p = true ∧ pr = false then 1 else 0) + begs q l (q p)
theorem len_runs (q : Int → Bool) : ∀ (l : List Int) (k : Nat), (runsO q l k none).length = begs q l false ∧ ∀ s, (runsO q l k (some s)).length = 1 + begs q l true
  | [], k => ⟨rfl, fun s => rfl⟩
  | p :: l, k => by
    obtain ⟨h1, h2⟩ := len_runs q l (k + 1)
    refine ⟨?_, fun s => ?_⟩
    · simp only [runsO, begs]
      cases hq : q p with
      | true => simp [h2 k]
      | false => simp [h1]
    · simp only [runsO, begs]
      cases hq : q p with
      | true => simp [h2 s]
      | false => simp [h1]; omega
theorem begs_or (q r t : Int → Bool) (h : ∀ p, t p = (q p || r p)) : ∀ (l : List Int) (a b : Bool), begs t l (a || b) ≤ begs q l a + begs r l b
  | [], _, _ => Nat.zero_le _
  | p :: l, a, b => by
    have ih := begs_or q r t h l (q p) (r p)
    simp only [begs, h p]
    cases hq : q p <;> cases hr : r p <;> cases a <;> cases b <;> simp [hq, hr] at ih ⊢ <;> omega
theorem cnt_or (q r t : Int → Bool) (h : ∀ p, t p = (q p || r p)) (hd : ∀ p, ¬ (q p = true ∧ r p = true)) : ∀ l : List Int, cnt t l = cnt q l + cnt r l
  | [] => rfl
  | p :: l => by
    have ih := cnt_or q r t h hd l
    have := hd p
    simp only [cnt, h p]
    cases hq : q p <;> cases hr : r p <;> simp [hq, hr] at this ⊢ <;> omega
theorem runs_none (q : Int → Bool) (h : ∀ p, q p = false) : ∀ (l : List Int) (k : Nat), runsO q l k none = []
  | [], _ => rfl
  | p :: l, k => by simp [runsO, h p, runs_none q h l (k + 1)]
def endR (q : Int → Bool) : List Int → Nat → Nat
  | [], k => k
  | p :: l, k => if q p = true then endR q l (k + 1) else k
theorem endR_ge (q : Int → Bool) : ∀ (l : List Int) (k : Nat), k ≤ endR q l k ∧ endR q l k ≤ k + l.length
  | [], k => ⟨Nat.le_refl _, Nat.le_refl _⟩
  | p :: l, k => by
    have := endR_ge q l (k + 1)
    simp only [endR, List.length_cons]
    split <;> omega
theorem runs_end (q : Int → Bool) : ∀ (l : List Int) (k s : Nat), runsO q l k (some s) = (s, endR q l k) :: runsO q (l.drop (endR q l k + 1 - k)) (endR q l k + 1) none
  | [], k, s => by simp [runsO, endR]
  | p :: l, k, s => by
    simp only [runsO, endR]
    by_cases hq : q p = true
    · rw [if_pos hq, if_pos hq, runs_end q l (k + 1) s]
      have := endR_ge q l (k + 1)
      congr 2
      rw [show endR q l (k + 1) + 1 - k = (endR q l (k + 1) + 1 - (k + 1)) + 1 by omega, List.drop_succ_cons]
    · rw [if_neg hq, if_neg hq, show k + 1 - k = 1 by omega, List.drop_succ_cons, List.drop_zero]
def fragsR (a b : Int) : List (Int × Int × List Int) → Nat → List (Int × Int × Int)
  | [], _ => []
  | r :: rows, i => (runsO (inSp a b) r.2.2 0 none).map (fun x => ((i : Int), (x.1 : Int), (x.2 : Int))) ++ fragsR a b rows (i + 1)
def colsF (l : List (Int × Int × Int)) : Int := (l.map fun f => max 0 (f.2.2 - f.2.1)).sum
theorem runs_pos (q : Int → Bool) : ∀ (l : List Int) (k : Nat), (∀ x ∈ runsO q l k none, k ≤ x.1 ∧ x.1 < x.2 ∧ x.2 ≤ k + l.length) ∧ ∀ s, s < k → ∀ x ∈ runsO q l k (some s), s ≤ x.1 ∧ x.1 < x.2 ∧ x.2 ≤ k + l.length
  | [], k => ⟨by simp [runsO], fun s hs x hx => by simp [runsO] at hx; subst hx; simp; omega⟩
  | p :: l, k => by
    obtain ⟨h1, h2⟩ := runs_pos q l (k + 1)
    refine ⟨fun x hx => ?_, fun s hs x hx => ?_⟩
    · simp only [runsO] at hx
      rw [List.length_cons]
      split at hx
      · have := h2 k (by omega) x hx; omega
      · have := h1 x hx; omega
    · simp only [runsO] at hx
      rw [List.length_cons]
      split at hx
      · have := h2 s (by omega) x hx; omega
      · rcases List.mem_cons.1 hx with rfl | hx
        · dsimp only; omega
        · have := h1 x hx; omega
theorem colsF_app (l m : List (Int × Int × Int)) : colsF (l ++ m) = colsF l + colsF m := by simp [colsF]
theorem colsF_runs (i : Nat) (l : List (Nat × Nat)) (h : ∀ x ∈ l, x.1 < x.2) : colsF (l.map (fun x => ((i : Int), (x.1 : Int), (x.2 : Int)))) = colsO l := by
  unfold colsF colsO
  rw [List.map_map]
  congr 1
  apply List.map_congr_left
  intro x hx
  have := h x hx
  show max 0 ((x.2 : Int) - x.1) = _
  omega
def cntR (a b : Int) (rows : List (Int × Int × List Int)) : Int := (rows.map fun r => cnt (inSp a b) r.2.2).sum
theorem colsF_frags (a b : Int) : ∀ (rows : List (Int × Int × List Int)) (i : Nat), colsF (fragsR a b rows i) = cntR a b rows
  | [], _ => rfl
  | r :: rows, i => by
    have hp := (runs_pos (inSp a b) r.2.2 0).1
    rw [fragsR, colsF_app, colsF_frags a b rows (i + 1), colsF_runs i _ (fun x hx => (hp x hx).2.1), (cols_runs (inSp a b) r.2.2 0).1]
    simp [cntR]
theorem inSp_or {a b c : Int} (h1 : a ≤ b) (h2 : b ≤ c) (p : Int) : inSp a c p = (inSp a b p || inSp b c p) := by
  unfold inSp
  rw [Bool.eq_iff_iff]
  simp
  omega
theorem cntR_parts {a b c : Int} (h1 : a ≤ b) (h2 : b ≤ c) : ∀ rows : List (Int × Int × List Int), cntR a b rows + cntR b c rows = cntR a c rows
  | [] => rfl
  | r :: rows => by
    have ih := cntR_parts h1 h2 rows
    have := cnt_or (inSp a b) (inSp b c) (inSp a c) (inSp_or h1 h2) (fun p h => by simp [inSp] at h; omega) r.2.2
    simp only [cntR, List.map_cons, List.sum_cons] at ih ⊢
    omega
theorem frags_len {a b c : Int} (h1 : a ≤ b) (h2 : b ≤ c) : ∀ (rows : List (Int × Int × List Int)) (i : Nat), (fragsR a c rows i).length ≤ (fragsR a b rows i).length + (fragsR b c rows i).length
  | [], _ => Nat.le_refl _
  | r :: rows, i => by
    have ih := frags_len h1 h2 rows (i + 1)
    have h := begs_or (inSp a b) (inSp b c) (inSp a c) (inSp_or h1 h2) r.2.2 false false
    rw [← (len_runs (inSp a b) r.2.2 0).1, ← (len_runs (inSp b c) r.2.2 0).1] at h
    have h3 : begs (inSp a c) r.2.2 false = (runsO (inSp a c) r.2.2 0 none).length := ((len_runs (inSp a c) r.2.2 0).1).symm
    rw [show (false || false) = false from rfl, h3] at h
    simp only [fragsR, List.length_append, List.length_map]
    omega
theorem frags_none {a b : Int} (h : b ≤ a) : ∀ (rows : List (Int × Int × List Int)) (i : Nat), fragsR a b rows i = []
  | [], _ => rfl
  | r :: rows, i => by
    rw [fragsR, frags_none h rows (i + 1), runs_none]
    · rfl
    · intro p
      unfold inSp
      simp
      omega
def heavy (rows : List (Int × Int × List Int)) : Nat := (rows.map fun r => r.2.2.length).sum
end Go.Sx
