/- Base, plain: what stands in an isolate at the beginning. -/
import Derived.Test.YtjmdfkcgglidaaaDoorSxU7
set_option linter.unusedVariables false
set_option linter.unusedSimpArgs false
namespace Go.Sx
def deepS : List Int → Nat → Option Nat
  | [], d => some d
  | c :: w, d => if c = 10 then none else if opens c = true then deepS w (d + 1) else if c = 22 then (if d = 0 then none else deepS w (d - 1)) else deepS w d
theorem scan_bal : ∀ (w rest : List Int) (e e' d k : Nat), 1 ≤ d → deepS w e = some e' → scan (w ++ rest) (e + d) k = scan rest (e' + d) (k + w.length)
  | [], rest, e, e', d, k, hd, h => by
    simp only [deepS, Option.some.injEq] at h
    subst h
    simp
  | c :: w, rest, e, e', d, k, hd, h => by
    unfold deepS at h
    rw [List.cons_append, scan_cons]
    by_cases h10 : c = 10
    · rw [if_pos h10] at h; cases h
    rw [if_neg h10] at h
    rw [if_neg h10]
    by_cases ho : opens c = true
    · rw [if_pos ho] at h
      rw [if_pos ho, show e + d + 1 = (e + 1) + d by omega, scan_bal w rest (e + 1) e' d (k + 1) hd h, List.length_cons]
      congr 1; omega
    · rw [if_neg ho] at h
      rw [if_neg ho]
      by_cases h22 : c = 22
      · rw [if_pos h22] at h
        rw [if_pos h22]
        by_cases he : e = 0
        · rw [if_pos he] at h; cases h
        · rw [if_neg he] at h
          rw [if_neg (by omega), show e + d - 1 = (e - 1) + d by omega, scan_bal w rest (e - 1) e' d (k + 1) hd h, List.length_cons]
          congr 1; omega
      · rw [if_neg h22] at h
        rw [if_neg h22, scan_bal w rest e e' d (k + 1) hd h, List.length_cons]
        congr 1; omega
theorem scan_shift : ∀ (l : List Int) (d k m : Nat), scan l d (k + m) = if scan l d k = -1 then -1 else scan l d k + m
  | [], d, k, m => rfl
  | c :: l, d, k, m => by
    have h1 := scan_shift l (d + 1) (k + 1) m
    have h2 := scan_shift l (d - 1) (k + 1) m
    have h3 := scan_shift l d (k + 1) m
    have e : k + m + 1 = k + 1 + m := by omega
    rw [scan_cons, scan_cons, e]
    split
    · rfl
    · split
      · exact h1
      · split
        · split
          · rw [if_neg (by omega)]; omega
          · exact h2
        · exact h3
theorem endOf_shift (P l : List Int) (i : Nat) : endOf (P ++ l) (P.length + i) = if endOf l i = -1 then -1 else endOf l i + P.length := by
  unfold endOf
  rw [show P.length + i + 1 = P.length + (i + 1) by omega, List.drop_append, show P.length + (i + 1) - P.length = i + 1 by omega, List.drop_of_length_le (by omega), List.nil_append, show P.length + (i + 1) = (i + 1) + P.length by omega]
  exact scan_shift _ _ _ _
theorem firstS_step (l : List Int) (to : Int) (i : Nat) (h : i < l.length) : firstS l to i = if (i : Int) < to then
      if l[i] = 10 then -1
      else if opens l[i] = true then (if he : endOf l i = -1 then -1 else firstS l to ((endOf l i).toNat + 1))
      else if strongS l[i] = -1 then firstS l to (i + 1) else strongS l[i]
    else -1 := by
  rw [firstS, dif_pos h]
theorem firstS_shift (P l : List Int) (to : Int) : ∀ (n i : Nat), l.length - i ≤ n → firstS (P ++ l) (P.length + to) (P.length + i) = firstS l to i := by
  intro n
  induction n with
  | zero =>
    intro i h
    rw [firstS, dif_neg (by rw [List.length_append]; omega), firstS, dif_neg (by omega)]
  | succ n ih =>
    intro i h
    by_cases hi : i < l.length
    · rw [firstS_step (P ++ l) _ _ (by rw [List.length_append]; omega), firstS_step l _ _ hi]
      have hg : (P ++ l)[P.length + i]'(by rw [List.length_append]; omega) = l[i] := by
        rw [List.getElem_append_right (by omega)]
        congr 1; omega
      rw [hg, endOf_shift]
      by_cases hto : (i : Int) < to
      · rw [if_pos (by omega), if_pos hto]
        by_cases h10 : l[i] = 10
        · rw [if_pos h10, if_pos h10]
        rw [if_neg h10, if_neg h10]
        by_cases ho : opens l[i] = true
        · rw [if_pos ho, if_pos ho]
          by_cases he : endOf l i = -1
          · rw [dif_pos he, dif_pos (by rw [if_pos he])]
          · have hgt := (endOf_gt l i).resolve_left he
            rw [dif_neg he, dif_neg (by rw [if_neg he]; omega), if_neg he, show (endOf l i + (P.length : Int)).toNat + 1 = P.length + ((endOf l i).toNat + 1) by omega]
            exact ih _ (by omega)
        · rw [if_neg ho, if_neg ho]
          by_cases hs : strongS l[i] = -1
          · rw [if_pos hs, if_pos hs, show P.length + i + 1 = P.length + (i + 1) by omega]
            exact ih _ (by omega)
          · rw [if_neg hs, if_neg hs]
      · rw [if_neg (by omega), if_neg hto]
    · rw [firstS, dif_neg (by rw [List.length_append]; omega), firstS, dif_neg hi]
theorem scan_tail : ∀ (v : List Int) (d k : Nat), (scan v d k ≠ -1 → scan (v ++ [22]) d k = scan v d k) ∧ (scan v d k = -1 → scan (v ++ [22]) d k = -1 ∨ scan (v ++ [22]) d k = k + v.length)
  | [], d, k => by
    refine ⟨fun h => absurd rfl h, fun _ => ?_⟩
    rw [List.nil_append, scan_cons, if_neg (by decide), if_neg (by decide), if_pos rfl]
    split
    · right; simp
    · left; rfl
  | c :: v, d, k => by
    have h1 := scan_tail v (d + 1) (k + 1)
    have h2 := scan_tail v (d - 1) (k + 1)
    have h3 := scan_tail v d (k + 1)
    rw [List.cons_append, scan_cons, scan_cons, List.length_cons]
    split
    · exact ⟨fun h => absurd rfl h, fun _ => .inl rfl⟩
    · split
      · exact ⟨h1.1, fun h => (h1.2 h).imp id fun e => by rw [e]; omega⟩
      · split
        · split
          · exact ⟨fun _ => rfl, fun h => by omega⟩
          · exact ⟨h2.1, fun h => (h2.2 h).imp id fun e => by rw [e]; omega⟩
        · exact ⟨h3.1, fun h => (h3.2 h).imp id fun e => by rw [e]; omega⟩
theorem firstS_end (w : List Int) : ∀ (n i : Nat), w.length - i ≤ n → firstS (w ++ [22]) w.length i = firstS w w.length i := by
  intro n
  induction n with
  | zero =>
    intro i h
    rw [firstS_none _ _ _ (by omega), firstS_none _ _ _ (by omega)]
  | succ n ih =>
    intro i h
    by_cases hi : i < w.length
    rotate_left
    · rw [firstS_none _ _ _ (by omega), firstS_none _ _ _ (by omega)]
    rw [firstS_step (w ++ [22]) _ _ (by rw [List.length_append]; omega), firstS_step w _ _ hi, List.getElem_append_left hi, if_pos (c := (i : Int) < (w.length : Int)) (by omega), if_pos (c := (i : Int) < (w.length : Int)) (by omega)]
    have he1 : endOf (w ++ [22]) i = scan (w.drop (i + 1) ++ [22]) 1 (i + 1) := by
      unfold endOf
      rw [List.drop_append_of_le_length (by omega)]
    have ht := scan_tail (w.drop (i + 1)) 1 (i + 1)
    have he2 : endOf w i = scan (w.drop (i + 1)) 1 (i + 1) := rfl
    rw [← he1, ← he2, List.length_drop] at ht
    by_cases h10 : w[i] = 10
    · rw [if_pos h10, if_pos h10]
    rw [if_neg h10, if_neg h10]
    by_cases ho : opens w[i] = true
    · rw [if_pos ho, if_pos ho]
      by_cases he : endOf w i = -1
      · rw [dif_pos he]
        rcases ht.2 he with h | h
        · rw [dif_pos h]
        · rw [dif_neg (by omega)]
          exact firstS_none _ _ _ (by omega)
      · have hgt := (endOf_gt w i).resolve_left he
        rw [dif_neg he, ht.1 he, dif_neg he]
        exact ih _ (by omega)
    · rw [if_neg ho, if_neg ho]
      by_cases hs : strongS w[i] = -1
      · rw [if_pos hs, if_pos hs]
        exact ih _ (by omega)
      · rw [if_neg hs, if_neg hs]
theorem skip_level {w : List Int} (h : deepS w 0 = some 0) (l : List Int) (dir : Int) : levelS (([21] ++ w ++ [22]) ++ l) dir = levelS l dir := by
  unfold levelS
  split
  · rfl
  congr 1
  have he : endOf (([21] ++ w ++ [22]) ++ l) 0 = ((w.length + 1 : Nat) : Int) := by
    unfold endOf
    have hdr : List.drop (0 + 1) ((([21] : List Int) ++ w ++ [22]) ++ l) = w ++ (22 :: l) := by simp
    rw [hdr]
    have := scan_bal w (22 :: l) 0 0 1 1 (Nat.le_refl _) h
    rw [Nat.zero_add] at this
    rw [Nat.zero_add, this, scan_cons, if_neg (by decide), if_neg (by decide), if_pos rfl, if_pos rfl]
    omega
  rw [firstS_step _ _ _ (by simp), if_pos (by simp; omega)]
  have hg : ((([21] : List Int) ++ w ++ [22]) ++ l)[0]'(by simp) = 21 := rfl
  rw [hg, if_neg (by decide), if_pos (by decide), dif_neg (by omega), he, Int.toNat_natCast]
  have hP : ([21] ++ w ++ [22]).length = w.length + 2 := by simp
  have := firstS_shift ([21] ++ w ++ [22]) l l.length l.length 0 (by omega)
  rw [hP] at this
  have hln : ((((([21] : List Int) ++ w ++ [22]) ++ l).length : Nat) : Int) = ((w.length + 2 : Nat) : Int) + (l.length : Int) := by simp; omega
  rw [hln]
  exact this
theorem skip_iso {w : List Int} (h : deepS w 0 = some 0) : isoS ([21] ++ w ++ [22]) 0 = levelS w 0 := by
  have he : endOf ([21] ++ w ++ [22]) 0 = ((w.length + 1 : Nat) : Int) := by
    unfold endOf
    have hdr : List.drop (0 + 1) (([21] : List Int) ++ w ++ [22]) = w ++ [22] := by simp
    rw [hdr]
    have := scan_bal w [22] 0 0 1 1 (Nat.le_refl _) h
    rw [Nat.zero_add] at this
    rw [Nat.zero_add, this, scan_cons, if_neg (by decide), if_neg (by decide), if_pos rfl, if_pos rfl]
    omega
  unfold isoS levelS
  have hg : ([21] ++ w ++ [22]).getD (0 : Int).toNat 0 = 21 := rfl
  rw [hg, if_neg (by simp; exact ⟨by omega, by decide⟩), if_neg (by decide), show (0 : Int).toNat = 0 from rfl, he, if_neg (by omega), if_neg (by decide)]
  congr 1
  have := firstS_shift [21] (w ++ [22]) w.length (w.length + 1) 0 (by simp)
  rw [firstS_end w w.length 0 (by omega)] at this
  rw [← this, show [21] ++ w ++ [22] = [21] ++ (w ++ [22]) by simp]
  congr 1
  simp; omega
end Go.Sx
