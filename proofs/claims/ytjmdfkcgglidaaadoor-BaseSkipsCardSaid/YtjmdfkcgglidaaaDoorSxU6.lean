import Derived.Test.YtjmdfkcgglidaaaDoorSxU5
import Derived.Test.YtjmdfkcgglidaaaDoorSxR
set_option linter.unusedVariables false
set_option linter.unusedSimpArgs false
namespace Go.Sx
def levelS (l : List Int) (dir : Int) : Int := if dir = 1 ∨ dir = 2 then dir - 1 else max 0 (firstS l l.length 0)
theorem max0 (v : Int) : (if v > 0 then v else 0) = max 0 v := by omega
theorem f18_eq {l : List Int} (hl : l.length ≤ 100000) (dir : Int) : G.f18F (l, dir) = some (levelS l dir) := by
  unfold G.f18F levelS
  simp only [f16_eq hl, Option.bind_some, max0]
  by_cases h1 : dir = 1
  · subst h1; simp; rfl
  · by_cases h2 : dir = 2
    · subst h2; simp; rfl
    · simp [h1, h2]
def isoS (l : List Int) (i : Int) : Int :=
  if i < 0 ∨ (l.length : Int) ≤ i ∨ opens (l.getD i.toNat 0) = false then -1
  else if l.getD i.toNat 0 ≠ 21 then l.getD i.toNat 0 - 19
  else max 0 (firstS l (if endOf l i.toNat = -1 then (l.length : Int) else endOf l i.toNat) (i.toNat + 1))
theorem f20_eq {l : List Int} (hl : l.length ≤ 100000) (i : Int) : G.f20F (l, i) = some (isoS l i) := by
  unfold G.f20F
  by_cases h0 : i < 0
  · simp [isoS, h0]
  · by_cases h1 : (l.length : Int) ≤ i
    · simp [isoS, h0, h1]
    · have hb : (0 : Int) ≤ i ∧ i < l.length := by omega
      have hi : i.toNat < l.length := by omega
      have hg : l.getD i.toNat 0 = l[i.toNat] := by simp [List.getD_eq_getElem?_getD, hi]
      rw [if_neg (by simpa using h0), if_neg (by simpa using h1), if_pos hb, if_pos hb, if_pos hb]
      simp only [f32_eq, Option.bind_some]
      cases ho : opens (l.getD i.toNat 0) with
      | false =>
        rw [show isoS l i = -1 by unfold isoS; rw [if_pos (.inr (.inr ho))]]
        rfl
      | true =>
        have hne : ¬ (i < 0 ∨ (l.length : Int) ≤ i ∨ opens (l.getD i.toNat 0) = false) := by
          rw [ho]
          simp
          omega
        rw [if_neg (by simp)]
        by_cases h21 : l.getD i.toNat 0 = 21
        · rw [if_neg (by rw [h21]; simp)]
          rw [show isoS l i = max 0 (firstS l (if endOf l i.toNat = -1 then (l.length : Int) else endOf l i.toNat) (i.toNat + 1)) by
            unfold isoS
            rw [if_neg hne, if_neg (by rw [h21]; simp)]]
          simp only [f14_eq hl, Option.bind_some]
          have hm := matchS_ok l
          have hop := hm.op i.toNat hi (by rw [← hg]; exact ho)
          rw [if_pos (by rw [hm.len]; exact hb)]
          simp only [hop]
          have hn : (IntKind.i64.wrap (i + 1)).toNat = i.toNat + 1 := by rw [wrap_i64 (by omega) (by omega)]; omega
          by_cases he : endOf l i.toNat = -1
          · simp only [he, beq_self_eq_true, if_true, Option.bind_some, f34_eq hm hl, max0, hn]
          · simp only [show (endOf l i.toNat == (-1 : Int)) = false by simpa using he, Bool.false_eq_true, if_false, Option.bind_some, f34_eq hm hl, max0, hn, he]
        · rw [if_pos (by rw [bne_iff_ne]; exact h21)]
          rw [show isoS l i = l.getD i.toNat 0 - 19 by
            unfold isoS
            rw [if_neg hne, if_pos h21]]
          have : 19 ≤ l.getD i.toNat 0 ∧ l.getD i.toNat 0 ≤ 21 := by
            unfold opens at ho
            simp only [Bool.or_eq_true, beq_iff_eq] at ho
            omega
          rw [wrap_i64 (by omega) (by omega)]
theorem alive : G.f12F () = some true := by
  unfold G.f12F
  simp only [f14_eq (l := [20, 1, 21, 2, 22, 22, 0]) (by simp), Option.bind_some]
  rw [show matchS [20, 1, 21, 2, 22, 22, 0] = [5, -1, 4, -1, 2, 0, -1] by decide +kernel]
  simp only [f13_eq [5, -1, 4, -1, 2, 0, -1] [5, -1, 4, -1, 2, 0, -1] (by simp), Option.bind_some, f18_eq (l := [20, 1, 21, 2, 22, 22, 0]) (by simp), f16_eq (l := [20, 1, 21, 2, 22, 22, 0]) (by simp), f20_eq (l := [20, 1, 21, 2, 22, 22, 0]) (by simp), f16_eq (l := [10, 1]) (by simp)]
  have a1 : levelS [20, 1, 21, 2, 22, 22, 0] 0 = 0 := by simp [levelS, firstS, endOf, scan, opens, strongS]
  have a2 : firstS [20, 1, 21, 2, 22, 22, 0] 7 (Int.toNat 1) = 1 := by simp [firstS, endOf, scan, opens, strongS]
  have a3 : isoS [20, 1, 21, 2, 22, 22, 0] 2 = 1 := by simp [isoS, firstS, endOf, scan, opens, strongS]; rfl
  have a4 : isoS [20, 1, 21, 2, 22, 22, 0] 1 = -1 := by simp [isoS, opens]
  have a5 : levelS [20, 1, 21, 2, 22, 22, 0] 2 = 1 := by simp [levelS]
  have a6 : firstS [10, 1] 2 (Int.toNat 0) = -1 := by simp [firstS]
  simp only [a1, a2, a3, a4, a5, a6, beq_self_eq_true, if_true, Option.bind_some, decide_true]
end Go.Sx
