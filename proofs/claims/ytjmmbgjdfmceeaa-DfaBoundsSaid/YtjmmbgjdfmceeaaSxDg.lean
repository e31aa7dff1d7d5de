/- Dfa: the longest. -/
import Derived.Test.YtjmmbgjdfmceeaaSxDf
set_option linter.unusedVariables false
set_option linter.unusedSimpArgs false
namespace Go.Sx
theorem Small.find {S : List StD} {N : Nat} (h : Small S N) {most : Int} (hm : most ≤ 1000) (hl : (S.length : Int) ≤ most) (fl : Int) {A : List Int} (hA : A.length ≤ 1000) (b : Bool) : Small (findS most S fl A b).1 N := by
  unfold findS
  by_cases hk : knownS S A b ≠ -1
  · rw [if_pos hk]; exact h
  · rw [if_neg hk]
    by_cases he : (S.length : Int) = most
    · rw [if_pos he]
      exact ⟨by simp, fun s hs => by simp at hs; subst hs; exact hA, fun s hs => by simp at hs; subst hs; exact Nat.zero_le _⟩
    · rw [if_neg he]
      refine ⟨by simp; omega, fun s hs => ?_, fun s hs => ?_⟩
      · rcases List.mem_append.1 hs with h1 | h1
        · exact h.at_ s h1
        · simp at h1; subst h1; exact hA
      · rcases List.mem_append.1 hs with h1 | h1
        · exact h.ed s h1
        · simp at h1; subst h1; exact Nat.zero_le _
theorem Small.edge {S : List StD} {N : Nat} (h : Small S N) {i : Nat} (hi : i < S.length) (c to : Int) : Small (S.set i (edgeS (S.getD i dSt) c to)) (N + 1) := by
  have hs : S.getD i dSt ∈ S := by rw [getD_lt _ _ hi]; exact List.getElem_mem _
  refine ⟨by simpa using h.len, fun s hm => ?_, fun s hm => ?_⟩
  · rcases List.mem_or_eq_of_mem_set hm with h1 | rfl
    · exact h.at_ s h1
    · exact h.at_ (S.getD i dSt) hs
  · rcases List.mem_or_eq_of_mem_set hm with h1 | rfl
    · have := h.ed s h1; omega
    · have := h.ed (S.getD i dSt) hs
      show ((S.getD i dSt).2.2 ++ [(c, to)]).length ≤ N + 1
      rw [List.length_append, List.length_singleton]; omega
theorem Small.more {S : List StD} {N M : Nat} (h : Small S N) (hNM : N ≤ M) : Small S M := ⟨h.len, h.at_, fun s hs => Nat.le_trans (h.ed s hs) hNM⟩
theorem Small.next {p : List Inst} (hp : rightS p = true) {S : List StD} {N : Nat} (h : Small S N) {most : Int} (hm : most ≤ 1000) (hl : (S.length : Int) ≤ most) (fl : Int) {i : Nat} (hi : i < S.length) (c : Int) : Small (nextS p most S fl i c).1 (N + 1) := by
  unfold nextS
  split
  · exact h.more (Nat.le_succ _)
  · by_cases hb : behS p (S.getD i dSt) c = []
    · rw [if_pos hb]; exact h.edge hi c (-1)
    · rw [if_neg hb]
      obtain ⟨_, _, hp1⟩ := rightS_last hp
      have hbl : (behS p (S.getD i dSt) c).length ≤ 1000 := by
        unfold behS
        have h1 := moveS_len p (reachS p (S.getD i dSt).1 (S.getD i dSt).2.1 false) c
        have h2 := reachS_len p (S.getD i dSt).1 (S.getD i dSt).2.1 false
        omega
      have hf := h.find hm hl fl hbl false
      dsimp only
      cases hw : (findS most S fl (behS p (S.getD i dSt) c) false).2.2.2 with
      | true => rw [if_pos (by rfl)]; exact hf.more (Nat.le_succ _)
      | false =>
        rw [if_neg (by decide)]
        obtain ⟨X, hX⟩ := findS_keep hw
        refine hf.edge ?_ c _
        rw [hX, List.length_append]; omega
end Go.Sx
