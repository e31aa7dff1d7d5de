/- Sim, plain: numbers that rise are sorted as they are. -/
import Derived.Test.YtjmmbgjdfmceeaaSxZ5
set_option linter.unusedVariables false
set_option linter.unusedSimpArgs false
namespace Go.Sx

theorem rise_le {l : List Int} (h : l.Pairwise (· < ·)) {i j : Nat} (hj : j < l.length) (hij : i ≤ j) : l[i] ≤ l[j] := by
  by_cases e : i = j
  · subst e; exact Int.le_refl _
  · exact Int.le_of_lt (rise_get h hj (by omega))

theorem s74_rise {l : List Int} (h : l.Pairwise (· < ·)) (hl : l.length < 1100) : S.f74F l = some l := by
  obtain ⟨l', h1, h2, h3⟩ := s74_ok hl
  rw [h1]
  have hn : l'.Nodup := h2.nodup_iff.2 (h.imp fun hlt => by omega)
  rw [rise_ext (rise_of h3 hn) h fun x => h2.mem_iff]

theorem s75_rise {l : List Int} (h : l.Pairwise (· < ·)) (hl : l.length ≤ 100000) : S.f75F l = some l := by rw [s75_ok l hl, compS_self h]
end Go.Sx
