/- Dfa: is it matched; the longest. -/
import Derived.Test.YtjmmbgjdfmceeaaSxDe
set_option linter.unusedVariables false
set_option linter.unusedSimpArgs false
namespace Go.Sx
theorem ds14_eq {p : List Inst} {r : List Int} (hr : ∀ i ∈ r, 0 ≤ i ∧ i < p.length) (hl : r.length ≤ 100000) (most fl : Int) (L : List StO) : D.s14F (r, p, most, fl, L) = some (matchS p r, p, most, fl, L) := by
  unfold D.s14F D.s13F
  obtain ⟨e, h1, h2⟩ := idx_rule r 0 (fun i => decide ((p.getD i.toNat dI).1 = 0)) (p, most, fl, L) (fun x => D.f84F (x.1, x.2.1, x.2.2.1, x.2.2.2.1, x.2.2.2.2)) (by omega) (fun x hx => by
    unfold D.f84F
    dsimp only
    rw [if_pos (hr x hx)]
    congr 2)
  dsimp only
  refine Eq.trans (congrArg (fun o => Option.bind o _) h1) ?_
  rw [Option.bind_some, h2, findIdx_any]
  unfold matchS
  congr 2
  split <;> rfl
theorem d54_eq {p : List Inst} (hp : rightS p = true) {s : StD} (hs : s.1.length ≤ 100000) (stop : Bool) (most fl : Int) (S : List StD) :
    D.f54F (s, stop, p, most, fl, ow S) = some (matchS p (reachS p s.1 s.2.1 stop), p, most, fl, ow S) := by
  obtain ⟨_, _, hp1000⟩ := rightS_last hp
  unfold D.f54F
  dsimp only
  rw [d83_eq hp (s.1, s.2.1, s.2.2) stop hs]
  have hlen := reachS_len p s.1 s.2.1 stop
  simp only [Option.bind_some]
  rw [ds14_eq reachS_in (by omega)]
  rfl
end Go.Sx
