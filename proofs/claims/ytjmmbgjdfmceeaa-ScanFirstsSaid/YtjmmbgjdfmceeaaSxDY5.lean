/- Sim, plain: what is reached, the program's and the reference's. -/
import Derived.Test.YtjmmbgjdfmceeaaSxDY4
set_option linter.unusedVariables false
set_option linter.unusedSimpArgs false
namespace Go.Sx
theorem mkd_repl (n : Nat) (j : Int) : mkd (List.replicate n false) j = false := by
  unfold mkd
  simp only [List.getD_eq_getElem?_getD, List.getElem?_replicate]
  split <;> rfl
structure Marks (p : List Inst) (st sp : Bool) (A : List Int) (m : List Bool) : Prop where
  len : m.length = p.length
  iff : ∀ j, 0 ≤ j → (mkd m j = true ↔ Rch p st sp (· ∈ A) j)
theorem marks_of {p : List Inst} {st sp : Bool} {A : List Int} {m : List Bool} (hl : p.length ≤ m.length) (hA : ∀ a ∈ A, 0 ≤ a → a < p.length → mkd m a = true) (hr : ∀ j, 0 ≤ j → mkd m j = true → Rch p st sp (· ∈ A) j)
    (hc : ∀ j k, 0 ≤ j → mkd m j = true → Edg p st sp j k → mkd m k = true) (hp : rightS p = true) : ∀ j, 0 ≤ j → (mkd m j = true ↔ Rch p st sp (· ∈ A) j) := by
  intro j hj
  refine ⟨hr j hj, fun h => ?_⟩
  clear hj
  induction h with
  | base h1 h2 h3 => exact hA _ h1 h2 h3
  | step h1 h2 ih => exact hc _ _ (Rch_in hp h1).1 ih h2
theorem s43_ok {p : List Inst} {st sp : Bool} {A : List Int} (hp : rightS p = true) (hA : A.length ≤ 100000) : ∃ m, D.f43F (p, A, st, sp) = some (p, st, sp, (m.count true : Int), m) ∧ Marks p st sp A m := by
  obtain ⟨hn, hpos, _, _⟩ := rightS_all hp
  unfold D.f43F
  dsimp only
  rw [if_pos ⟨by omega, Int.le_refl _, by unfold roomOk; simp; omega⟩]
  suffices hh : ∃ r, Option.bind _ _ = some r ∧ ∃ m : List Bool, r = (p, st, sp, (m.count true : Int), m) ∧ Marks p st sp A m by
    obtain ⟨r, h1, m, rfl, h2⟩ := hh
    exact ⟨m, h1, h2⟩
  refine bind_ex (iter_rule (I := fun (s : Int × List Inst × Bool × Bool × Int × List Bool) => ∃ (i : Nat) (m : List Bool), s = ((i : Int), p, st, sp, (m.count true : Int), m) ∧ i ≤ A.length ∧ m.length = p.length ∧ (∀ a ∈ A.take i, 0 ≤ a → a < p.length → mkd m a = true) ∧ (∀ j, 0 ≤ j → mkd m j = true → Rch p st sp (· ∈ A) j) ∧ (∀ j k, 0 ≤ j → mkd m j = true → Edg p st sp j k → mkd m k = true))
    (Q := fun (e : List Inst × Bool × Bool × Int × List Bool) => ∃ m : List Bool, e = (p, st, sp, (m.count true : Int), m) ∧ Marks p st sp A m) (fun s => ((A.length : Int) - s.1).toNat) ?_ _
    ⟨0, List.replicate p.length false, by simp [List.count_replicate], Nat.zero_le _, by simp, fun a ha => (by simp at ha), fun j _ h => (by rw [mkd_repl] at h; cases h), fun j k _ h => (by rw [mkd_repl] at h; cases h)⟩) ?_
  · rintro _ ⟨i, m, rfl, hi, hl, h1, h2, h3⟩
    dsimp only
    by_cases hil : i < A.length
    · rw [if_pos (by rw [decide_eq_true_eq]; omega), if_pos (by omega), Int.toNat_natCast, getD_lt _ _ hil, wrap_i64 (by omega) (by omega)]
      obtain ⟨m2, q1, q2⟩ := add_ok (st := st) (sp := sp) hp (m.length - m.count true) D.fuel A[i] m hl (Nat.le_refl _) (by rw [hl]; unfold D.fuel; omega)
      have q1' : D.f72F (A[i], p, st, sp, (m.count true : Int), m) = some (p, st, sp, (m2.count true : Int), m2) := q1
      rw [q1']
      simp only [Option.bind_some]
      refine .inl ⟨_, rfl, ⟨i + 1, m2, rfl, hil, q2.len, fun a ha ha0 han => ?_, fun j hj hjm => ?_, fun j k hj hjm hjk => ?_⟩, by show ((A.length : Int) - ((i : Int) + 1)).toNat < ((A.length : Int) - (i : Int)).toNat; omega⟩
      · rw [List.take_succ_eq_append_getElem hil] at ha
        rcases List.mem_append.1 ha with ha | ha
        · exact q2.mono a ha0 (h1 a ha ha0 han)
        · simp at ha; subst ha; exact q2.self ha0 han
      · rcases q2.rch j hj hjm with h | h
        · exact h2 j hj h
        · exact h.sub fun a ha h0 hn => by subst ha; exact .base (List.getElem_mem hil) h0 hn
      · cases hb : mkd m j with
        | true => exact q2.mono k (Edg_in hp hjk).1 (h3 j k hj hb hjk)
        | false => exact q2.closed j k hj hjm hb hjk
    · rw [if_neg (by rw [decide_eq_true_eq]; omega)]
      rw [List.take_of_length_le (by omega)] at h1
      exact .inr ⟨_, rfl, m, rfl, hl, marks_of (by omega) h1 h2 h3 hp⟩
  · rintro _ ⟨m, rfl, h⟩
    exact ⟨_, rfl, m, rfl, h⟩
end Go.Sx
