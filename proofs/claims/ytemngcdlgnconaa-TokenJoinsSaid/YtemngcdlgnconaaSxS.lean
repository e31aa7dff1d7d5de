/- The symbolic evaluator, part S: what the pure functions are made of (loops, whole numbers). -/
import Derived.Test.YtemngcdlgnconaaSxC
set_option linter.unusedVariables false
set_option linter.unusedSimpArgs false
namespace Go.Sx
section
variable {S E : Type} {f g : S → Option (S ⊕ E)} {s s' : S} {e : E}
theorem iterN_more : ∀ {n : Nat} {s : S}, iterN f n s = some e → ∀ m, iterN f (n + m) s = some e
  | 0, s, h, m => by simp [iterN] at h
  | n + 1, s, h, m => by
    rw [Nat.add_right_comm]
    unfold iterN at h ⊢
    cases hf : f s with
    | none => rw [hf] at h; cases h
    | some x =>
      rw [hf] at h
      cases x with
      | inl s' => exact iterN_more (n := n) h m
      | inr e' => exact h
theorem iterN_eq {n m : Nat} {e' : E} (h : iterN f n s = some e) (k : iterN f m s = some e') : e = e' := by
  have h1 := iterN_more h m
  have h2 := iterN_more k n
  rw [Nat.add_comm m n, h1] at h2
  exact Option.some.inj h2
theorem iter_of_iterN {n : Nat} (h : iterN f n s = some e) : iter f s = some e := by
  unfold iter
  have hex : ∃ n e, iterN f n s = some e := ⟨n, e, h⟩
  rw [dif_pos hex]
  obtain ⟨e', he'⟩ := hex.choose_spec
  rw [he', iterN_eq he' h]
theorem iterN_of_iter (h : iter f s = some e) : ∃ n, iterN f n s = some e := by
  unfold iter at h
  split at h
  case isTrue hex => exact ⟨_, h⟩
  case isFalse => cases h
theorem iter_iff : iter f s = some e ↔ ∃ n, iterN f n s = some e := ⟨iterN_of_iter, fun ⟨_, h⟩ => iter_of_iterN h⟩
theorem iter_inr (h : f s = some (.inr e)) : iter f s = some e := iter_of_iterN (n := 1) (by simp [iterN, h])
theorem iter_inl (h : f s = some (.inl s')) : iter f s = iter f s' := by
  have key : ∀ e, iter f s = some e ↔ iter f s' = some e := by
    intro e
    rw [iter_iff, iter_iff]
    constructor
    · rintro ⟨n, hn⟩
      cases n with
      | zero => simp [iterN] at hn
      | succ n => exact ⟨n, by simpa [iterN, h] using hn⟩
    · rintro ⟨n, hn⟩
      exact ⟨n + 1, by simpa [iterN, h] using hn⟩
  cases h1 : iter f s with
  | some e => exact ((key e).1 h1).symm
  | none =>
    cases h2 : iter f s' with
    | none => rfl
    | some e => rw [(key e).2 h2] at h1; cases h1
theorem iter_rule {I : S → Prop} {Q : E → Prop} (μ : S → Nat) (h : ∀ s, I s → (∃ s', f s = some (.inl s') ∧ I s' ∧ μ s' < μ s) ∨ ∃ e, f s = some (.inr e) ∧ Q e) :
    ∀ s, I s → ∃ e, iter f s = some e ∧ Q e := by
  intro s hs
  suffices key : ∀ n s, I s → μ s ≤ n → ∃ e, iter f s = some e ∧ Q e from key _ s hs (Nat.le_refl _)
  intro n
  induction n with
  | zero =>
    intro s hs hn
    rcases h s hs with ⟨s', _, _, h3⟩ | ⟨e, h1, h2⟩
    · omega
    · exact ⟨e, iter_inr h1, h2⟩
  | succ n ih =>
    intro s hs hn
    rcases h s hs with ⟨s', h1, h2, h3⟩ | ⟨e, h1, h2⟩
    · rw [iter_inl h1]
      exact ih s' h2 (by omega)
    · exact ⟨e, iter_inr h1, h2⟩
end
theorem wrap_i64 {x : Int} (h1 : -9223372036854775808 ≤ x) (h2 : x ≤ 9223372036854775807) : IntKind.i64.wrap x = x := by
  simp only [IntKind.wrap, IntKind.bits, IntKind.signed, Bool.true_and]
  split <;> rename_i h <;> simp at h <;> omega
theorem wrap_u8 {x : Int} (h1 : 0 ≤ x) (h2 : x ≤ 255) : IntKind.u8.wrap x = x := by
  simp only [IntKind.wrap, IntKind.bits, IntKind.signed, Bool.false_and]
  simp
  omega
end Go.Sx
