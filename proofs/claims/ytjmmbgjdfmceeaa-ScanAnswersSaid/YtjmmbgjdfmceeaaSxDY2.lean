/- Sim, plain: programs that may be, sets, lists of marks. -/
import Derived.Test.YtjmmbgjdfmceeaaSxT9b
import Derived.Test.YtjmmbgjdfmceeaaSxS
import Derived.Test.YtjmmbgjdfmceeaaSxX1
set_option linter.unusedVariables false
set_option linter.unusedSimpArgs false
namespace Go.Sx
abbrev Inst := Int × List (Int × Int) × Int × Int
theorem for_rule {E : Type} {f : Int → Option (Int ⊕ E)} {Q : E → Prop} (n : Nat) (I : Nat → Prop) (h : ∀ i : Nat, i < n → I i → (f i = some (.inl ((i : Int) + 1)) ∧ I (i + 1)) ∨ ∃ e, f i = some (.inr e) ∧ Q e)
    (he : I n → ∃ e, f n = some (.inr e) ∧ Q e) (h0 : I 0) : ∃ e, iter f 0 = some e ∧ Q e := by
  refine iter_rule (I := fun s => ∃ i : Nat, s = (i : Int) ∧ i ≤ n ∧ I i) (fun s => ((n : Int) - s).toNat) ?_ 0 ⟨0, rfl, Nat.zero_le _, h0⟩
  rintro _ ⟨i, rfl, hi, hI⟩
  by_cases hn : i = n
  · subst hn; exact .inr (he hI)
  · rcases h i (by omega) hI with ⟨h1, h2⟩ | h1
    · exact .inl ⟨_, h1, ⟨i + 1, rfl, by omega, h2⟩, by omega⟩
    · exact .inr h1
theorem getD_lt {α : Type} (l : List α) (d : α) {i : Nat} (h : i < l.length) : l.getD i d = l[i] := by simp [List.getD_eq_getElem?_getD, h]
theorem getD_ge {α : Type} (l : List α) (d : α) {i : Nat} (h : l.length ≤ i) : l.getD i d = d := by simp [List.getD_eq_getElem?_getD, h]
theorem any_rule {α : Type} (l : List α) (p : α → Bool) {f : Int → Option (Int ⊕ (Unit ⊕ Bool))} (d : α)
    (h : ∀ i : Nat, i < l.length → f i = if p (l.getD i d) = true then some (.inr (.inr true)) else some (.inl ((i : Int) + 1))) (he : f l.length = some (.inr (.inl ()))) :
    ∃ e, iter f 0 = some e ∧ Sum.elim (fun _ => some false) (fun q => some q) e = some (l.any p) := by
  refine for_rule l.length (fun i => ∀ x ∈ l.take i, p x = false) ?_ ?_ (fun x hx => by simp at hx)
  · intro i hi hI
    rw [h i hi, getD_lt l d hi]
    by_cases hp : p l[i] = true
    · rw [if_pos hp]
      refine .inr ⟨_, rfl, ?_⟩
      have : l.any p = true := List.any_eq_true.2 ⟨l[i], List.getElem_mem hi, hp⟩
      simp [this]
    · rw [if_neg hp]
      refine .inl ⟨rfl, fun x hx => ?_⟩
      rw [List.take_succ_eq_append_getElem hi] at hx
      rcases List.mem_append.1 hx with hx | hx
      · exact hI x hx
      · simp at hx; subst hx; simpa using hp
  · intro hI
    rw [List.take_length] at hI
    refine ⟨_, he, ?_⟩
    have : l.any p = false := by rw [List.any_eq_false]; intro x hx; simp [hI x hx]
    simp [this]
theorem all_rule {α : Type} (l : List α) (p : α → Bool) {f : Int → Option (Int ⊕ (Unit ⊕ Bool))} (d : α)
    (h : ∀ i : Nat, i < l.length → f i = if p (l.getD i d) = true then some (.inl ((i : Int) + 1)) else some (.inr (.inr false))) (he : f l.length = some (.inr (.inl ()))) :
    ∃ e, iter f 0 = some e ∧ Sum.elim (fun _ => some true) (fun q => some q) e = some (l.all p) := by
  refine for_rule l.length (fun i => ∀ x ∈ l.take i, p x = true) ?_ ?_ (fun x hx => by simp at hx)
  · intro i hi hI
    rw [h i hi, getD_lt l d hi]
    by_cases hp : p l[i] = true
    · rw [if_pos hp]
      refine .inl ⟨rfl, fun x hx => ?_⟩
      rw [List.take_succ_eq_append_getElem hi] at hx
      rcases List.mem_append.1 hx with hx | hx
      · exact hI x hx
      · simp at hx; subst hx; exact hp
    · rw [if_neg hp]
      refine .inr ⟨_, rfl, ?_⟩
      have : l.all p = false := by rw [List.all_eq_false]; exact ⟨l[i], List.getElem_mem hi, by simpa using hp⟩
      simp [this]
  · intro hI
    rw [List.take_length] at hI
    refine ⟨_, he, ?_⟩
    have : l.all p = true := List.all_eq_true.2 hI
    simp [this]
theorem bind_of {A R : Type} {x : Option A} {k : A → Option R} {r : R} (h : ∃ e, x = some e ∧ k e = some r) : x.bind k = some r := by
  obtain ⟨e, rfl, h2⟩ := h
  exact h2
def hasS (l : List (Int × Int)) (c : Int) : Bool := l.any fun r => decide (r.1 ≤ c) && decide (c ≤ r.2)
theorem s47_eq (l : List (Int × Int)) (c : Int) (hl : l.length ≤ 9223372036854775807) : D.f47F (l, c) = some (hasS l c) := by
  unfold D.f47F
  refine bind_of ?_
  refine any_rule l _ (0, 0) ?_ ?_
  · intro i hi
    dsimp only
    rw [if_pos (by rw [decide_eq_true_eq]; omega), if_pos (by omega), wrap_i64 (by omega) (by omega), Int.toNat_natCast]
    by_cases h1 : (l.getD i (0, 0)).1 ≤ c
    · rw [if_pos (by rw [decide_eq_true_eq]; exact h1), if_pos (by omega)]
      by_cases h2 : c ≤ (l.getD i (0, 0)).2
      · simp only [decide_true, Option.bind_some, if_true, h1, h2, Bool.and_self]
      · simp only [h1, h2, decide_true, decide_false, Option.bind_some, Bool.and_false, Bool.false_eq_true, if_false]
    · rw [if_neg (by rw [decide_eq_true_eq]; exact h1)]
      simp only [h1, decide_false, Option.bind_some, Bool.false_and, Bool.false_eq_true, if_false]
  · dsimp only
    rw [if_neg (by simp)]
theorem idx_rule {α σ : Type} (l : List α) (d : α) (p : α → Bool) (c : σ) (call : α × σ → Option (Bool × σ)) (hl : l.length ≤ 9223372036854775807) (hc : ∀ x ∈ l, call (x, c) = some (p x, c)) :
    ∃ r, Option.bind (iter (fun (s1 : Int × σ) => if decide (s1.1 < (l.length : Int)) = true then (if (0 : Int) ≤ s1.1 ∧ s1.1 < (l.length : Int) then Option.bind (call (l.getD s1.1.toNat d, s1.2)) fun (v2 : Bool × σ) =>
        if v2.1 = true then some (Sum.inr (Sum.inr (s1.1, v2.2))) else some (Sum.inl (IntKind.i64.wrap (s1.1 + 1), v2.2)) else none) else some (Sum.inr (Sum.inl s1.2))) ((0 : Int), c))
      (fun v1 => Sum.elim (fun p2 => some ((-1 : Int), p2)) (fun (q2 : Int × σ) => some (q2.1, q2.2)) v1) = some r ∧ r = (match l.findIdx? p with | some k => ((k : Int), c) | none => (-1, c)) := by
  refine bind_ex (Q := fun (e : σ ⊕ (Int × σ)) => (∃ q : Nat, e = Sum.inr ((q : Int), c) ∧ l.findIdx? p = some q) ∨ (e = Sum.inl c ∧ l.findIdx? p = none)) (iter_rule (I := fun (s : Int × σ) => ∃ i : Nat, s = ((i : Int), c) ∧ i ≤ l.length ∧ ∀ r ∈ l.take i, p r = false) (fun s => ((l.length : Int) - s.1).toNat) ?_ _ ⟨0, rfl, Nat.zero_le _, fun r hr => by simp at hr⟩) ?_
  · rintro _ ⟨i, rfl, hi, hI⟩
    dsimp only
    by_cases hil : i < l.length
    · rw [if_pos (by rw [decide_eq_true_eq]; omega), if_pos (by omega), Int.toNat_natCast, getD_lt l _ hil, hc _ (List.getElem_mem hil)]
      simp only [Option.bind_some]
      by_cases h1 : p l[i] = true
      · rw [if_pos h1]
        refine .inr ⟨_, rfl, .inl ⟨i, rfl, ?_⟩⟩
        rw [List.findIdx?_eq_some_iff_getElem]
        refine ⟨hil, h1, fun j hj => ?_⟩
        have := hI l[j] (List.mem_take_iff_getElem.2 ⟨j, by omega, rfl⟩)
        simp [this]
      · rw [if_neg h1, wrap_i64 (by omega) (by omega)]
        refine .inl ⟨_, rfl, ⟨i + 1, rfl, hil, fun r hr => ?_⟩, by show ((l.length : Int) - ((i : Int) + 1)).toNat < ((l.length : Int) - (i : Int)).toNat; omega⟩
        rw [List.take_succ_eq_append_getElem hil] at hr
        rcases List.mem_append.1 hr with hr | hr
        · exact hI r hr
        · simp at hr; subst hr; simpa using h1
    · rw [if_neg (by rw [decide_eq_true_eq]; omega)]
      refine .inr ⟨_, rfl, .inr ⟨rfl, ?_⟩⟩
      rw [List.take_of_length_le (by omega)] at hI
      rw [List.findIdx?_eq_none_iff]
      exact hI
  · rintro e (⟨q, rfl, h2⟩ | ⟨rfl, h2⟩)
    · exact ⟨_, rfl, by rw [h2]⟩
    · exact ⟨_, rfl, by rw [h2]⟩
theorem findIdx_any {α : Type} (l : List α) (p : α → Bool) {σ : Type} (c : σ) : decide ((match l.findIdx? p with | some k => ((k : Int), c) | none => (-1, c)).1 ≥ 0) = l.any p := by
  cases h : l.findIdx? p with
  | none => rw [List.findIdx?_eq_none_iff] at h; symm; simp only [ge_iff_le]; rw [show decide ((0 : Int) ≤ -1) = false from rfl, List.any_eq_false]; intro x hx; simp [h x hx]
  | some k => 
    rw [List.findIdx?_eq_some_iff_getElem] at h
    obtain ⟨hk, hp, _⟩ := h
    rw [List.any_eq_true.2 ⟨l[k], List.getElem_mem hk, hp⟩, decide_eq_true_eq]
    simp only [ge_iff_le]; omega
theorem s3_eq (l : List (Int × Int)) (c : Int) (hl : l.length ≤ 9223372036854775807) : D.s3F (l, c) = some (hasS l c, c) := by
  unfold D.s3F D.s2F
  obtain ⟨r, h1, h2⟩ := idx_rule l (0, 0) (fun r => decide (r.1 ≤ c) && decide (c ≤ r.2)) c D.f99F hl (fun x _ => by
    unfold D.f99F
    dsimp only
    by_cases h1 : x.1 ≤ c
    · rw [if_pos (by rw [decide_eq_true_eq]; exact h1)]; simp [h1]
    · rw [if_neg (by rw [decide_eq_true_eq]; exact h1)]; simp [h1])
  dsimp only
  rw [h1, Option.bind_some, h2, findIdx_any]
  unfold hasS
  congr 2
  split <;> rfl
theorem s73_eq (l : List (Int × Int)) (c : Int) (hl : l.length ≤ 9223372036854775807) : D.f73F (l, c) = some (hasS l c) := by
  unfold D.f73F
  simp only [s3_eq l c hl, Option.bind_some]
end Go.Sx
