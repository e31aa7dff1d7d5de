/- Brackets, plain: sides, and which brackets belong together. -/
import Derived.Test.YtemngcdlgnconaaSxB4
set_option linter.unusedVariables false
set_option linter.unusedSimpArgs false
namespace Go.Sx

/-- A class's side. -/
def sideS (c : Int) : Int := if c = 0 then 0 else if c = 1 ∨ c = 3 ∨ c = 6 then 1 else -1

theorem k37_eq (c : Int) : K.f37F c = some (sideS c) := by
  unfold K.f37F sideS
  by_cases h0 : c = 0
  · subst h0; rfl
  by_cases h1 : c = 1
  · subst h1; rfl
  by_cases h3 : c = 3
  · subst h3; rfl
  by_cases h6 : c = 6
  · subst h6; rfl
  simp [h0, h1, h3, h6]
theorem k38_eq (c : Int) : K.f38F c = some (sideS c) := k37_eq c

theorem sideS_cases (c : Int) : sideS c = 0 ∨ sideS c = 1 ∨ sideS c = -1 := by
  unfold sideS
  split
  · exact .inl rfl
  · split
    · exact .inr (.inl rfl)
    · exact .inr (.inr rfl)

/-- Is there one of a side between places? -/
def hasS (v : Int) (l : List Int) (a b : Nat) : Bool := (List.range' a (b - a)).any fun k => sideS (l.getD k 0) == v

theorem hasS_succ (v : Int) (l : List Int) {a i : Nat} (h : a ≤ i) : hasS v l a (i + 1) = (hasS v l a i || (sideS (l.getD i 0) == v)) := by
  unfold hasS
  rw [show i + 1 - a = (i - a) + 1 by omega, List.range'_concat, List.any_append]
  simp only [List.any_cons, List.any_nil, Bool.or_false, Nat.one_mul]
  rw [show a + (i - a) = i by omega]

theorem hasS_nil (v : Int) (l : List Int) {a b : Nat} (h : b ≤ a) : hasS v l a b = false := by
  unfold hasS
  rw [show b - a = 0 by omega]; rfl

theorem hasS_iff (v : Int) (l : List Int) (a b : Nat) : hasS v l a b = true ↔ ∃ k, a ≤ k ∧ k < b ∧ sideS (l.getD k 0) = v := by
  unfold hasS
  rw [List.any_eq_true]
  constructor
  · rintro ⟨k, h1, h2⟩
    rw [List.mem_range'_1] at h1
    exact ⟨k, by omega, by omega, by simpa using h2⟩
  · rintro ⟨k, h1, h2, h3⟩
    exact ⟨k, by rw [List.mem_range'_1]; omega, by simpa using h3⟩

/-- Where it begins, and ends. -/
def loS (a : Int) : Int := if a > 0 then a else 0

theorem loS_nonneg (a : Int) : 0 ≤ loS a := by unfold loS; split <;> omega

/-- The loop over the places. -/
theorem sides_loop {l : List Int} (hl : l.length ≤ 100000) (a b : Int) (f : Bool × Bool × Int → Option ((Bool × Bool × Int) ⊕ (Bool × Bool)))
    (hf : ∀ L R (i : Nat), (i : Int) < minI b (l.length : Int) → i < l.length → f (L, R, (i : Int)) = some (.inl (L || (sideS (l.getD i 0) == 0), R || (sideS (l.getD i 0) == 1), ((i + 1 : Nat) : Int))))
    (hx : ∀ L R (i : Nat), ¬ (i : Int) < minI b (l.length : Int) → f (L, R, (i : Int)) = some (.inr (L, R))) :
    iter f (false, false, loS a) = some (hasS 0 l (loS a).toNat (minI b (l.length : Int)).toNat, hasS 1 l (loS a).toNat (minI b (l.length : Int)).toNat) := by
  have h0 := loS_nonneg a
  generalize hA : (loS a).toNat = A
  have hA' : loS a = (A : Int) := by omega
  rw [hA']
  have hm : minI b (l.length : Int) ≤ (l.length : Int) := by unfold minI; split <;> omega
  generalize hM : minI b (l.length : Int) = M at *
  suffices hh : ∃ e, iter f (false, false, (A : Int)) = some e ∧ e = (hasS 0 l A M.toNat, hasS 1 l A M.toNat) by
    obtain ⟨e, h1, h2⟩ := hh; rw [h1, h2]
  refine iter_rule (I := fun (s : Bool × Bool × Int) => ∃ i : Nat, A ≤ i ∧ (i = A ∨ (i : Int) ≤ M) ∧ s = (hasS 0 l A i, hasS 1 l A i, (i : Int))) (fun s => (M - s.2.2).toNat) ?_ _ ⟨A, Nat.le_refl _, .inl rfl, by rw [hasS_nil _ _ (Nat.le_refl _), hasS_nil _ _ (Nat.le_refl _)]⟩
  rintro _ ⟨i, hi, hi2, rfl⟩
  by_cases him : (i : Int) < M
  · rw [hf _ _ i him (by omega)]
    refine .inl ⟨_, rfl, ⟨i + 1, by omega, .inr (by omega), ?_⟩, ?_⟩
    · rw [hasS_succ 0 l hi, hasS_succ 1 l hi]
    · show (M - ((i + 1 : Nat) : Int)).toNat < (M - (i : Int)).toNat; omega
  · rw [hx _ _ i him]
    refine .inr ⟨_, rfl, ?_⟩
    by_cases hAM : i = A
    · subst hAM
      rw [hasS_nil 0 l (Nat.le_refl _), hasS_nil 1 l (Nat.le_refl _), hasS_nil 0 l (by omega), hasS_nil 1 l (by omega)]
    · rw [show i = M.toNat by omega]

theorem k32_ok {l : List Int} (hl : l.length ≤ 100000) (a b : Int) : K.f32F (l, a, b) = some (hasS 0 l (loS a).toNat (minI b (l.length : Int)).toNat, hasS 1 l (loS a).toNat (minI b (l.length : Int)).toNat) := by
  unfold K.f32F
  refine Eq.trans (congrArg (fun z => Option.bind z _) (sides_loop hl a b _ ?_ ?_)) rfl
  · intro L R i h1 h2
    dsimp only
    rw [if_pos (by rw [decide_eq_true_eq]; exact h1), if_pos (by omega), Int.toNat_natCast, k37_eq, wrap_i64 (by omega) (by omega)]
    simp only [Option.bind_some]
    rcases sideS_cases (l.getD i 0) with h | h | h <;> rw [h] <;> simp
  · intro L R i h1
    dsimp only
    rw [if_neg (by rw [decide_eq_true_eq]; exact h1)]

theorem k33_ok {l : List Int} (hl : l.length ≤ 100000) (a b : Int) : K.f33F (l, a, b) = some (hasS 0 l (loS a).toNat (minI b (l.length : Int)).toNat, hasS 1 l (loS a).toNat (minI b (l.length : Int)).toNat) := by
  unfold K.f33F
  refine Eq.trans (congrArg (fun z => Option.bind z _) (sides_loop hl a b _ ?_ ?_)) rfl
  · intro L R i h1 h2
    dsimp only
    have hc : (0 : Int) ≤ (i : Int) ∧ (i : Int) < (l.length : Int) := by omega
    rw [if_pos (by rw [decide_eq_true_eq]; exact h1), wrap_i64 (by omega) (by omega)]
    simp only [if_pos hc, Int.toNat_natCast, k38_eq, Option.bind_some]
    cases L <;> cases R <;> simp only [Bool.false_eq_true, if_false, if_true, Option.bind_some, if_pos hc, Bool.true_or, Bool.false_or, k38_eq] <;> rfl
  · intro L R i h1
    dsimp only
    rw [if_neg (by rw [decide_eq_true_eq]; exact h1)]

/-- The same loop, with an own row. -/
theorem sides_own {l : List Int} {f : Bool × Bool × Int → Option ((Bool × Bool × Int) ⊕ (Bool × Bool))} {g : Bool × Bool × Int × List Int → Option ((Bool × Bool × Int × List Int) ⊕ (Bool × Bool × List Int))}
    (h : ∀ s, (∃ s', f s = some (.inl s') ∧ g (s.1, s.2.1, s.2.2, l) = some (.inl (s'.1, s'.2.1, s'.2.2, l))) ∨ (∃ e, f s = some (.inr e) ∧ g (s.1, s.2.1, s.2.2, l) = some (.inr (e.1, e.2, l))) ∨ f s = none) {s : Bool × Bool × Int} {e : Bool × Bool}
    (he : iter f s = some e) : iter g (s.1, s.2.1, s.2.2, l) = some (e.1, e.2, l) := by
  obtain ⟨n, hn⟩ := iterN_of_iter he
  clear he
  induction n generalizing s with
  | zero => simp [iterN] at hn
  | succ n ih =>
    unfold iterN at hn
    rcases h s with ⟨s', h1, h2⟩ | ⟨e', h1, h2⟩ | h1
    · rw [h1] at hn
      rw [iter_inl h2]
      exact ih hn
    · rw [h1] at hn
      simp only [Option.some.injEq] at hn
      subst hn
      exact iter_inr h2
    · rw [h1] at hn; cases hn

theorem ks0_ok {l : List Int} (hl : l.length ≤ 100000) (a b : Int) : K.s0F (a, b, l) = some (hasS 0 l (loS a).toNat (minI b (l.length : Int)).toNat, hasS 1 l (loS a).toNat (minI b (l.length : Int)).toNat, l) := by
  have h := k32_ok hl a b
  unfold K.f32F at h
  dsimp only at h
  rw [Option.bind_eq_some_iff] at h
  obtain ⟨⟨L, R⟩, h1, h2⟩ := h
  simp only [Option.some.injEq, Prod.mk.injEq] at h2
  obtain ⟨rfl, rfl⟩ := h2
  unfold K.s0F
  refine Eq.trans (congrArg (fun z => Option.bind z _) (sides_own (l := l) ?_ h1)) rfl
  rintro ⟨L, R, i⟩
  dsimp only
  split
  · split
    · rw [k37_eq]
      simp only [Option.bind_some]
      rcases sideS_cases (l.getD i.toNat 0) with h | h | h <;> rw [h] <;> exact .inl ⟨_, rfl, rfl⟩
    · exact .inr (.inr rfl)
  · exact .inr (.inl ⟨_, rfl, rfl⟩)

theorem ks1_ok {l : List Int} (hl : l.length ≤ 100000) (a b : Int) : K.s1F (a, b, l) = some (hasS 0 l (loS a).toNat (minI b (l.length : Int)).toNat, hasS 1 l (loS a).toNat (minI b (l.length : Int)).toNat, l) := by
  have h := k33_ok hl a b
  unfold K.f33F at h
  dsimp only at h
  rw [Option.bind_eq_some_iff] at h
  obtain ⟨⟨L, R⟩, h1, h2⟩ := h
  simp only [Option.some.injEq, Prod.mk.injEq] at h2
  obtain ⟨rfl, rfl⟩ := h2
  unfold K.s1F
  refine Eq.trans (congrArg (fun z => Option.bind z _) (sides_own (l := l) ?_ h1)) rfl
  rintro ⟨L, R, i⟩
  dsimp only
  split
  · by_cases hi : (0 : Int) ≤ i ∧ i < (l.length : Int)
    · simp only [if_pos hi, k38_eq, Option.bind_some]
      cases L <;> cases R <;> simp only [Bool.false_eq_true, if_false, if_true, Option.bind_some, if_pos hi, k38_eq] <;> exact .inl ⟨_, rfl, rfl⟩
    · simp only [if_neg hi]
      cases L <;> cases R <;> simp only [Bool.false_eq_true, if_false, if_true, Option.bind_some, Option.bind_none, if_neg hi] <;> first | exact .inl ⟨_, rfl, rfl⟩ | exact .inr (.inr rfl) | exact .inr (.inr trivial)
  · exact .inr (.inl ⟨_, rfl, rfl⟩)

/-! ### Which belong together -/

theorem k41_eq (c : Int) : K.f41F c = K.otherF c := by
  unfold K.f41F K.f62F
  simp only [Option.bind_some]
  suffices hh : ∃ r, Option.bind _ _ = some r ∧ K.otherF c = some r by
    obtain ⟨r, h1, h2⟩ := hh; rw [h2]; exact h1
  refine bind_ex (Q := fun e => K.otherF c = some (Sum.elim (fun (_ : Unit) => ((0 : Int), false, false)) id e)) (iter_rule (I := fun (s : Int) => ∃ k : Nat, k ≤ 9 ∧ s = ((2 * k : Nat) : Int) ∧ ∀ p ∈ K.brk.take k, p.1 ≠ c ∧ p.2 ≠ c) (fun s => (18 - s).toNat) ?_ _ ⟨0, by omega, rfl, fun p h => by simp at h⟩) ?_
  rotate_left
  · rintro (_ | ⟨a, b, d⟩) h
    · exact ⟨_, rfl, h⟩
    · exact ⟨_, rfl, h⟩
  · rintro _ ⟨k, hk, rfl, hI⟩
    have step : ∀ (k : Nat) (p : Int × Int), k < 9 → K.brk[k]? = some p → (∀ q ∈ K.brk.take k, q.1 ≠ c ∧ q.2 ≠ c) → p.1 ≠ c → p.2 ≠ c → ∀ q ∈ K.brk.take (k + 1), q.1 ≠ c ∧ q.2 ≠ c := by
      intro k p hk hp h h1 h2 q hq
      rw [List.take_add_one, hp] at hq
      rcases List.mem_append.1 hq with hq | hq
      · exact h q hq
      · simp at hq; subst hq; exact ⟨h1, h2⟩
    have fin : ∀ (k : Nat) (p : Int × Int), K.brk[k]? = some p → p.1 = c ∨ p.2 = c → K.otherF c = some (if p.1 = c then (p.2, true, true) else (p.1, false, true)) := by
      intro k p hp hc
      have hm : p ∈ K.brk := List.mem_of_getElem? hp
      simp only [K.brk, List.mem_cons, List.not_mem_nil, or_false] at hm
      rcases hm with rfl | rfl | rfl | rfl | rfl | rfl | rfl | rfl | rfl <;> rcases hc with rfl | rfl <;> rfl
    have go : ∀ (k : Nat) (p : Int × Int), k < 9 → K.brk[k]? = some p → (∀ q ∈ K.brk.take k, q.1 ≠ c ∧ q.2 ≠ c) → ∀ x : Option (Int ⊕ (Unit ⊕ Int × Bool × Bool)), x = (if (p.1 == c) = true then some (Sum.inr (Sum.inr (p.2, true, true))) else if (p.2 == c) = true then some (Sum.inr (Sum.inr (p.1, false, true))) else some (Sum.inl ((2 * (k + 1) : Nat) : Int))) →
        (∃ s', x = some (.inl s') ∧ (∃ k : Nat, k ≤ 9 ∧ s' = ((2 * k : Nat) : Int) ∧ ∀ p ∈ K.brk.take k, p.1 ≠ c ∧ p.2 ≠ c) ∧ (18 - s').toNat < (18 - ((2 * k : Nat) : Int)).toNat) ∨ ∃ e, x = some (.inr e) ∧ K.otherF c = some (Sum.elim (fun (_ : Unit) => ((0 : Int), false, false)) id e) := by
      intro k p hk hp hI x hx
      by_cases h1 : p.1 = c
      · rw [hx, if_pos (by simpa using h1)]
        refine .inr ⟨_, rfl, ?_⟩
        rw [fin k p hp (.inl h1), if_pos h1]; rfl
      · by_cases h2 : p.2 = c
        · rw [hx, if_neg (by simpa using h1), if_pos (by simpa using h2)]
          refine .inr ⟨_, rfl, ?_⟩
          rw [fin k p hp (.inr h2), if_neg h1]; rfl
        · rw [hx, if_neg (by simpa using h1), if_neg (by simpa using h2)]
          exact .inl ⟨_, rfl, ⟨k + 1, by omega, rfl, step k p hk hp hI h1 h2⟩, by omega⟩
    match k, hk with
    | 0, _ => exact go 0 _ (by omega) rfl hI _ rfl
    | 1, _ => exact go 1 _ (by omega) rfl hI _ rfl
    | 2, _ => exact go 2 _ (by omega) rfl hI _ rfl
    | 3, _ => exact go 3 _ (by omega) rfl hI _ rfl
    | 4, _ => exact go 4 _ (by omega) rfl hI _ rfl
    | 5, _ => exact go 5 _ (by omega) rfl hI _ rfl
    | 6, _ => exact go 6 _ (by omega) rfl hI _ rfl
    | 7, _ => exact go 7 _ (by omega) rfl hI _ rfl
    | 8, _ => exact go 8 _ (by omega) rfl hI _ rfl
    | 9, _ =>
      refine .inr ⟨.inl (), rfl, ?_⟩
      have hall : ∀ p ∈ K.brk, p.1 ≠ c ∧ p.2 ≠ c := hI
      have h1 : K.brk.find? (fun p => p.1 == c) = none := by rw [List.find?_eq_none]; intro p hp; simpa using (hall p hp).1
      have h2 : K.brk.find? (fun p => p.2 == c) = none := by rw [List.find?_eq_none]; intro p hp; simpa using (hall p hp).2
      simp only [K.otherF, h1, h2]
      rfl

/-- The bracket that belongs to one. -/
def otS (c : Int) : Int × Bool × Bool := match K.brk.find? (fun p => p.1 == c) with | some p => (p.2, true, true) | none => match K.brk.find? (fun p => p.2 == c) with | some p => (p.1, false, true) | none => (0, false, false)
theorem ot_eq (c : Int) : K.otherF c = some (otS c) := rfl
theorem k41_ot (c : Int) : K.f41F c = some (otS c) := k41_eq c

def asS (c : Int) : Int := if c = 9001 then 12296 else if c = 9002 then 12297 else c
theorem k75_eq (c : Int) : K.f75F c = some (asS c) := by
  unfold K.f75F asS
  by_cases h0 : c = 9001
  · subst h0; rfl
  by_cases h1 : c = 9002
  · subst h1; rfl
  simp [h0, h1]
theorem k63_eq (c : Int) : K.f63F c = some (asS c) := by
  unfold K.f63F asS
  by_cases h0 : c = 9001
  · subst h0; rfl
  by_cases h1 : c = 9002
  · subst h1; rfl
  simp [h0, h1]

/-- Are they one bracket? -/
def smS (a b : Int) : Bool := (otS a).2.2 && ((otS b).2.2 && (asS a == asS b))
theorem k52_eq (a b : Int) : K.f52F (a, b) = some (smS a b) := by
  unfold K.f52F smS
  simp only [ot_eq, Option.bind_some, k75_eq]
  cases (otS a).2.2 <;> cases (otS b).2.2 <;> simp
theorem k42_eq (a b : Int) : K.f42F (a, b) = some (smS a b) := by
  unfold K.f42F smS
  simp only [k41_ot, Option.bind_some, k63_eq]
  cases (otS a).2.2 <;> cases (otS b).2.2 <;> simp
end Go.Sx
