/- Lists that rise; sorting by insertion. -/
import Derived.Test.YtjmmbgjdfmceeaaSxS
set_option linter.unusedVariables false
set_option linter.unusedSimpArgs false
namespace Go.Sx

/-- Two lists that rise, of the same numbers, are one. -/
theorem rise_ext : ∀ {a b : List Int}, a.Pairwise (· < ·) → b.Pairwise (· < ·) → (∀ x, x ∈ a ↔ x ∈ b) → a = b
  | [], [], _, _, _ => rfl
  | [], y :: b, _, _, h => by have := (h y).2 (by simp); simp at this
  | x :: a, [], _, _, h => by have := (h x).1 (by simp); simp at this
  | x :: a, y :: b, ha, hb, h => by
    rw [List.pairwise_cons] at ha hb
    have hxy : x = y := by
      rcases List.mem_cons.1 ((h x).1 (by simp)) with h1 | h1
      · exact h1
      · rcases List.mem_cons.1 ((h y).2 (by simp)) with h2 | h2
        · exact h2.symm
        · have := ha.1 y h2
          have := hb.1 x h1
          omega
    subst hxy
    rw [rise_ext ha.2 hb.2 fun z => ?_]
    constructor
    · intro hz
      rcases List.mem_cons.1 ((h z).1 (by simp [hz])) with h1 | h1
      · subst h1; have := ha.1 z hz; omega
      · exact h1
    · intro hz
      rcases List.mem_cons.1 ((h z).2 (by simp [hz])) with h1 | h1
      · subst h1; have := hb.1 z hz; omega
      · exact h1

theorem rise_of {a : List Int} (hs : a.Pairwise (· ≤ ·)) (hn : a.Nodup) : a.Pairwise (· < ·) := by
  induction a with
  | nil => exact List.Pairwise.nil
  | cons x a ih =>
    rw [List.pairwise_cons] at hs ⊢
    rw [List.nodup_cons] at hn
    refine ⟨fun y hy => ?_, ih hs.2 hn.2⟩
    have := hs.1 y hy
    have hne : x ≠ y := fun e => hn.1 (e ▸ hy)
    omega

/-- What stands ahead, one, what stands behind. -/
theorem set_mid (A B : List Int) (x y : Int) : (A ++ x :: B).set A.length y = A ++ y :: B := by
  rw [List.set_append_right _ _ (Nat.le_refl _)]
  simp

theorem getD_mid (A B : List Int) (x : Int) : (A ++ x :: B).getD A.length 0 = x := by
  simp [List.getD_eq_getElem?_getD]

/-- On its way down: sorted ahead, sorted behind, and it is less than all behind. -/
structure InsI (l A : List Int) (x : Int) (B R : List Int) : Prop where
  perm : (A ++ x :: B ++ R).Perm l
  sortA : (A ++ B).Pairwise (· ≤ ·)
  less : ∀ y ∈ B, x ≤ y

theorem InsI.step {l A B R : List Int} {x y : Int} (h : InsI l (A ++ [y]) x B R) (hxy : x < y) : InsI l A x (y :: B) R where
  perm := by
    refine List.Perm.trans ?_ h.perm
    refine List.Perm.append_right R ?_
    rw [List.append_assoc]
    refine List.Perm.append_left A ?_
    exact List.Perm.swap y x B
  sortA := by
    have := h.sortA
    rw [List.append_assoc] at this
    exact this
  less := fun z hz => by
    rcases List.mem_cons.1 hz with hz | hz
    · subst hz; omega
    · exact h.less z hz

theorem InsI.done {l A B R : List Int} {x : Int} (h : InsI l A x B R) (hA : ∀ y, A.getLast? = some y → y ≤ x) : (A ++ x :: B).Pairwise (· ≤ ·) := by
  have hs := h.sortA
  rw [List.pairwise_append] at hs ⊢
  obtain ⟨h1, h2, h3⟩ := hs
  have hle : ∀ y ∈ A, y ≤ x := by
    intro y hy
    obtain ⟨A', z, rfl⟩ : ∃ A' z, A = A' ++ [z] := by
      cases A with
      | nil => simp at hy
      | cons a A => exact ⟨(a :: A).dropLast, (a :: A).getLast (by simp), (List.dropLast_concat_getLast (by simp)).symm⟩
    have hz := hA z (by simp)
    rcases List.mem_append.1 hy with hy | hy
    · rw [List.pairwise_append] at h1
      have := h1.2.2 y hy z (by simp)
      omega
    · simp at hy; omega
  refine ⟨h1, List.pairwise_cons.2 ⟨h.less, h2⟩, fun a ha b hb => ?_⟩
  rcases List.mem_cons.1 hb with hb | hb
  · subst hb; exact hle a ha
  · exact h3 a ha b hb

/-! ### What is folded -/

def strs : List (Int × Int × Int) := [(0x41, 0x5a, 0x20), (0xb5, 0xb5, 0x3bc - 0xb5), (0xc0, 0xd6, 0x20), (0xd8, 0xde, 0x20), (0x391, 0x3a1, 0x20), (0x3a3, 0x3a9, 0x20),
  (0x3c2, 0x3c2, 1), (0x400, 0x40f, 0x50), (0x410, 0x42f, 0x20), (0x1e9e, 0x1e9e, 0xdf - 0x1e9e)]

def foldL : List (Int × Int × Int) → Int → Int
  | [], c => c
  | s :: l, c => if s.1 ≤ c ∧ c ≤ s.2.1 then c + s.2.2 else foldL l c

def foldS (c : Int) : Int := foldL strs c

theorem foldL_turned : ∀ {l : List (Int × Int × Int)} {k : Int}, foldL l k ≠ k → ∃ s ∈ l, s.1 ≤ k ∧ k ≤ s.2.1
  | [], k, h => absurd rfl h
  | s :: l, k, h => by
    unfold foldL at h
    split at h
    · rename_i hc; exact ⟨s, by simp, hc⟩
    · obtain ⟨t, h1, h2⟩ := foldL_turned h
      exact ⟨t, by simp [h1], h2⟩

theorem foldS_turned {k : Int} (h : foldS k ≠ k) : 0x41 ≤ k ∧ k ≤ 0x1e9e := by
  obtain ⟨s, h1, h2⟩ := foldL_turned h
  simp only [strs, List.mem_cons, List.not_mem_nil, or_false] at h1
  rcases h1 with rfl | rfl | rfl | rfl | rfl | rfl | rfl | rfl | rfl | rfl <;> simp at h2 <;> omega

/-- What leads to one, out of the stretches. -/
def pres (l : List (Int × Int × Int)) (to : Int) : List Int := l.filterMap fun s => if s.1 ≤ to - s.2.2 ∧ to - s.2.2 ≤ s.2.1 then some (to - s.2.2) else none

theorem pres_mem {l : List (Int × Int × Int)} {to k : Int} : k ∈ pres l to ↔ ∃ s ∈ l, s.1 ≤ k ∧ k ≤ s.2.1 ∧ k + s.2.2 = to := by
  unfold pres
  rw [List.mem_filterMap]
  constructor
  · rintro ⟨s, hs, h⟩
    split at h
    · cases h; exact ⟨s, hs, by omega, by omega, by omega⟩
    · cases h
  · rintro ⟨s, hs, h1, h2, h3⟩
    exact ⟨s, hs, by rw [if_pos (by omega)]; congr 1; omega⟩

theorem foldL_in : ∀ {l : List (Int × Int × Int)} {k : Int} {s : Int × Int × Int}, l.Pairwise (fun s t => s.2.1 < t.1) → s ∈ l → s.1 ≤ k → k ≤ s.2.1 → foldL l k = k + s.2.2
  | [], k, s, _, hs, _, _ => by simp at hs
  | t :: l, k, s, hp, hs, h1, h2 => by
    rw [List.pairwise_cons] at hp
    unfold foldL
    rcases List.mem_cons.1 hs with hs | hs
    · subst hs; rw [if_pos ⟨h1, h2⟩]
    · have := hp.1 s hs
      rw [if_neg (by omega)]
      exact foldL_in hp.2 hs h1 h2

theorem strs_rise : strs.Pairwise fun s t => s.2.1 < t.1 := by decide

theorem strs_apart : ∀ s ∈ strs, ∀ t ∈ strs, s.2.1 + s.2.2 < t.1 ∨ t.2.1 < s.1 + s.2.2 := by decide

theorem foldS_idem (c : Int) : foldS (foldS c) = foldS c := by
  by_cases hc : foldS c = c
  · rw [hc, hc]
  · obtain ⟨s, h1, h2, h3⟩ := foldL_turned hc
    have he : foldS c = c + s.2.2 := foldL_in strs_rise h1 h2 h3
    rw [he]
    apply Classical.byContradiction
    intro hn
    obtain ⟨t, g1, g2, g3⟩ := foldL_turned hn
    have := strs_apart s h1 t g1
    omega

theorem foldS_iff (k to : Int) : foldS k = to ↔ (k = to ∧ foldS to = to) ∨ k ∈ pres strs to := by
  rw [pres_mem]
  constructor
  · intro h
    by_cases hk : foldS k = k
    · left
      have : k = to := by omega
      subst this
      exact ⟨rfl, hk⟩
    · right
      obtain ⟨s, h1, h2, h3⟩ := foldL_turned hk
      have := foldL_in strs_rise h1 h2 h3
      exact ⟨s, h1, h2, h3, by rw [← h]; exact this.symm⟩
  · rintro (⟨rfl, h⟩ | ⟨s, h1, h2, h3, h4⟩)
    · exact h
    · have := foldL_in strs_rise h1 h2 h3
      show foldL strs k = to
      omega

theorem pres_rise : ∀ {l : List (Int × Int × Int)} {to : Int}, l.Pairwise (fun s t => s.2.1 < t.1) → (pres l to).Pairwise (· < ·)
  | [], to, _ => List.Pairwise.nil
  | s :: l, to, h => by
    rw [List.pairwise_cons] at h
    have ih := pres_rise (to := to) h.2
    unfold pres at ih ⊢
    rw [List.filterMap_cons]
    split
    · exact ih
    · rename_i x hx
      split at hx
      · cases hx
        refine List.pairwise_cons.2 ⟨fun y hy => ?_, ih⟩
        obtain ⟨t, ht, h1, h2, h3⟩ := (pres_mem (l := l) (to := to) (k := y)).1 hy
        have := h.1 t ht
        omega
      · cases hx
end Go.Sx
