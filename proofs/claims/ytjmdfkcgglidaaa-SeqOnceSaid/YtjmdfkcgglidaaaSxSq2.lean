/- Seq, plain: what is looked at, ranks, runs. -/
import Derived.Test.YtjmdfkcgglidaaaSxSq1
set_option linter.unusedVariables false
set_option linter.unusedSimpArgs false
namespace Go.Sx

theorem len_pos_of_ne {A : Type} {l : List A} (h : l ≠ []) : 0 < l.length := by
  cases l with
  | nil => exact absurd rfl h
  | cons a r => simp

theorem len_le_sum {A : Type} : ∀ {R : List (List A)} {r : List A}, r ∈ R → r.length ≤ (R.map List.length).sum
  | [], _, h => by simp at h
  | s :: R, r, h => by
    rw [List.map_cons, List.sum_cons]
    rcases List.mem_cons.1 h with rfl | h
    · omega
    · have := len_le_sum h; omega

theorem some_of {A : Type} {x : Option A} {y : A} (h : ∃ r, x = some r ∧ r = y) : x = some y := by
  obtain ⟨r, h1, rfl⟩ := h; exact h1

def outC (c : Int) : Bool := c == 9 || c == 14 || c == 15 || c == 16 || c == 17 || c == 18

theorem f32_out : Q.f32F [14, 15, 16, 17, 18, 9] = some 508416 := by
  unfold Q.f32F
  rw [iter_of_iterN (n := 7) (e := 508416) (by rfl)]
  rfl

theorem f31_out : ∀ n : Nat, n < 23 → Q.f31F ((n : Int), 508416) = some (outC n) := by
  unfold Q.f31F
  decide +kernel

theorem f30_eq (c : Int) : Q.f30F c = some (outC c) := by
  unfold Q.f30F
  rw [f32_out]
  show (Q.f31F (c, 508416)).bind _ = _
  by_cases h0 : 0 ≤ c
  · by_cases h1 : c < 23
    · obtain ⟨n, rfl⟩ := Int.eq_ofNat_of_zero_le h0
      rw [f31_out n (by omega)]; rfl
    · have : Q.f31F (c, 508416) = some false := by
        unfold Q.f31F
        simp [show c ≥ 0 by omega, show ¬ c ≤ 22 by omega]
      rw [this]
      simp [outC]; omega
  · have : Q.f31F (c, 508416) = some false := by
      unfold Q.f31F
      simp [h0]
    rw [this]
    simp [outC]; omega

theorem f17_eq (c : Int) : Q.f17F c = some (outC c) := by
  unfold Q.f17F outC
  cases (c == 9) <;> cases (c == 14) <;> cases (c == 15) <;> cases (c == 16) <;> cases (c == 17) <;> rfl

/-! ### What is looked at -/

def sN (c : List Int) (k : Nat) : List Int := ((List.range k).filter fun j => !outC (c.getD j 0)).map fun (j : Nat) => (j : Int)
def seenS (c : List Int) : List Int := sN c c.length

theorem sN_succ (c : List Int) (k : Nat) : sN c (k + 1) = if outC (c.getD k 0) = true then sN c k else sN c k ++ [(k : Int)] := by
  unfold sN
  rw [List.range_succ, List.filter_append, List.map_append]
  cases h : outC (c.getD k 0) with
  | true => simp only [List.filter_cons, List.filter_nil, h, Bool.not_true, Bool.false_eq_true, if_false, List.map_nil, List.append_nil, if_true]
  | false => simp only [List.filter_cons, List.filter_nil, h, Bool.not_false, if_true, List.map_cons, List.map_nil, Bool.false_eq_true, if_false]

theorem sN_len (c : List Int) (k : Nat) : (sN c k).length ≤ k := by
  unfold sN
  rw [List.length_map]
  exact Nat.le_trans (List.length_filter_le _ _) (by simp)

theorem sN_mem {c : List Int} {k : Nat} {p : Int} : p ∈ sN c k ↔ ∃ j : Nat, p = j ∧ j < k ∧ outC (c.getD j 0) = false := by
  unfold sN
  simp only [List.mem_map, List.mem_filter, List.mem_range, Bool.not_eq_true']
  constructor
  · rintro ⟨j, ⟨h1, h2⟩, rfl⟩; exact ⟨j, rfl, h1, h2⟩
  · rintro ⟨j, rfl, h1, h2⟩; exact ⟨j, ⟨h1, h2⟩, rfl⟩

theorem sN_asc (c : List Int) (k : Nat) : (sN c k).Pairwise (· < ·) := by
  unfold sN
  rw [List.pairwise_map]
  refine List.Pairwise.imp ?_ ((List.pairwise_lt_range (n := k)).filter _)
  intro a b h; omega

theorem seen_mem {c : List Int} {p : Int} (h : p ∈ seenS c) : ∃ j : Nat, p = j ∧ j < c.length ∧ outC (c.getD j 0) = false := sN_mem.1 h

theorem f34_eq {c : List Int} (hl : c.length ≤ 100000) : Q.f34F c = some (seenS c) := by
  unfold Q.f34F
  refine some_of (bind_ex (iter_rule (I := fun s => ∃ k : Nat, k ≤ c.length ∧ s = ((k : Int), sN c k)) (Q := fun e => e = seenS c) (fun s => (c.length - s.1).toNat) ?_ _ ⟨0, by omega, rfl⟩) fun e he => ⟨e, rfl, he⟩)
  rintro _ ⟨k, hk, rfl⟩
  by_cases hkl : k < c.length
  · have hlen := sN_len c k
    dsimp only
    simp (disch := omega) only [if_pos, wrap_i64, decide_eq_true_eq, f17_eq, Option.bind_some, Int.toNat_natCast, roomOk]
    left
    cases ho : outC (c.getD k 0) with
    | true => exact ⟨_, rfl, ⟨k + 1, hkl, by rw [sN_succ, ho]; rfl⟩, by simp; omega⟩
    | false => exact ⟨_, rfl, ⟨k + 1, hkl, by rw [sN_succ, ho]; rfl⟩, by simp; omega⟩
  · have : k = c.length := by omega
    subst this
    right
    rw [if_neg (by rw [decide_eq_true_eq]; omega)]
    exact ⟨_, rfl, rfl⟩

/-- Where each place stands among those that are looked at. -/
def rankS (c : List Int) : List Int := (List.range c.length).map fun k => if outC (c.getD k 0) = true then -1 else ((sN c k).length : Int)

theorem f18_eq {c v : List Int} (hl : c.length ≤ 100000) : Q.f18F (c, v) = some (c, v, seenS c, rankS c) := by
  unfold Q.f18F
  dsimp only
  rw [if_pos (by simp only [roomOk]; omega)]
  refine some_of (bind_ex (Q := fun e => e = (rankS c, c, v, seenS c)) (iter_rule (I := fun s => ∃ (k : Nat) (m : List Int), k ≤ c.length ∧ m.length = c.length ∧ (∀ j, j < k → m.getD j 0 = if outC (c.getD j 0) = true then -1 else ((sN c j).length : Int)) ∧ s = ((k : Int), m, c, v, sN c k))
    (fun s => (c.length - s.1).toNat) ?_ _ ⟨0, _, by omega, by simp, fun j hj => by omega, rfl⟩) fun e he => ⟨_, rfl, by rw [he]⟩)
  rintro _ ⟨k, m, hk, hm, hr, rfl⟩
  by_cases hkl : k < c.length
  · have hlen := sN_len c k
    dsimp only
    simp (disch := omega) only [if_pos, wrap_i64, decide_eq_true_eq, f30_eq, Option.bind_some, Int.toNat_natCast, roomOk, List.length_set]
    left
    have hset : ∀ (m : List Int) (x : Int) (j : Nat), m.length = c.length → (m.set k x).getD j 0 = if k = j then x else m.getD j 0 := fun m x j hm => getD_set m k j x (by omega)
    cases ho : outC (c.getD k 0) with
    | true =>
      refine ⟨_, rfl, ⟨k + 1, m.set k (-1), hkl, by simpa using hm, fun j hj => ?_, by rw [sN_succ, ho]; rfl⟩, by simp; omega⟩
      rw [hset _ _ _ hm]
      split
      · rename_i h; subst h; rw [ho]; rfl
      · exact hr j (by omega)
    | false =>
      refine ⟨_, rfl, ⟨k + 1, (m.set k (-1)).set k ((sN c k).length : Int), hkl, by simpa using hm, fun j hj => ?_, by rw [sN_succ, ho]; rfl⟩, by simp; omega⟩
      rw [hset _ _ _ (by simpa using hm), hset _ _ _ hm]
      split
      · rename_i h; subst h; rw [ho]; rfl
      · exact hr j (by omega)
  · have : k = c.length := by omega
    subst this
    right
    rw [if_neg (by rw [decide_eq_true_eq]; omega)]
    refine ⟨_, rfl, ?_⟩
    congr 1
    apply List.ext_getElem
    · simp [rankS, hm]
    · intro j h1 h2
      have h1' : j < m.length := h1
      have := hr j (by omega)
      rw [List.getD_eq_getElem?_getD, List.getElem?_eq_getElem h1'] at this
      simp only [Option.getD_some] at this
      rw [this]
      simp [rankS]

/-! ### Runs -/

/-- Does a run end between two places that touch? -/
def brkS (c v : List Int) (p q : Int) : Bool := v.getD q.toNat 0 != v.getD p.toNat 0 || c.getD p.toNat 0 == 10

/-- One place more. -/
def snocR (b : Int → Int → Bool) (acc : List (List Int)) (q : Int) : List (List Int) :=
  match acc.getLast? with
  | none => acc ++ [[q]]
  | some r => match r.getLast? with
    | none => acc ++ [[q]]
    | some p => if b p q = true then acc ++ [[q]] else acc.dropLast ++ [r ++ [q]]

def runsL (b : Int → Int → Bool) (l : List Int) : List (List Int) := l.foldl (snocR b) []
def runsS (c v : List Int) : List (List Int) := runsL (brkS c v) (seenS c)

theorem runsL_snoc (b : Int → Int → Bool) (l : List Int) (q : Int) : runsL b (l ++ [q]) = snocR b (runsL b l) q := by
  unfold runsL; rw [List.foldl_append]; rfl

theorem snocR_last (b : Int → Int → Bool) (A : List (List Int)) (r : List Int) (p q : Int) : snocR b (A ++ [r ++ [p]]) q = if b p q = true then A ++ [r ++ [p]] ++ [[q]] else A ++ [r ++ [p] ++ [q]] := by
  unfold snocR
  simp only [List.getLast?_append, List.getLast?_singleton, Option.some_or, List.dropLast_concat]

/-- What runs are: all that is looked at, none empty, each whole. -/
structure RunsOk (b : Int → Int → Bool) (l : List Int) (R : List (List Int)) : Prop where
  all : R.flatten = l
  ne : ∀ r ∈ R, r ≠ []
  within : ∀ r ∈ R, ∀ i p q, r[i]? = some p → r[i + 1]? = some q → b p q = false
  between : ∀ i r s p q, R[i]? = some r → R[i + 1]? = some s → r.getLast? = some p → s.head? = some q → b p q = true

theorem RunsOk.nil (b : Int → Int → Bool) : RunsOk b [] [] := ⟨rfl, by simp, by simp, by simp⟩

theorem RunsOk.snoc {b : Int → Int → Bool} {l : List Int} {R : List (List Int)} (h : RunsOk b l R) (q : Int) : RunsOk b (l ++ [q]) (snocR b R q) := by
  rcases List.eq_nil_or_concat R with rfl | ⟨A, r, rfl⟩
  · have hl : l = [] := by rw [← h.all]; rfl
    subst hl
    refine ⟨rfl, by simp [snocR], fun r hr i p q h1 h2 => ?_, fun i r s p q h1 h2 => ?_⟩
    · simp [snocR] at hr; subst hr; simp at h2
    · simp [snocR] at h2
  · have hr : r ≠ [] := h.ne r (by simp)
    rcases List.eq_nil_or_concat r with rfl | ⟨r', p, rfl⟩
    · exact absurd rfl hr
    simp only [List.concat_eq_append] at h ⊢
    rw [snocR_last]
    cases hb : b p q with
    | true =>
      rw [if_pos rfl]
      refine ⟨by rw [List.flatten_append, h.all]; simp, fun s hs => ?_, fun s hs i x y h1 h2 => ?_, fun i s t x y h1 h2 h3 h4 => ?_⟩
      · rcases List.mem_append.1 hs with hs | hs
        · exact h.ne s hs
        · simp at hs; subst hs; simp
      · rcases List.mem_append.1 hs with hs | hs
        · exact h.within s hs i x y h1 h2
        · simp at hs; subst hs; simp at h2
      · by_cases hi : i + 1 < (A ++ [r' ++ [p]]).length
        · rw [List.getElem?_append_left (by omega)] at h1
          rw [List.getElem?_append_left hi] at h2
          exact h.between i s t x y h1 h2 h3 h4
        · have hi' : i + 1 = (A ++ [r' ++ [p]]).length := by
            have := (List.getElem?_eq_some_iff.1 h2).1
            simp at this hi ⊢; omega
          rw [hi'] at h2
          simp at h2
          subst h2
          have hia : i = A.length := by simp at hi'; omega
          subst hia
          simp at h1
          subst h1
          simp at h3 h4
          subst h3; subst h4
          exact hb
    | false =>
      rw [if_neg (by simp)]
      refine ⟨by have := h.all; simp at this ⊢; rw [← this]; simp, fun s hs => ?_, fun s hs i x y h1 h2 => ?_, fun i s t x y h1 h2 h3 h4 => ?_⟩
      · rcases List.mem_append.1 hs with hs | hs
        · exact h.ne s (by simp [hs])
        · simp at hs; subst hs; simp
      · rcases List.mem_append.1 hs with hs | hs
        · exact h.within s (by simp [hs]) i x y h1 h2
        · simp at hs; subst hs
          have e0 : ∀ j : Nat, (r' ++ [p, q])[j]? = ((r' ++ [p]) ++ [q])[j]? := fun j => by simp
          by_cases hi : i + 1 < (r' ++ [p]).length
          · refine h.within (r' ++ [p]) (by simp) i x y ?_ ?_
            · rw [e0] at h1
              rw [List.getElem?_append_left (l₁ := r' ++ [p]) (by omega)] at h1; exact h1
            · rw [e0] at h2
              rw [List.getElem?_append_left (l₁ := r' ++ [p]) hi] at h2; exact h2
          · have hi' : i = r'.length := by
              have := (List.getElem?_eq_some_iff.1 h2).1
              simp at this hi; omega
            subst hi'
            simp at h1 h2
            subst h1; subst h2
            exact hb
      · by_cases hi : i + 1 < A.length
        · rw [List.getElem?_append_left (by omega)] at h1
          rw [List.getElem?_append_left hi] at h2
          exact h.between i s t x y (by rw [List.getElem?_append_left (by omega)]; exact h1) (by rw [List.getElem?_append_left hi]; exact h2) h3 h4
        · have hi' : i + 1 = A.length := by
            have := (List.getElem?_eq_some_iff.1 h2).1
            simp at this; omega
          rw [hi'] at h2
          rw [List.getElem?_append_left (by omega)] at h1
          simp at h2
          subst h2
          refine h.between i s (r' ++ [p]) x y (by rw [List.getElem?_append_left (by omega)]; exact h1) (by rw [hi']; simp) h3 ?_
          cases r' <;> simpa using h4

theorem runsL_ok (b : Int → Int → Bool) (l : List Int) : RunsOk b l (runsL b l) := by
  suffices h : ∀ (m l0 : List Int) (R : List (List Int)), RunsOk b l0 R → RunsOk b (l0 ++ m) (m.foldl (snocR b) R) from by
    have := h l [] [] (RunsOk.nil b)
    simpa [runsL] using this
  intro m
  induction m with
  | nil => intro l0 R h; simpa using h
  | cons q m ih =>
    intro l0 R h
    have := ih (l0 ++ [q]) _ (h.snoc q)
    simpa using this

end Go.Sx
