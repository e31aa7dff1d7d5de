/- Seq, plain: runs that are joined. -/
import Derived.Test.YtjmdfkcgglidaaaSxSq4
import Derived.Test.YtjmdfkcgglidaaaSxSq5
set_option linter.unusedVariables false
set_option linter.unusedSimpArgs false
namespace Go.Sx

theorem find_congr {A : Type} {p q : A → Bool} : ∀ {l : List A}, (∀ x ∈ l, p x = q x) → l.find? p = l.find? q
  | [], _ => rfl
  | a :: l, h => by
    rw [List.find?_cons, List.find?_cons, h a (by simp), find_congr fun x hx => h x (by simp [hx])]

theorem mget_mput {kk : IntKind} {V : Ty} (k p : Int) (v : V.den) (es : List (Int × V.den)) : mget (K := .int kk) (V := V) (mput (K := .int kk) (V := V) es k v) p = if p = k then some v else mget (K := .int kk) (V := V) es p := by
  induction es with
  | nil =>
    show (bif (p == k) then some v else none) = _
    by_cases h : p = k
    · subst h; simp
    · have : (p == k) = false := by simpa using h
      rw [this, if_neg h]; rfl
  | cons e l ih =>
    obtain ⟨a, b⟩ := e
    show mget (K := .int kk) (V := V) (bif (k == a) then (a, v) :: l else (a, b) :: mput (K := .int kk) (V := V) l k v) p = if p = k then some v else (bif (p == a) then some b else mget (K := .int kk) (V := V) l p)
    by_cases h : k = a
    · subst h
      rw [beq_self_eq_true]
      show (bif (p == k) then some v else mget (K := .int kk) (V := V) l p) = _
      by_cases h2 : p = k
      · subst h2; simp
      · have : (p == k) = false := by simpa using h2
        rw [this, if_neg h2]; rfl
    · have hka : (k == a) = false := by simpa using h
      rw [hka]
      show (bif (p == a) then some b else mget (K := .int kk) (V := V) (mput (K := .int kk) (V := V) l k v) p) = _
      by_cases h2 : p = a
      · subst h2
        have : ¬ p = k := fun e => h e.symm
        rw [beq_self_eq_true, if_neg this]; rfl
      · have hpa : (p == a) = false := by simpa using h2
        rw [hpa]
        exact ih

def fstR (R : List (List Int)) (k : Nat) : Int := (R.getD k []).getD 0 0
def lstR (R : List (List Int)) (k : Nat) : Int := (R.getD k []).getD ((R.getD k []).length - 1) 0

/-- Runs of places that are looked at. -/
structure RF (c : List Int) (R : List (List Int)) : Prop where
  ne : ∀ r ∈ R, r ≠ []
  mem : ∀ r ∈ R, ∀ p ∈ r, p ∈ seenS c
  asc : R.flatten.Pairwise (· < ·)
  small : R.flatten.length ≤ c.length

theorem runsS_rf (c v : List Int) : RF c (runsS c v) := by
  have h := runsL_ok (brkS c v) (seenS c)
  refine ⟨h.ne, fun r hr p hp => ?_, ?_, ?_⟩
  · have : p ∈ (runsL (brkS c v) (seenS c)).flatten := List.mem_flatten.2 ⟨r, hr, hp⟩
    rwa [h.all] at this
  · show (runsL (brkS c v) (seenS c)).flatten.Pairwise _
    rw [h.all]; exact sN_asc _ _
  · show (runsL (brkS c v) (seenS c)).flatten.length ≤ _
    rw [h.all]; exact sN_len _ _

section
variable {c : List Int} {R : List (List Int)} (h : RF c R)
include h

theorem RF.run {k : Nat} (hk : k < R.length) : R.getD k [] ∈ R ∧ R.getD k [] ≠ [] ∧ 0 < (R.getD k []).length := by
  rw [getD_at [] hk]
  have h1 := List.getElem_mem hk
  exact ⟨h1, h.ne _ h1, len_pos_of_ne (h.ne _ h1)⟩

theorem RF.fst_mem {k : Nat} (hk : k < R.length) : fstR R k ∈ R.getD k [] := by
  obtain ⟨h1, h2, h3⟩ := h.run hk
  unfold fstR
  rw [getD_at 0 h3]; exact List.getElem_mem _
theorem RF.lst_mem {k : Nat} (hk : k < R.length) : lstR R k ∈ R.getD k [] := by
  obtain ⟨h1, h2, h3⟩ := h.run hk
  unfold lstR
  rw [getD_at 0 (by omega)]; exact List.getElem_mem _
theorem RF.fst_seen {k : Nat} (hk : k < R.length) : fstR R k ∈ seenS c := h.mem _ (h.run hk).1 _ (h.fst_mem hk)
theorem RF.lst_seen {k : Nat} (hk : k < R.length) : lstR R k ∈ seenS c := h.mem _ (h.run hk).1 _ (h.lst_mem hk)

theorem RF.apart {i j : Nat} (hij : i < j) (hj : j < R.length) : ∀ p ∈ R.getD i [], ∀ q ∈ R.getD j [], p < q := by
  have := (List.pairwise_flatten.1 h.asc).2
  rw [getD_at [] (by omega), getD_at [] hj]
  exact List.pairwise_iff_getElem.1 this i j (by omega) hj hij

theorem RF.fst_le {k : Nat} (hk : k < R.length) : fstR R k ≤ lstR R k := by
  obtain ⟨h1, h2, h3⟩ := h.run hk
  have hp := (List.pairwise_flatten.1 h.asc).1 _ h1
  unfold fstR lstR
  rw [getD_at 0 h3, getD_at 0 (by omega)]
  by_cases h0 : (R.getD k []).length - 1 = 0
  · simp only [h0]; omega
  · have := List.pairwise_iff_getElem.1 hp 0 ((R.getD k []).length - 1) h3 (by omega) (by omega)
    omega

theorem RF.lst_lt {i j : Nat} (hij : i < j) (hj : j < R.length) : lstR R i < fstR R j := h.apart hij hj _ (h.lst_mem (by omega)) _ (h.fst_mem hj)

theorem RF.fst_inj {i j : Nat} (hi : i < R.length) (hj : j < R.length) (he : fstR R i = fstR R j) : i = j := by
  rcases Nat.lt_trichotomy i j with h1 | h1 | h1
  · have := h.lst_lt h1 hj; have := h.fst_le hi; omega
  · exact h1
  · have := h.lst_lt h1 hi; have := h.fst_le hj; omega

theorem RF.lst_inj {i j : Nat} (hi : i < R.length) (hj : j < R.length) (he : lstR R i = lstR R j) : i = j := by
  rcases Nat.lt_trichotomy i j with h1 | h1 | h1
  · have := h.lst_lt h1 hj; have := h.fst_le hj; omega
  · exact h1
  · have := h.lst_lt h1 hi; have := h.fst_le hi; omega

theorem RF.count : R.length ≤ c.length := by
  refine Nat.le_trans ?_ h.small
  have : ∀ (S : List (List Int)), (∀ r ∈ S, r ≠ []) → S.length ≤ S.flatten.length := by
    intro S
    induction S with
    | nil => simp
    | cons r S ih =>
      intro hS
      have h1 := len_pos_of_ne (hS r (by simp))
      have h2 := ih (fun r hr => hS r (by simp [hr]))
      simp at h2 ⊢
      omega
  exact this R h.ne

omit h
/-- Where a run goes on. -/
def tgtR (c : List Int) (R : List (List Int)) (k : Nat) : Option Int :=
  if opens (c.getD (lstR R k).toNat 0) = true ∧ 0 ≤ (matchS c).getD (lstR R k).toNat 0 then some ((matchS c).getD (lstR R k).toNat 0) else none

def nxR (c : List Int) (R : List (List Int)) (k : Nat) : Option Nat :=
  if k < R.length then (match tgtR c R k with
    | none => none
    | some p => (List.range R.length).find? fun j => fstR R j == p) else none

theorem matchS_open {c : List Int} {j : Nat} (hj : j < c.length) (ho : opens (c.getD j 0) = true) : (matchS c).getD j 0 = endOf c j := by
  unfold matchS
  rw [getD_at 0 (by simpa using hj)]
  simp only [List.getElem_map, List.getElem_range, ho, if_true]

include h
theorem RF.tgt {k : Nat} (hk : k < R.length) {p : Int} (ht : tgtR c R k = some p) : ∃ j : Nat, lstR R k = j ∧ j < c.length ∧ opens (c.getD j 0) = true ∧ endOf c j = p ∧ (j : Int) < p ∧ p < c.length := by
  obtain ⟨j, hj, h1, _⟩ := seen_mem (h.lst_seen hk)
  unfold tgtR at ht
  rw [hj] at ht
  simp only [Int.toNat_natCast] at ht
  split at ht
  case isFalse => cases ht
  case isTrue hc =>
    have he := matchS_open h1 hc.1
    rw [he] at ht hc
    simp only [Option.some.injEq] at ht
    subst ht
    rcases endOf_gt c j with h2 | h2
    · have := hc.2; omega
    · exact ⟨j, hj, h1, hc.1, rfl, h2.1, h2.2⟩

theorem RF.tgt_inj {i k : Nat} (hi : i < R.length) (hk : k < R.length) {p : Int} (h1 : tgtR c R i = some p) (h2 : tgtR c R k = some p) : i = k := by
  obtain ⟨a, a1, a2, a3, a4, a5, _⟩ := h.tgt hi h1
  obtain ⟨b, b1, b2, b3, b4, _, _⟩ := h.tgt hk h2
  have : a = b := by
    obtain ⟨q, rfl⟩ := Int.eq_ofNat_of_zero_le (show 0 ≤ p by omega)
    rw [getD_at 0 a2] at a3
    rw [getD_at 0 b2] at b3
    exact endOf_inj a2 b2 a3 b3 a4 b4
  exact h.lst_inj hi hk (by rw [a1, b1, this])

theorem RF.nx_iff {i k : Nat} (hi : i < R.length) (hk : k < R.length) : nxR c R i = some k ↔ tgtR c R i = some (fstR R k) := by
  unfold nxR
  rw [if_pos hi]
  constructor
  · intro hn
    split at hn
    · cases hn
    · rename_i p hp
      have := List.find?_some hn
      rw [beq_iff_eq] at this
      rw [hp, this]
  · intro ht
    rw [ht]
    simp only
    cases hf : (List.range R.length).find? fun j => fstR R j == fstR R k with
    | none =>
      have := List.find?_eq_none.1 hf k (by simpa using hk)
      simp at this
    | some j =>
      have h1 := List.find?_some hf
      have h2 := List.mem_of_find?_eq_some hf
      rw [beq_iff_eq] at h1
      rw [h.fst_inj (by simpa using h2) hk h1]

theorem RF.nx_lt {i k : Nat} (hn : nxR c R i = some k) : i < R.length ∧ k < R.length := by
  have _ := h.ne
  unfold nxR at hn
  split at hn
  case isFalse => cases hn
  case isTrue hi =>
    refine ⟨hi, ?_⟩
    split at hn
    · cases hn
    · have := List.mem_of_find?_eq_some hn
      simpa using this

theorem RF.chain : Chain (nxR c R) R.length where
  up := fun i j hn => by
    obtain ⟨hi, hj⟩ := h.nx_lt hn
    refine ⟨?_, hj⟩
    have ht := (h.nx_iff hi hj).1 hn
    obtain ⟨a, a1, _, _, _, a5, _⟩ := h.tgt hi ht
    apply Nat.lt_of_not_le
    intro hle
    have h1 : fstR R j ≤ lstR R i := by
      rcases Nat.lt_or_ge j i with h2 | h2
      · have := h.fst_le hj; have := h.lst_lt h2 hi; have := h.fst_le hi; omega
      · have : j = i := by omega
        subst this; exact h.fst_le hi
    omega
  inj := fun i j k h1 h2 => by
    obtain ⟨hi, hk⟩ := h.nx_lt h1
    obtain ⟨hj, _⟩ := h.nx_lt h2
    exact h.tgt_inj hi hj ((h.nx_iff hi hk).1 h1) ((h.nx_iff hj hk).1 h2)

/-- A run waits for a place. -/
theorem RF.prev_find {k : Nat} (hk : k < R.length) : (List.range k).find? (fun i => tgtR c R i == some (fstR R k)) = prevOf (nxR c R) k := by
  unfold prevOf
  apply find_congr
  intro i hi
  have hik : i < k := by simpa using hi
  rw [Bool.eq_iff_iff, beq_iff_eq, beq_iff_eq]
  exact (h.nx_iff (by omega) hk).symm

end

/-- Who waits for a place. -/
def wS (c : List Int) (R : List (List Int)) (k : Nat) (p : Int) : Option Int := ((List.range k).find? fun i => tgtR c R i == some p).map fun i => (sidx (nxR c R) i : Int)

theorem RF.w_succ {c : List Int} {R : List (List Int)} (h : RF c R) {k : Nat} (hk : k < R.length) (p : Int) : wS c R (k + 1) p = if tgtR c R k = some p then some (sidx (nxR c R) k : Int) else wS c R k p := by
  unfold wS
  rw [List.range_succ, List.find?_append]
  cases hf : (List.range k).find? fun i => tgtR c R i == some p with
  | none =>
    rw [Option.none_or]
    by_cases ht : tgtR c R k = some p
    · rw [if_pos ht, List.find?_cons_of_pos (by simpa using ht)]; rfl
    · rw [if_neg ht, List.find?_cons_of_neg (by simpa using ht)]; rfl
  | some i =>
    rw [Option.some_or]
    have h1 := List.find?_some hf
    have h2 := List.mem_of_find?_eq_some hf
    rw [beq_iff_eq] at h1
    have hik : i < k := by simpa using h2
    rw [if_neg (fun ht => by have := h.tgt_inj (by omega) hk h1 ht; omega)]

/-- The places of some runs. -/
def catR (R : List (List Int)) (l : List Nat) : List Int := l.flatMap fun i => R.getD i []

theorem catR_all (R : List (List Int)) (k : Nat) (hk : k ≤ R.length) : catR R (List.range k) = (R.take k).flatten := by
  induction k with
  | zero => rfl
  | succ k ih =>
    have := ih (by omega)
    unfold catR at this ⊢
    rw [List.range_succ, List.flatMap_append, this, take_one_more R k [] (by omega), List.flatten_append]
    simp

theorem catR_filter_len (R : List (List Int)) (q : Nat → Bool) (l : List Nat) : (catR R (l.filter q)).length ≤ (catR R l).length := by
  unfold catR
  induction l with
  | nil => simp
  | cons x l ih =>
    rw [List.filter_cons]
    split
    · simp only [List.flatMap_cons, List.length_append]; omega
    · simp only [List.flatMap_cons, List.length_append]; omega

theorem memb_len {c : List Int} {R : List (List Int)} (h : RF c R) (k s : Nat) (hk : k ≤ R.length) : (catR R (memb (nxR c R) k s)).length ≤ c.length := by
  refine Nat.le_trans (catR_filter_len R _ _) ?_
  rw [catR_all R k hk]
  refine Nat.le_trans ?_ h.small
  have : (R.take k).flatten.length + (R.drop k).flatten.length = R.flatten.length := by
    rw [← List.length_append, ← List.flatten_append, List.take_append_drop]
  omega

theorem memb_seen {c : List Int} {R : List (List Int)} (h : RF c R) {k s : Nat} (hk : k ≤ R.length) : ∀ p ∈ catR R (memb (nxR c R) k s), p ∈ seenS c := by
  intro p hp
  unfold catR at hp
  obtain ⟨i, h1, h2⟩ := List.mem_flatMap.1 hp
  have hi : i < k := by
    unfold memb at h1
    simpa using (List.mem_filter.1 h1).1
  exact h.mem _ (h.run (by omega)).1 _ h2

theorem memb_ne {c : List Int} {R : List (List Int)} (h : RF c R) {s : Nat} (hs : s < rankH (nxR c R) R.length) : catR R (memb (nxR c R) R.length s) ≠ [] := by
  have h1 : s ∈ List.range (rankH (nxR c R) R.length) := by simpa using hs
  rw [← heads_rank] at h1
  obtain ⟨i, h2, h3⟩ := List.mem_map.1 h1
  simp only [List.mem_filter, List.mem_range, Option.isNone_iff_eq_none] at h2
  have h4 := sidx_head h2.2
  intro he
  have h5 : i ∈ memb (nxR c R) R.length s := by
    unfold memb
    simp only [List.mem_filter, List.mem_range, beq_iff_eq]
    exact ⟨h2.1, by rw [h4, h3]⟩
  have h6 : fstR R i ∈ catR R (memb (nxR c R) R.length s) := List.mem_flatMap.2 ⟨i, h5, h.fst_mem h2.1⟩
  rw [he] at h6; simp at h6

/-- All sequences. -/
def seqsS (c v : List Int) (base : Int) : List (List Int × Int × Int × Int) :=
  (List.range (rankH (nxR c (runsS c v)) (runsS c v).length)).map fun s => seqS c v (catR (runsS c v) (memb (nxR c (runsS c v)) (runsS c v).length s)) base

end Go.Sx
