/- Seq, plain: a sequence's directions. -/
import Derived.Test.YtjmdfkcgglidaaaSxSq3
set_option linter.unusedVariables false
set_option linter.unusedSimpArgs false
namespace Go.Sx

def dirS (x : Int) : Int := if x % 2 = 1 then 1 else 0

theorem f14_dir (x : Int) : Q.f14F x = some (dirS x) := by
  unfold Q.f14F dirS
  have h := Int.emod_two_eq x
  have ht : (Int.tmod x 2 != 0) = decide (x % 2 = 1) := by
    rw [bne, Bool.eq_iff_iff]
    simp only [Bool.not_eq_true', beq_eq_false_iff_ne, ne_eq, decide_eq_true_eq]
    have := Int.tmod_two_eq x
    have h2 : Int.tmod x 2 = 0 ↔ x % 2 = 0 := by
      rw [← Int.dvd_iff_tmod_eq_zero, ← Int.dvd_iff_emod_eq_zero]
    omega
  rw [ht]
  by_cases hx : x % 2 = 1
  · simp [hx]
  · simp [hx]

theorem f13_dir (x : Int) : Q.f13F x = some (dirS x) := by
  unfold Q.f13F dirS
  have hb : (BitVec.toNat (BitVec.ofInt (IntKind.bits IntKind.i64) x &&& BitVec.ofInt (IntKind.bits IntKind.i64) 1) : Int) = x % 2 := by
    show ((BitVec.toNat (BitVec.ofInt 64 x &&& BitVec.ofInt 64 1) : Nat) : Int) = x % 2
    have h1 : BitVec.ofInt 64 1 = 1#64 := rfl
    rw [h1, BitVec.toNat_and]
    have h2 : (1#64).toNat = 1 := rfl
    rw [h2, Nat.and_one_is_mod, BitVec.toNat_ofInt]
    omega
  rw [hb]
  rcases Int.emod_two_eq x with h | h
  · rw [h]; rfl
  · rw [h]; rfl

theorem sN_prefix (c : List Int) (k d : Nat) : ∃ t, sN c (k + d) = sN c k ++ t := by
  induction d with
  | zero => exact ⟨[], by simp⟩
  | succ d ih =>
    obtain ⟨t, h⟩ := ih
    rw [← Nat.add_assoc, sN_succ, h]
    split
    · exact ⟨t, rfl⟩
    · exact ⟨t ++ [((k + d : Nat) : Int)], by simp⟩

/-- Where a place stands among those that are looked at. -/
def posS (c : List Int) (p : Int) : Nat := (sN c p.toNat).length

theorem seen_pos {c : List Int} {p : Int} (h : p ∈ seenS c) : posS c p < (seenS c).length ∧ (seenS c).getD (posS c p) 0 = p := by
  obtain ⟨j, rfl, h1, h2⟩ := seen_mem h
  obtain ⟨d, hd⟩ : ∃ d, c.length = j + 1 + d := ⟨c.length - (j + 1), by omega⟩
  obtain ⟨t, ht⟩ := sN_prefix c (j + 1) d
  have hs : seenS c = sN c j ++ [(j : Int)] ++ t := by
    unfold seenS
    rw [hd, ht, sN_succ, if_neg (by rw [h2]; simp)]
  unfold posS
  rw [Int.toNat_natCast, hs]
  refine ⟨by simp, ?_⟩
  rw [List.getD_eq_getElem?_getD, List.append_assoc, List.getElem?_append_right (Nat.le_refl _)]
  simp

theorem pos_of {c : List Int} {i : Nat} (h : i < (seenS c).length) : posS c ((seenS c).getD i 0) = i := by
  have hm : (seenS c).getD i 0 ∈ seenS c := by rw [getD_at 0 h]; exact List.getElem_mem h
  obtain ⟨h1, h2⟩ := seen_pos hm
  rw [getD_at 0 h1] at h2
  have h3 := h2.trans (getD_at 0 h)
  have hlt := List.pairwise_iff_getElem.1 (sN_asc c c.length)
  rcases Nat.lt_trichotomy (posS c ((seenS c).getD i 0)) i with h4 | h4 | h4
  · have := hlt _ _ h1 h h4
    exact absurd h3 (Int.ne_of_lt this)
  · exact h4
  · have := hlt _ _ h h1 h4
    exact absurd h3.symm (Int.ne_of_lt this)

theorem rank_pos {c : List Int} {p : Int} (h : p ∈ seenS c) : (rankS c).getD p.toNat 0 = (posS c p : Int) := by
  obtain ⟨j, rfl, h1, h2⟩ := seen_mem h
  rw [Int.toNat_natCast, getD_at 0 (by simp [rankS]; exact h1)]
  simp only [rankS, List.getElem_map, List.getElem_range, h2, Bool.false_eq_true, if_false, posS, Int.toNat_natCast]

/-- The level so many further on. -/
def levS (c v : List Int) (p d base : Int) : Int :=
  if (posS c p : Int) + d < 0 ∨ (posS c p : Int) + d ≥ ((seenS c).length : Int) then base else v.getD ((seenS c).getD ((posS c p : Int) + d).toNat 0).toNat 0

theorem f33_lev {c v : List Int} (hc : c.length ≤ 100000) (hv : v.length = c.length) {p d base : Int} (hp : p ∈ seenS c) (hd1 : -1 ≤ d) (hd2 : d ≤ 1) : Q.f33F ((c, v, seenS c, rankS c), p, d, base) = some (levS c v p d base) := by
  unfold Q.f33F levS
  dsimp only
  obtain ⟨j, hj, h1, h2⟩ := seen_mem hp
  have hrl : (rankS c).length = c.length := by simp [rankS]
  have hsl : (seenS c).length ≤ c.length := sN_len _ _
  obtain ⟨h3, _⟩ := seen_pos hp
  rw [if_pos (by omega), rank_pos hp, wrap_i64 (by omega) (by omega)]
  by_cases ha : (posS c p : Int) + d < 0
  · rw [if_pos (by rw [decide_eq_true_eq]; exact ha), if_pos (Or.inl ha)]
    rfl
  · rw [if_neg (by rw [decide_eq_true_eq]; exact ha)]
    simp only [Option.bind_some, decide_eq_true_eq]
    by_cases hb : (posS c p : Int) + d ≥ ((seenS c).length : Int)
    · rw [if_pos hb, if_pos (Or.inr hb)]
    · have hm : (seenS c).getD ((posS c p : Int) + d).toNat 0 ∈ seenS c := by rw [getD_at 0 (by omega)]; exact List.getElem_mem _
      obtain ⟨j2, hj2, h12, _⟩ := seen_mem hm
      rw [if_neg hb, if_pos (by omega), if_pos (by omega), if_neg (by omega)]

/-- A sequence of places. -/
def seqS (c v at_ : List Int) (base : Int) : List Int × Int × Int × Int :=
  (at_, v.getD (at_.getD 0 0).toNat 0, dirS (maxI (v.getD (at_.getD 0 0).toNat 0) (levS c v (at_.getD 0 0) (-1) base)),
    dirS (maxI (v.getD (at_.getD (at_.length - 1) 0).toNat 0) (if c.getD (at_.getD (at_.length - 1) 0).toNat 0 ≠ 10 ∧ opens (c.getD (at_.getD (at_.length - 1) 0).toNat 0) = false then levS c v (at_.getD (at_.length - 1) 0) 1 base else base)))

theorem f22_seq {c v at_ : List Int} {base : Int} (hc : c.length ≤ 100000) (hv : v.length = c.length) (h0 : at_ ≠ []) (hl : at_.length ≤ 100000) (hs : ∀ p ∈ at_, p ∈ seenS c) : Q.f22F ((c, v, seenS c, rankS c), at_, base) = some (seqS c v at_ base) := by
  unfold Q.f22F seqS
  dsimp only
  have hp : 0 < at_.length := len_pos_of_ne h0
  have hw : IntKind.i64.wrap ((at_.length : Int) - 1) = ((at_.length - 1 : Nat) : Int) := by rw [wrap_i64 (by omega) (by omega)]; omega
  have hf : at_.getD 0 0 ∈ seenS c := by rw [getD_at 0 hp]; exact hs _ (List.getElem_mem _)
  have hla : at_.getD (at_.length - 1) 0 ∈ seenS c := by rw [getD_at 0 (by omega)]; exact hs _ (List.getElem_mem _)
  have hz : Int.toNat (0 : Int) = 0 := rfl
  simp only [hw, Int.toNat_natCast, hz]
  generalize at_.getD 0 0 = f at *
  generalize hgl : at_.getD (at_.length - 1) 0 = l at *
  obtain ⟨jf, hjf, hf1, _⟩ := seen_mem hf
  obtain ⟨jl, hjl, hl1, _⟩ := seen_mem hla
  simp (disch := omega) only [if_pos, f21_eq, Option.bind_some]
  cases h10 : (c.getD l.toNat 0 != 10) with
  | false =>
    have h10' : c.getD l.toNat 0 = 10 := by simpa using h10
    simp only [Bool.false_eq_true, if_false, Option.bind_some]
    rw [f33_lev hc hv hf (by omega) (by omega), if_neg (by rw [h10']; simp)]
    simp only [Option.bind_some, f13_dir]
  | true =>
    have h10' : c.getD l.toNat 0 ≠ 10 := by simpa using h10
    simp only [if_true, Option.bind_some]
    cases ho : opens (c.getD l.toNat 0) with
    | true =>
      simp only [Bool.not_true, Bool.false_eq_true, if_false, Option.bind_some]
      rw [f33_lev hc hv hf (by omega) (by omega), if_neg (by simp)]
      simp only [Option.bind_some, f13_dir]
    | false =>
      simp only [Bool.not_false, if_true]
      rw [f33_lev hc hv hla (by omega) (by omega)]
      simp only [Option.bind_some]
      rw [f33_lev hc hv hf (by omega) (by omega), if_pos ⟨h10', trivial⟩]
      simp only [Option.bind_some, f13_dir]

theorem f26_seq {c v at_ : List Int} {base : Int} (hc : c.length ≤ 100000) (hv : v.length = c.length) (h0 : at_ ≠ []) (hl : at_.length ≤ 100000) (hs : ∀ p ∈ at_, p ∈ seenS c) : Q.f26F ((at_, v.getD (at_.getD 0 0).toNat 0, 0, 0), c, v, base) = some (seqS c v at_ base) := by
  unfold Q.f26F seqS
  dsimp only
  rw [f34_eq hc]
  simp only [Option.bind_some]
  have hp : 0 < at_.length := len_pos_of_ne h0
  have hw : IntKind.i64.wrap ((at_.length : Int) - 1) = ((at_.length - 1 : Nat) : Int) := by rw [wrap_i64 (by omega) (by omega)]; omega
  have hf : at_.getD 0 0 ∈ seenS c := by rw [getD_at 0 hp]; exact hs _ (List.getElem_mem _)
  have hla : at_.getD (at_.length - 1) 0 ∈ seenS c := by rw [getD_at 0 (by omega)]; exact hs _ (List.getElem_mem _)
  have hz : Int.toNat (0 : Int) = 0 := rfl
  simp only [hw, Int.toNat_natCast, hz]
  rw [if_pos (by omega)]
  have hgf : ∀ B : List Int, B = at_ → B.getD 0 0 = at_.getD 0 0 := fun B h => by rw [h]
  generalize hge : at_.getD 0 0 = f at *
  generalize hgl : at_.getD (at_.length - 1) 0 = l at *
  obtain ⟨jf, hjf, hf1, _⟩ := seen_mem hf
  obtain ⟨jl, hjl, hl1, _⟩ := seen_mem hla
  have hsl : (seenS c).length ≤ c.length := sN_len _ _
  obtain ⟨hpf, hpf2⟩ := seen_pos hf
  obtain ⟨hpl, hpl2⟩ := seen_pos hla
  have hsg : ∀ i, i < (seenS c).length → 0 ≤ (seenS c).getD i 0 ∧ (seenS c).getD i 0 < (c.length : Int) := fun i hi => by
    have hm : (seenS c).getD i 0 ∈ seenS c := by rw [getD_at 0 hi]; exact List.getElem_mem hi
    obtain ⟨j, e, h1, _⟩ := seen_mem hm
    omega
  have hiff : ∀ i, i < (seenS c).length → ∀ p, p ∈ seenS c → (((seenS c).getD i 0 == p) = decide (i = posS c p)) := fun i hi p hp => by
    rw [Bool.eq_iff_iff]
    simp only [beq_iff_eq, decide_eq_true_eq]
    constructor
    · intro e; rw [← e, pos_of hi]
    · intro e; rw [e]; exact (seen_pos hp).2
  let ahead : Nat → Int := fun i => if posS c f < i then levS c v f (-1) base else base
  let behind : Nat → Int := fun i => if posS c l < i ∧ (c.getD l.toNat 0 ≠ 10 ∧ opens (c.getD l.toNat 0) = false) then levS c v l 1 base else base
  refine some_of (bind_ex (Q := fun e => e = (ahead (seenS c).length, behind (seenS c).length, at_, v.getD f.toNat 0, 0, 0, 0, 0, 0, [])) (iter_rule (I := fun (s : Int × Int × Int × List Int × Int × Int × Int × Int × Int × Int × List Int) => ∃ i : Nat, i ≤ (seenS c).length ∧ s = (ahead i, behind i, (i : Int), at_, v.getD f.toNat 0, 0, 0, 0, 0, 0, []))
    (fun s => ((seenS c).length - s.2.2.1).toNat) ?_ _ ⟨0, Nat.zero_le _, ?_⟩) ?_)
  rotate_left
  · simp only [ahead, behind, Nat.not_lt_zero, if_false, false_and]; rfl
  · rintro _ rfl
    refine ⟨_, ?_, rfl⟩
    dsimp only
    simp only [f14_dir, Option.bind_some]
    rw [if_pos (c := 0 ≤ l ∧ l < (v.length : Int)) (by omega)]
    simp only [ahead, behind, hpf, hpl, if_true, true_and]
  rintro _ ⟨i, hi, rfl⟩
  by_cases hil : i < (seenS c).length
  rotate_left
  · have : i = (seenS c).length := by omega
    subst this
    right
    dsimp only
    rw [if_neg (by rw [decide_eq_true_eq]; omega)]
    exact ⟨_, rfl, rfl⟩
  left
  have hw1 : IntKind.i64.wrap ((i : Int) + 1) = ((i + 1 : Nat) : Int) := by rw [wrap_i64 (by omega) (by omega)]; omega
  refine ⟨_, ?_, ⟨i + 1, hil, rfl⟩, by simp; omega⟩
  dsimp only
  rw [if_pos (by rw [decide_eq_true_eq]; omega)]
  simp only [Int.toNat_natCast, hw1, hiff i hil f hf, hiff i hil l hla, hge]
  simp (disch := omega) only [if_pos]
  -- ahead
  have hA : ∀ (T : Type) (w : List Int × Int × Int × Int × Int × Int × Int × List Int) (K : Int × List Int × Int × Int × Int × Int × Int × Int × List Int → Option T),
      Option.bind (Option.bind (if decide (i = posS c f) = true then some (decide ((i : Int) > 0), w) else some (false, w)) (fun v3 : Bool × List Int × Int × Int × Int × Int × Int × Int × List Int =>
        if v3.1 = true then if 0 ≤ IntKind.i64.wrap ((i : Int) - 1) ∧ IntKind.i64.wrap ((i : Int) - 1) < ((seenS c).length : Int) then
          if 0 ≤ (seenS c).getD (Int.toNat (IntKind.i64.wrap ((i : Int) - 1))) 0 ∧ (seenS c).getD (Int.toNat (IntKind.i64.wrap ((i : Int) - 1))) 0 < (v.length : Int) then
            some (v.getD ((seenS c).getD (Int.toNat (IntKind.i64.wrap ((i : Int) - 1))) 0).toNat 0, v3.2.1, v3.2.2.1, v3.2.2.2.1, v3.2.2.2.2.1, v3.2.2.2.2.2.1, v3.2.2.2.2.2.2.1, v3.2.2.2.2.2.2.2.1, v3.2.2.2.2.2.2.2.2) else none else none
        else some (ahead i, v3.2.1, v3.2.2.1, v3.2.2.2.1, v3.2.2.2.2.1, v3.2.2.2.2.2.1, v3.2.2.2.2.2.2.1, v3.2.2.2.2.2.2.2.1, v3.2.2.2.2.2.2.2.2))) K = K (ahead (i + 1), w) := by
    intro T w K
    by_cases he : i = posS c f
    · rw [if_pos (by simpa using he)]
      simp only [Option.bind_some]
      by_cases hi0 : i = 0
      · subst hi0
        simp only [ahead, levS, ← he]
        simp
      · have hw0 : IntKind.i64.wrap ((i : Int) - 1) = ((i - 1 : Nat) : Int) := by rw [wrap_i64 (by omega) (by omega)]; omega
        have := hsg (i - 1) (by omega)
        simp (disch := omega) only [if_pos, decide_eq_true_eq, hw0, Int.toNat_natCast]
        have hl : levS c v f (-1) base = v.getD ((seenS c).getD (i - 1) 0).toNat 0 := by
          unfold levS
          rw [if_neg (by omega), ← he, show ((i : Int) + -1).toNat = i - 1 by omega]
        simp only [Option.bind_some, ahead]
        rw [if_pos (by omega), hl]
    · rw [if_neg (by simpa using he)]
      simp only [Option.bind_some, Bool.false_eq_true, if_false, ahead]
      congr 2
      by_cases h1 : posS c f < i
      · rw [if_pos h1, if_pos (by omega)]
      · rw [if_neg h1, if_neg (by omega)]
  rw [hA]
  -- behind
  by_cases he : i = posS c l
  · rw [if_pos (c := decide (i = posS c l) = true) (by simpa using he)]
    by_cases hin : i + 1 < (seenS c).length
    · have := hsg (i + 1) hin
      have hlv : levS c v l 1 base = v.getD ((seenS c).getD (i + 1) 0).toNat 0 := by
        unfold levS
        rw [if_neg (by omega), ← he, show ((i : Int) + 1).toNat = i + 1 by omega]
      rw [if_pos (by rw [decide_eq_true_eq]; omega)]
      cases h10 : (c.getD l.toNat 0 != 10) with
      | false =>
        have h10' : c.getD l.toNat 0 = 10 := by simpa using h10
        simp only [Bool.false_eq_true, if_false, Option.bind_some]
        simp only [behind, h10', ne_eq, not_true, false_and, and_false, if_false]
      | true =>
        have h10' : c.getD l.toNat 0 ≠ 10 := by simpa using h10
        simp only [if_true, f35_eq, Option.bind_some]
        cases ho : opens (c.getD l.toNat 0) with
        | true =>
          simp only [Bool.not_true, Bool.false_eq_true, if_false, Option.bind_some]
          simp only [behind, ho, Bool.true_eq_false, and_false, if_false]
        | false =>
          simp only [Bool.not_false, if_true]
          simp (disch := omega) only [if_pos, Int.toNat_natCast]
          simp only [behind, ho, h10', ne_eq, not_false_eq_true, and_true, true_and]
          rw [if_pos (by omega), hlv]
    · rw [if_neg (by rw [decide_eq_true_eq]; omega)]
      have hlv : levS c v l 1 base = base := by
        unfold levS
        rw [if_pos (by omega)]
      simp only [Option.bind_some, Bool.false_eq_true, if_false]
      simp only [behind, hlv]
      simp
  · rw [if_neg (c := decide (i = posS c l) = true) (by simpa using he)]
    simp only [Option.bind_some, Bool.false_eq_true, if_false]
    have : behind (i + 1) = behind i := by
      simp only [behind]
      by_cases h1 : posS c l < i
      · have h2 : posS c l < i + 1 := by omega
        simp only [h1, h2]
      · have h2 : ¬ posS c l < i + 1 := by omega
        simp only [h1, h2]
    rw [this]
end Go.Sx
