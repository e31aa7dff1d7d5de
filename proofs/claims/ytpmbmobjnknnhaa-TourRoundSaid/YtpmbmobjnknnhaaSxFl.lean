/- Numbers with a point that are whole: what they read as, how they stand to one another, their differences (plain, no program). -/
import Derived.Test.YtpmbmobjnknnhaaSxB
set_option linter.unusedVariables false
set_option linter.unusedSimpArgs false
namespace Go.Sx
def IV (w : Nat) (n : Int) : Prop := ∃ k : Nat, Ieee.double.read w = .number (decide (n < 0)) (n.natAbs * 2 ^ k) (-(k : Int))
theorem log2_lt53 {N : Nat} (h0 : N ≠ 0) (h : N < 2 ^ 53) : N.log2 ≤ 52 := by
  have := (Nat.log2_lt h0).2 h
  omega
theorem log2_shift {N : Nat} (h0 : N ≠ 0) (k : Nat) : (N * 2 ^ k).log2 = N.log2 + k := by
  have h1 : 2 ^ N.log2 ≤ N := Nat.log2_self_le h0
  have h2 : N < 2 ^ (N.log2 + 1) := Nat.lt_log2_self
  have hp : 0 < 2 ^ k := Nat.two_pow_pos k
  have h3 : N * 2 ^ k ≠ 0 := Nat.mul_ne_zero h0 (by omega)
  have a1 : 2 ^ (N.log2 + k) ≤ N * 2 ^ k := by rw [Nat.pow_add]; exact Nat.mul_le_mul_right _ h1
  have a2 : N * 2 ^ k < 2 ^ (N.log2 + k + 1) := by
    rw [show N.log2 + k + 1 = (N.log2 + 1) + k by omega, Nat.pow_add]
    exact Nat.mul_lt_mul_of_pos_right h2 hp
  have b1 : (N * 2 ^ k).log2 < N.log2 + k + 1 := (Nat.log2_lt h3).2 a2
  have b2 : N.log2 + k ≤ (N * 2 ^ k).log2 := (Nat.le_log2 h3).2 a1
  omega
theorem cut_exact (way : Ieee.Toward) (neg : Bool) (K d : Nat) (h : way = .even ∨ way = .zero) : way.cut neg (K * 2 ^ d) d = K := by
  by_cases h0 : K = 0
  · subst h0
    rcases h with rfl | rfl <;> simp [Ieee.Toward.cut, Nat.shiftLeft_eq]
  · have hl : min d ((K * 2 ^ d).log2 + 2) = d := by rw [log2_shift h0]; omega
    have hp : 0 < 2 ^ d := Nat.two_pow_pos d
    unfold Ieee.Toward.cut
    simp only [hl, Nat.shiftLeft_eq, Nat.one_mul, Nat.mul_div_cancel _ hp, Nat.mul_mod_left]
    rcases h with rfl | rfl <;> simp
theorem cut_even {N L k : Nat} (neg : Bool) (_h0 : N ≠ 0) (_hL : N.log2 = L) (h52 : L ≤ 52) :
    Ieee.Toward.even.cut neg ((N * 2 ^ k) <<< (-(k : Int) - ((L : Int) - 52)).toNat) (((L : Int) - 52) - -(k : Int)).toNat = N * 2 ^ (52 - L) := by
  by_cases hk : k ≤ 52 - L
  · have e1 : (-(k : Int) - ((L : Int) - 52)).toNat = 52 - L - k := by omega
    have e2 : (((L : Int) - 52) - -(k : Int)).toNat = 0 := by omega
    rw [e1, e2, Nat.shiftLeft_eq, Nat.mul_assoc, ← Nat.pow_add, show k + (52 - L - k) = 52 - L by omega]
    have := cut_exact .even neg (N * 2 ^ (52 - L)) 0 (.inl rfl)
    simpa using this
  · have e1 : (-(k : Int) - ((L : Int) - 52)).toNat = 0 := by omega
    have e2 : (((L : Int) - 52) - -(k : Int)).toNat = k - (52 - L) := by omega
    rw [e1, e2, Nat.shiftLeft_zero]
    have := cut_exact .even neg (N * 2 ^ (52 - L)) (k - (52 - L)) (.inl rfl)
    rw [Nat.mul_assoc, ← Nat.pow_add, show 52 - L + (k - (52 - L)) = k by omega] at this
    exact this
theorem read_word (neg : Bool) (R : Nat) (h1 : 4503599627370496 ≤ R) (h2 : R < 9218868437227405312) :
    Ieee.double.read (Ieee.double.word neg R) = .number neg (4503599627370496 + R % 4503599627370496) (-1074 + ((R / 4503599627370496 - 1 : Nat) : Int)) := by
  have s1 : Ieee.double.signWeight = 9223372036854775808 := rfl
  have s2 : Ieee.double.binade = 4503599627370496 := rfl
  have s3 : Ieee.double.infRung = 9218868437227405312 := rfl
  have s4 : Ieee.double.leastPlace = -1074 := by decide
  unfold Ieee.Format.read
  simp only [s1, s2, s3, s4]
  have hw : Ieee.double.word neg R / 9223372036854775808 % 2 = (if neg then 1 else 0) ∧ Ieee.double.word neg R % 9223372036854775808 = R := by
    cases neg
    · simp only [Ieee.Format.word, Bool.false_eq_true, if_false]; omega
    · simp only [Ieee.Format.word, if_true, s1]; omega
  rw [hw.1, hw.2, if_neg (by omega), if_pos h2]
  cases neg <;> rfl
theorem rung_arith (L K : Nat) (h52 : L ≤ 52) (k1 : 4503599627370496 ≤ K) (k2 : K < 9007199254740992) :
    min ((L + 1022) * 4503599627370496 + K) 9218868437227405312 = (L + 1022) * 4503599627370496 + K ∧ 4503599627370496 ≤ (L + 1022) * 4503599627370496 + K ∧
    (L + 1022) * 4503599627370496 + K < 9218868437227405312 ∧ 4503599627370496 + ((L + 1022) * 4503599627370496 + K) % 4503599627370496 = K ∧
    (-1074 + ((((L + 1022) * 4503599627370496 + K) / 4503599627370496 - 1 : Nat) : Int)) = -((52 - L : Nat) : Int) := by
  refine ⟨?_, ?_, ?_, ?_, ?_⟩ <;> omega
theorem read_nearest (neg : Bool) (N k : Nat) (h : N < 2 ^ 53) :
    ∃ j : Nat, Ieee.double.read (Ieee.double.nearest neg (N * 2 ^ k) (-(k : Int))) = .number neg (N * 2 ^ j) (-(j : Int)) := by
  by_cases h0 : N = 0
  · subst h0
    refine ⟨1074, ?_⟩
    simp only [Nat.zero_mul, Ieee.Format.nearest, if_true]
    cases neg <;> decide
  · have hM : N * 2 ^ k ≠ 0 := Nat.mul_ne_zero h0 (Nat.ne_of_gt (Nat.two_pow_pos k))
    have h52 := log2_lt53 h0 h
    refine ⟨52 - N.log2, ?_⟩
    have s2 : Ieee.double.binade = 4503599627370496 := rfl
    have s3 : Ieee.double.infRung = 9218868437227405312 := rfl
    have s4 : Ieee.double.leastPlace = -1074 := by decide
    have s5 : (Ieee.double.fractionBits : Int) = 52 := rfl
    have hlast : max (-(k : Int) + ((N * 2 ^ k).log2 : Nat) - 52) (-1074) = (N.log2 : Int) - 52 := by rw [log2_shift h0]; omega
    unfold Ieee.Format.nearest
    simp only [if_neg hM, s2, s3, s4, s5, hlast, cut_even neg h0 rfl h52]
    have g1 : 2 ^ N.log2 ≤ N := Nat.log2_self_le h0
    have g2 : N < 2 ^ (N.log2 + 1) := Nat.lt_log2_self
    have k1 : 4503599627370496 ≤ N * 2 ^ (52 - N.log2) := by
      have := Nat.mul_le_mul_right (2 ^ (52 - N.log2)) g1
      rw [← Nat.pow_add, show N.log2 + (52 - N.log2) = 52 by omega] at this
      exact Nat.le_trans (by decide) this
    have k2 : N * 2 ^ (52 - N.log2) < 9007199254740992 := by
      have := Nat.mul_lt_mul_of_pos_right g2 (Nat.two_pow_pos (52 - N.log2))
      rw [← Nat.pow_add, show N.log2 + 1 + (52 - N.log2) = 53 by omega] at this
      exact Nat.lt_of_lt_of_le this (by decide)
    have e : ((N.log2 : Int) - 52 - -1074).toNat = N.log2 + 1022 := by omega
    rw [e]
    generalize hK : N * 2 ^ (52 - N.log2) = K at k1 k2 ⊢
    generalize N.log2 = L at h52 ⊢
    obtain ⟨q1, q2, q3, q4, q5⟩ := rung_arith L K h52 k1 k2
    rw [q1, read_word neg _ q2 q3, q4, q5]
theorem IV_write {n : Int} (k : Nat) (h : n.natAbs < 2 ^ 53) : IV (Ieee.double.write (.number (decide (n < 0)) (n.natAbs * 2 ^ k) (-(k : Int)))) n := by
  obtain ⟨j, hj⟩ := read_nearest (decide (n < 0)) n.natAbs k h
  exact ⟨j, hj⟩
theorem IV_of {n : Int} (h : n.natAbs < 2 ^ 53) : IV (fOfInt n) n := by
  have := IV_write 0 h
  simpa [fOfInt, FloatKind.nearest, FloatKind.encode, FloatKind.format] using this
theorem signed_iv (n : Int) (k up : Nat) : Ieee.signed (decide (n < 0)) (n.natAbs * 2 ^ k) up = n * 2 ^ (k + up) := by
  have e : ((2 ^ (k + up) : Nat) : Int) = 2 ^ (k + up) := by simp
  unfold Ieee.signed
  rw [Nat.shiftLeft_eq, Nat.mul_assoc, ← Nat.pow_add]
  generalize 2 ^ (k + up) = c at e
  by_cases h : n < 0
  · have : (n.natAbs : Int) = -n := by omega
    simp only [h, decide_true, if_true, Int.natCast_mul, this]
    rw [← e, Int.neg_mul, Int.neg_neg]
  · have : (n.natAbs : Int) = n := by omega
    simp only [h, decide_false, Bool.false_eq_true, if_false, Int.natCast_mul, this]
    rw [← e]
theorem fOrd_iv {a b : Nat} {n m : Int} (ha : IV a n) (hb : IV b m) (o : Ordering) : fOrd a b o = (compare n m == o) := by
  obtain ⟨i, hi⟩ := ha
  obtain ⟨j, hj⟩ := hb
  unfold fOrd Ieee.Format.order
  rw [hi, hj]
  simp only [Ieee.Datum.order, signed_iv]
  generalize hM : max i j = M
  have e1 : i + (-(i : Int) - min (-(i : Int)) (-(j : Int))).toNat = M := by omega
  have e2 : j + (-(j : Int) - min (-(i : Int)) (-(j : Int))).toNat = M := by omega
  rw [e1, e2]
  have hp : (0 : Int) < 2 ^ M := Int.pow_pos (by omega)
  have : compare (n * 2 ^ M) (m * 2 ^ M) = compare n m := by
    simp only [compare, compareOfLessAndEq]
    have h1 : (n * 2 ^ M < m * 2 ^ M) ↔ n < m := Int.mul_lt_mul_right hp
    have h2 : (n * 2 ^ M = m * 2 ^ M) ↔ n = m := ⟨fun h => Int.eq_of_mul_eq_mul_right (by omega) h, fun h => by rw [h]⟩
    simp only [h1, h2]
  rw [this]
  cases compare n m <;> cases o <;> rfl
theorem fDiff_iv {a b : Nat} {n m : Int} (ha : IV a n) (hb : IV b m) (h : (n - m).natAbs < 2 ^ 53) : fOk a b ∧ IV (fDiff a b) (n - m) := by
  obtain ⟨i, hi⟩ := ha
  obtain ⟨j, hj⟩ := hb
  have hopp : (Ieee.double.read b).opposite = .number (!decide (m < 0)) (m.natAbs * 2 ^ j) (-(j : Int)) := by rw [hj]; rfl
  have hneg : ∀ up, Ieee.signed (!decide (m < 0)) (m.natAbs * 2 ^ j) up = -(m * 2 ^ (j + up)) := by
    intro up
    have := signed_iv m j up
    unfold Ieee.signed at this ⊢
    cases hd : decide (m < 0) <;> simp only [hd, Bool.not_false, Bool.not_true, Bool.false_eq_true, if_true, if_false] at this ⊢ <;> omega
  generalize hM : max i j = M
  have e1 : i + (-(i : Int) - min (-(i : Int)) (-(j : Int))).toNat = M := by omega
  have e2 : j + (-(j : Int) - min (-(i : Int)) (-(j : Int))).toNat = M := by omega
  have e3 : min (-(i : Int)) (-(j : Int)) = -(M : Int) := by omega
  have hp : (0 : Int) < 2 ^ M := Int.pow_pos (by omega)
  have ht : n * 2 ^ M + -(m * 2 ^ M) = (n - m) * 2 ^ M := by rw [Int.sub_mul]; omega
  have hs : Ieee.double.sub a b = some (Ieee.double.write (.number (decide (n - m < 0)) ((n - m).natAbs * 2 ^ M) (-(M : Int)))) := by
    unfold Ieee.Format.sub
    rw [hi, hopp]
    simp only [Ieee.Datum.sum, signed_iv, hneg, e1, e2, ht, Option.map_some]
    congr 2
    rw [e3]
    have hz : ((n - m) * 2 ^ M = 0) ↔ n - m = 0 := by
      constructor
      · intro h'
        rcases Int.mul_eq_zero.1 h' with h' | h'
        · exact h'
        · omega
      · intro h'; rw [h', Int.zero_mul]
    have hl : ((n - m) * 2 ^ M < 0) ↔ n - m < 0 := by
      constructor
      · intro h'
        by_cases hx : n - m < 0
        · exact hx
        · have := Int.mul_nonneg (show 0 ≤ n - m by omega) (Int.le_of_lt hp)
          omega
      · intro h'
        exact Int.mul_neg_of_neg_of_pos h' hp
    have ha : ((n - m) * 2 ^ M).natAbs = (n - m).natAbs * 2 ^ M := by
      rw [Int.natAbs_mul]
      congr 1
    congr 1
    · by_cases h0 : n - m = 0
      · rw [if_pos (hz.2 h0)]
        have : n = m := by omega
        subst this
        simp
      · rw [if_neg (fun e => h0 (hz.1 e))]
        simp only [hl]
  refine ⟨by unfold fOk; rw [hs]; rfl, ?_⟩
  unfold fDiff
  rw [hs]
  exact IV_write M h
def fTrunc (a : Nat) : Nat := Ieee.double.write ((Ieee.double.read a).integral .zero)
theorem fTrunc_iv {a : Nat} {n : Int} (ha : IV a n) (h : n.natAbs < 2 ^ 53) : IV (fTrunc a) n := by
  obtain ⟨i, hi⟩ := ha
  unfold fTrunc
  rw [hi]
  simp only [Ieee.Datum.integral]
  have e1 : (-(i : Int)).toNat = 0 := by omega
  have e2 : (-(-(i : Int))).toNat = i := by omega
  rw [e1, e2, Nat.shiftLeft_zero, cut_exact .zero _ _ _ (.inr rfl)]
  have := IV_write 0 h
  simpa using this
theorem IV_null (k : Nat) (h : Ieee.double.read 0 = .number false 0 (-(k : Int))) : IV 0 0 := ⟨k, h.trans (by simp)⟩
theorem IV_zero : IV 0 0 := IV_null 1074 (by decide)
theorem IV_top : IV 4697254411347427328 1048576 := ⟨32, by decide⟩
end Go.Sx
