/- Token, plain: signs, groups, escapes, what the reader's small functions are. -/
import Derived.Test.YtemngcdlgnconaaSxTKa
set_option linter.unusedVariables false
set_option linter.unusedSimpArgs false
namespace Go.Sx
abbrev TknT := Int × Int × Int × Int × Int
abbrev RdT := List Int × Int × List TknT
def isSign (c : Int) : Bool := [46, 40, 41, 124, 94, 36, 63, 42, 43, 123, 125, 91, 93, 45, 47, 92].contains c
def isGrp (c : Int) : Bool := [100, 119, 115, 68, 87, 83].contains c
def isDig (c : Int) : Bool := decide (48 ≤ c) && decide (c ≤ 57)
theorem signs_all : ∀ n, n < 128 → decide (firstIdx ⟨#[46, 40, 41, 124, 94, 36, 63, 42, 43, 123, 125, 91, 93, 45, 47, 92]⟩ (n : Nat).toUInt8 ≥ 0) = isSign (n : Int) := by decide +kernel
theorem grps_all : ∀ n, n < 128 → decide (firstIdx ⟨#[100, 119, 115, 68, 87, 83]⟩ (n : Nat).toUInt8 ≥ 0) = isGrp (n : Int) := by decide +kernel
theorem digs_all : ∀ n, n < 128 → decide (firstIdx ⟨#[48, 49, 50, 51, 52, 53, 54, 55, 56, 57]⟩ (n : Nat).toUInt8 ≥ 0) = isDig (n : Int) := by decide +kernel
theorem z68_eq (s : ByteArray) (c : Int) : Z.f68F (s, c) = some (firstIdx s c.toNat.toUInt8) := rfl
theorem z45_of {s : ByteArray} {f : Int → Bool} (h : ∀ n, n < 128 → decide (firstIdx s (n : Nat).toUInt8 ≥ 0) = f (n : Int)) (hout : ∀ c, ¬ (0 ≤ c ∧ c < 128) → f c = false) (c : Int) : Z.f45F (c, s) = some (f c) := by
  unfold Z.f45F
  dsimp only
  by_cases h0 : c ≥ 0
  · rw [if_pos (by rw [decide_eq_true_eq]; exact h0)]
    by_cases h1 : c < 128
    · rw [if_pos (by rw [decide_eq_true_eq]; exact h1), wrap_u8 (by omega) (by omega), z68_eq]
      obtain ⟨n, rfl⟩ := Int.eq_ofNat_of_zero_le h0
      simp only [Option.bind_some]
      congr 1
      rw [Int.toNat_natCast]
      exact h n (by omega)
    · rw [if_neg (by rw [decide_eq_true_eq]; exact h1), hout c (by omega)]
  · rw [if_neg (by rw [decide_eq_true_eq]; exact h0), hout c (by omega)]
theorem isSign_in {c : Int} (h : ¬ (0 ≤ c ∧ c < 128)) : isSign c = false := by
  unfold isSign
  simp only [List.contains_eq_mem, List.mem_cons, List.not_mem_nil, or_false, decide_eq_false_iff_not]
  omega
theorem isGrp_in {c : Int} (h : ¬ (0 ≤ c ∧ c < 128)) : isGrp c = false := by
  unfold isGrp
  simp only [List.contains_eq_mem, List.mem_cons, List.not_mem_nil, or_false, decide_eq_false_iff_not]
  omega
theorem isDig_in {c : Int} (h : ¬ (0 ≤ c ∧ c < 128)) : isDig c = false := by
  unfold isDig
  simp only [Bool.and_eq_false_iff, decide_eq_false_iff_not]
  omega
theorem z20_eq (c : Int) : Z.f20F c = some (isSign c) := by
  unfold Z.f20F
  rw [z45_of signs_all (fun c h => isSign_in h)]
  rfl
def escM (c : Int) : Int × Bool × Bool :=
  if c = 110 then (10, false, true) else if c = 116 then (9, false, true) else if isGrp c = true then (c, true, true) else if isSign c = true then (c, false, true) else (0, false, false)
theorem z19_eq (c : Int) : Z.f19F c = some (escM c) := by
  unfold Z.f19F escM
  rw [z45_of grps_all (fun c h => isGrp_in h), z20_eq]
  simp only [Option.bind_some, beq_iff_eq]
  split
  · rfl
  · split
    · rfl
    · split
      · rfl
      · split <;> rfl
section
variable {l : List Int} {i : Nat} {t : List TknT}
theorem tgetD {l : List Int} {i : Nat} (h : i < l.length) : l.getD i 0 = l[i] := by simp [List.getD_eq_getElem?_getD, h]
theorem z64_eq (c : Int) (hl : l.length ≤ 1000) (hi : i ≤ l.length) : Z.f64F (c, l, (i : Int), t) = some (if l[i]? = some c then (true, l, ((i + 1 : Nat) : Int), t) else (false, l, (i : Int), t)) := by
  unfold Z.f64F
  dsimp only
  by_cases h : i < l.length
  · rw [if_pos (by rw [decide_eq_true_eq]; omega), if_pos (by omega), Int.toNat_natCast, tgetD h, List.getElem?_eq_getElem h]
    simp only [Option.bind_some, Option.some.injEq]
    by_cases hc : l[i] = c
    · rw [if_pos (by rw [beq_iff_eq]; exact hc), if_pos hc, wrap_i64 (by omega) (by omega)]
      push_cast
      rfl
    · rw [if_neg (by rw [beq_iff_eq]; exact hc), if_neg hc]
  · rw [if_neg (by rw [decide_eq_true_eq]; omega), List.getElem?_eq_none (by omega)]
    simp
theorem z65_eq (k : TknT) (ht : t.length ≤ 1000) : Z.f65F (k, l, (i : Int), t) = some (l, (i : Int), t ++ [k]) := by
  unfold Z.f65F
  dsimp only
  rw [if_pos (by unfold roomOk; omega)]
theorem z70_eq (hi : i ≤ l.length) : Z.f70F (l, (i : Int), t) = some (match l[i]? with
    | some c => .inl c
    | none => .inr ((i : Int), 4)) := by
  unfold Z.f70F
  dsimp only
  by_cases h : i < l.length
  · rw [if_neg (by rw [decide_eq_true_eq]; omega), if_pos (by omega), Int.toNat_natCast, tgetD h, List.getElem?_eq_getElem h]
  · rw [if_pos (by rw [decide_eq_true_eq]; omega), List.getElem?_eq_none (by omega)]
def charM (l : List Int) (i : Nat) : (Int × Bool × Nat) ⊕ (Nat × Int) :=
  match l[i]? with
  | none => .inr (i, 4)
  | some c => if c = 92 then (match l[i + 1]? with
      | none => .inr (i + 1, 4)
      | some d => if (escM d).2.2 = true then .inl ((escM d).1, (escM d).2.1, i + 2) else .inr (i, 6))
    else .inl (c, false, i + 1)
theorem z80_eq (hl : l.length ≤ 1000) (hi : i ≤ l.length) : Z.f80F (l, (i : Int), t) = some (Sum.map (fun r => (r.1, r.2.1, l, (r.2.2 : Int), t)) (fun r => ((r.1 : Int), r.2)) (charM l i)) := by
  unfold Z.f80F charM
  dsimp only
  rw [z70_eq hi]
  simp only [Option.bind_some]
  cases hc : l[i]? with
  | none => rfl
  | some c =>
    have hlt : i < l.length := (List.getElem?_eq_some_iff.1 hc).1
    have hw : IntKind.i64.wrap ((i : Int) + 1) = ((i + 1 : Nat) : Int) := by rw [wrap_i64 (by omega) (by omega)]; push_cast; rfl
    have hw2 : IntKind.i64.wrap (((i + 1 : Nat) : Int) + 1) = ((i + 2 : Nat) : Int) := by rw [wrap_i64 (by omega) (by omega)]; push_cast; omega
    simp only [Sum.elim_inl, hw]
    by_cases h : c = 92
    · rw [if_neg (by simp [h]), if_pos h, z70_eq (by omega)]
      simp only [Option.bind_some]
      cases hd : l[i + 1]? with
      | none => rfl
      | some d =>
        simp only [Sum.elim_inl, z19_eq, Option.bind_some, hw2]
        cases hk : (escM d).2.2 with
        | true => rfl
        | false => rfl
    · rw [if_pos (by simpa using h), if_neg h]
      rfl
def singleM (l : List Int) (i : Nat) : (TknT × Nat) ⊕ (Nat × Int) :=
  match charM l i with
  | .inl r => .inl ((if r.2.1 = true then 12 else 1, r.1, 0, 0, (i : Int)), r.2.2)
  | .inr r => .inr r
theorem z69_eq (hl : l.length ≤ 1000) (hi : i ≤ l.length) : Z.f69F (l, (i : Int), t) = some (Sum.map (fun r => (r.1, l, (r.2 : Int), t)) (fun r => ((r.1 : Int), r.2)) (singleM l i)) := by
  unfold Z.f69F singleM
  dsimp only
  rw [z80_eq hl hi]
  simp only [Option.bind_some]
  cases charM l i with
  | inl r =>
    obtain ⟨c, g, j⟩ := r
    cases g <;> rfl
  | inr r => rfl
end
end Go.Sx
