/- Dfa: states that are found, and gone on from. -/
import Derived.Test.YtjmmbgjdfmceeaaSxDb
set_option linter.unusedVariables false
set_option linter.unusedSimpArgs false
namespace Go.Sx
abbrev TEd : Ty := .st (.pair (.int .i64) (.int .i64))
abbrev TO : Ty := .st (.pair (.sl (.int .i64)) (.pair .bool (.osl TEd)))
abbrev StO := List Int × Bool × Bool × List (Int × Int)
def dO : StO := ([], false, false, [])
def owS (s : StD) : StO := (s.1, s.2.1, true, s.2.2)
def ow (S : List StD) : List StO := S.map owS
theorem er_one (s : StD) : Ty.erD TO (owS s) = s := rfl
theorem er_ow (S : List StD) : (ow S).map (Ty.erD TO) = S := by
  unfold ow
  rw [List.map_map]
  have : (Ty.erD TO ∘ owS) = id := funext er_one
  rw [this, List.map_id]
theorem ow_len (S : List StD) : (ow S).length = S.length := by simp [ow]
theorem ow_snoc (S : List StD) (s : StD) : ow (S ++ [s]) = ow S ++ [owS s] := by simp [ow]
structure Small (S : List StD) (N : Nat) : Prop where
  len : S.length ≤ 1000
  at_ : ∀ s ∈ S, s.1.length ≤ 1000
  ed : ∀ s ∈ S, s.2.2.length ≤ N
theorem d53_eq {p : List Inst} {most fl : Int} {S : List StD} {N : Nat} (hS : Small S N) (hfl : -1000000 ≤ fl ∧ fl ≤ 1000000) {A : List Int} (hA : A.length ≤ 100000) (b : Bool) :
    D.f53F (A, b, p, most, fl, ow S) = some ((findS most S fl A b).2.2.1, (findS most S fl A b).2.2.2, p, most, (findS most S fl A b).2.1, ow (findS most S fl A b).1) := by
  unfold D.f53F
  dsimp only
  rw [er_ow, d82_eq A b (by have := hS.len; omega) (fun s hs => by have := hS.at_ s hs; omega)]
  simp only [Option.bind_some]
  unfold findS
  by_cases hk : knownS S A b ≠ -1
  · rw [if_pos (by rw [bne_iff_ne]; exact hk), if_pos hk]
  · have hk' : knownS S A b = -1 := Decidable.byContradiction hk
    rw [hk', if_neg (c := ((-1 : Int) != -1) = true) (by simp), if_neg (c := (-1 : Int) ≠ -1) (by simp)]
    have hlen := hS.len
    rw [ow_len, d80_eq hA]
    by_cases hm : (S.length : Int) = most
    · rw [if_pos (by simpa using hm), if_pos hm, if_pos (by constructor <;> omega)]
      simp only [Option.bind_some, List.take_zero, show Int.toNat 0 = 0 from rfl]
      rw [if_pos (by unfold roomOk; simp), wrap_i64 (x := fl + 1) (by omega) (by omega)]
      have he : ((S.length : Int) == most) = true := by simpa using hm
      rw [he]
      rfl
    · rw [if_neg (by simpa using hm), if_neg hm]
      simp only [Option.bind_some]
      rw [if_pos (by unfold roomOk; simp only [ow_len]; omega)]
      have he : ((S.length : Int) == most) = false := by simpa using hm
      have hw : IntKind.i64.wrap ((((ow S ++ [(A, b, true, ([] : List (Int × Int)))]).length : Nat) : Int) - 1) = (S.length : Int) := by
        have hl2 : (ow S ++ [(A, b, true, ([] : List (Int × Int)))]).length = S.length + 1 := by rw [List.length_append, ow_len]; rfl
        rw [hl2, wrap_i64 (by omega) (by omega)]; omega
      rw [he, hw, ow_snoc]
      rfl
end Go.Sx
