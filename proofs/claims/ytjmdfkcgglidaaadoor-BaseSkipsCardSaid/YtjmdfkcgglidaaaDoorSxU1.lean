import Derived.Test.YtjmdfkcgglidaaaDoorSxT2
import Derived.Test.YtjmdfkcgglidaaaDoorSxS
set_option linter.unusedVariables false
set_option linter.unusedSimpArgs false
namespace Go.Sx
theorem f38_lit : G.f38F [19, 20, 21] = some 3670016 := by
  unfold G.f38F
  rw [iter_of_iterN (n := 4) (e := 3670016) (by rfl)]
  rfl
theorem f37_lit : ∀ n : Nat, n < 23 → G.f37F ((n : Int), 3670016) = some (n == 19 || n == 20 || n == 21) := by
  unfold G.f37F
  decide +kernel
def opens (c : Int) : Bool := c == 19 || c == 20 || c == 21
theorem f32_eq (c : Int) : G.f32F c = some (opens c) := by
  unfold G.f32F
  rw [f38_lit]
  show (G.f37F (c, 3670016)).bind _ = _
  by_cases h0 : 0 ≤ c
  · by_cases h1 : c < 23
    · obtain ⟨n, rfl⟩ := Int.eq_ofNat_of_zero_le h0
      have hn : n < 23 := by omega
      rw [f37_lit n hn]
      simp only [Option.bind_some, opens]
      congr 1
      have e1 : ((n : Int) == 19) = (n == 19) := by rw [Bool.eq_iff_iff]; simp; omega
      have e2 : ((n : Int) == 20) = (n == 20) := by rw [Bool.eq_iff_iff]; simp; omega
      have e3 : ((n : Int) == 21) = (n == 21) := by rw [Bool.eq_iff_iff]; simp; omega
      rw [e1, e2, e3]
    · have : G.f37F (c, 3670016) = some false := by
        unfold G.f37F
        simp [show c ≥ 0 by omega, show ¬ c ≤ 22 by omega]
      rw [this]
      simp [opens]
      omega
  · have : G.f37F (c, 3670016) = some false := by
      unfold G.f37F
      simp [h0]
    rw [this]
    simp [opens]
    omega
theorem toList_data (b : ByteArray) : b.toList = b.data.toList := by
  unfold ByteArray.toList
  have hsz : b.data.toList.length = b.size := Array.length_toList
  have key : ∀ (n i : Nat) (r : List UInt8), b.size - i = n → ByteArray.toList.loop b i r = r.reverse ++ b.data.toList.drop i := by
    intro n
    induction n with
    | zero =>
      intro i r h
      unfold ByteArray.toList.loop
      rw [if_neg (by omega), List.drop_of_length_le (by rw [hsz]; omega)]
      simp
    | succ n ih =>
      intro i r h
      unfold ByteArray.toList.loop
      rw [if_pos (by omega), ih (i + 1) _ (by omega)]
      have hi : i < b.data.toList.length := by rw [hsz]; omega
      rw [List.drop_eq_getElem_cons hi]
      simp [ByteArray.get!, getElem!_pos b.data i (by simpa using hi)]
  simpa using key b.size 0 [] rfl
def strongS (c : Int) : Int := if c = 1 ∨ c = 2 then 1 else if c = 0 ∨ c < 0 ∨ 23 ≤ c then 0 else -1
theorem f39_lit : ∀ n : Nat, n < 23 → G.f39F (n : Int) = some (strongS n) := by
  have hw : ∀ n : Nat, n < 23 → (G.words[n]?.getD ByteArray.empty).data.isEmpty = false := by decide +kernel
  intro n hn
  unfold G.f39F G.f49F
  have h1 := hw n hn
  simp only [toList_data]
  by_cases a1 : n = 1
  · subst a1; simp [strongS]
  · by_cases a2 : n = 2
    · subst a2; simp [strongS]
    · by_cases a0 : n = 0
      · subst a0; simp [strongS]
      · have b0 : ¬ (n : Int) = 0 := by omega
        have b1 : ¬ (n : Int) = 1 := by omega
        have b2 : ¬ (n : Int) = 2 := by omega
        have b3 : ¬ (n : Int) < 0 := by omega
        have b4 : ¬ (23 : Int) ≤ n := by omega
        have b5 : (n : Int) < 23 := by omega
        simp [strongS, b0, b1, b2, b3, b4, b5, h1, a0]
theorem f39_eq (c : Int) : G.f39F c = some (strongS c) := by
  by_cases h0 : 0 ≤ c
  · by_cases h1 : c < 23
    · obtain ⟨n, rfl⟩ := Int.eq_ofNat_of_zero_le h0
      exact f39_lit n (by omega)
    · unfold G.f39F G.f49F
      have b1 : ¬ c = 1 := by omega
      have b2 : ¬ c = 2 := by omega
      have b0 : ¬ c = 0 := by omega
      simp [strongS, b0, b1, b2, show ¬ c < 0 by omega, show 23 ≤ c by omega, toList_data]
  · unfold G.f39F G.f49F
    have b1 : ¬ c = 1 := by omega
    have b2 : ¬ c = 2 := by omega
    have b0 : ¬ c = 0 := by omega
    simp [strongS, b0, b1, b2, show c < 0 by omega, toList_data]
end Go.Sx
