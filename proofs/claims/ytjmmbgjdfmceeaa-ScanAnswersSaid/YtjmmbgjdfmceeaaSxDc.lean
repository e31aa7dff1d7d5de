/- Dfa: states that are found, and gone on from. -/
import Derived.Test.YtjmmbgjdfmceeaaSxDb
set_option linter.unusedVariables false
set_option linter.unusedSimpArgs false
namespace Go.Sx
abbrev TEd : Ty := .st (.pair (.int .i64) (.int .i64))
abbrev TO : Ty := .st (.pair (.sl (.int .i64)) (.pair .bool (.osl TEd)))
abbrev StO := List Int × Bool × Bool × List (Int × Int)
def dO : StO := ([], false, false, [])
def owS (s : StD) : StO := (s.1, s.2.1, true, s.2.2)
def ow (S : List StD) : List StO := S.map owS
theorem er_one (s : StD) : Ty.erD TO (owS s) = s := rfl
theorem er_ow (S : List StD) : (ow S).map (Ty.erD TO) = S := by
  unfold ow
  rw [List.map_map]
  have : (Ty.erD TO ∘ owS) = id := funext er_one
  rw [this, List.map_id]
theorem ow_len (S : List StD) : (ow S).length = S.length := by simp [ow]
theorem ow_get {S : List StD} {i : Nat} (h : i < S.length) : (ow S).getD i dO = owS (S.getD i dSt) := by
  rw [getD_lt _ _ (by rw [ow_len]; exact h), getD_lt _ _ h]
  simp [ow]
theorem ow_snoc (S : List StD) (s : StD) : ow (S ++ [s]) = ow S ++ [owS s] := by simp [ow]
theorem ow_set (S : List StD) (i : Nat) (s : StD) : (ow S).set i (owS s) = ow (S.set i s) := by
  unfold ow
  rw [List.map_set]
structure Small (S : List StD) (N : Nat) : Prop where
  len : S.length ≤ 1000
  at_ : ∀ s ∈ S, s.1.length ≤ 1000
  ed : ∀ s ∈ S, s.2.2.length ≤ N
theorem d53_eq {p : List Inst} {most fl : Int} {S : List StD} {N : Nat} (hS : Small S N) (hfl : -1000000 ≤ fl ∧ fl ≤ 1000000) {A : List Int} (hA : A.length ≤ 100000) (b : Bool) :
    D.f53F (A, b, p, most, fl, ow S) = some ((findS most S fl A b).2.2.1, (findS most S fl A b).2.2.2, p, most, (findS most S fl A b).2.1, ow (findS most S fl A b).1) := by
  unfold D.f53F
  dsimp only
  rw [er_ow, d82_eq A b (by have := hS.len; omega) (fun s hs => by have := hS.at_ s hs; omega)]
  simp only [Option.bind_some]
  unfold findS
  by_cases hk : knownS S A b ≠ -1
  · rw [if_pos (by rw [bne_iff_ne]; exact hk), if_pos hk]
  · have hk' : knownS S A b = -1 := Decidable.byContradiction hk
    rw [hk', if_neg (c := ((-1 : Int) != -1) = true) (by simp), if_neg (c := (-1 : Int) ≠ -1) (by simp)]
    have hlen := hS.len
    rw [ow_len, d80_eq hA]
    by_cases hm : (S.length : Int) = most
    · rw [if_pos (by simpa using hm), if_pos hm, if_pos (by constructor <;> omega)]
      simp only [Option.bind_some, List.take_zero, show Int.toNat 0 = 0 from rfl]
      rw [if_pos (by unfold roomOk; simp), wrap_i64 (x := fl + 1) (by omega) (by omega)]
      have he : ((S.length : Int) == most) = true := by simpa using hm
      rw [he]
      rfl
    · rw [if_neg (by simpa using hm), if_neg hm]
      simp only [Option.bind_some]
      rw [if_pos (by unfold roomOk; simp only [ow_len]; omega)]
      have he : ((S.length : Int) == most) = false := by simpa using hm
      have hw : IntKind.i64.wrap ((((ow S ++ [(A, b, true, ([] : List (Int × Int)))]).length : Nat) : Int) - 1) = (S.length : Int) := by
        have hl2 : (ow S ++ [(A, b, true, ([] : List (Int × Int)))]).length = S.length + 1 := by rw [List.length_append, ow_len]; rfl
        rw [hl2, wrap_i64 (by omega) (by omega)]; omega
      rw [he, hw, ow_snoc]
      rfl
theorem find_of_idx {α : Type} (d : α) (q : α → Bool) : ∀ l : List α, l.find? q = (match l.findIdx? q with
  | some k => some (l.getD k d)
  | none => none)
  | [] => rfl
  | a :: l => by
    rw [List.find?_cons, List.findIdx?_cons]
    cases hq : q a with
    | true => rfl
    | false =>
      rw [find_of_idx d q l]
      simp only [Bool.false_eq_true, if_false]
      cases l.findIdx? q with
      | none => rfl
      | some k => rfl
theorem d86_eq (e : Int × Int) (c : Int) : D.f86F (e, c) = some (e.1 == c, c) := by
  unfold D.f86F
  rfl
theorem ds11_eq (E : List (Int × Int)) (c : Int) (hl : E.length ≤ 9223372036854775807) : D.s11F (E, c) = some ((match E.findIdx? (fun e => e.1 == c) with
  | some k => (k : Int)
  | none => -1), c) := by
  unfold D.s11F
  obtain ⟨r, h1, h2⟩ := idx_rule E (0, 0) (fun e : Int × Int => e.1 == c) c (fun x => D.f86F (x.1, x.2)) hl (fun e he => d86_eq e c)
  refine Eq.trans h1 ?_
  rw [h2]
  generalize E.findIdx? (fun e => e.1 == c) = o
  cases o <;> rfl
theorem findS_keep {most fl : Int} {S : List StD} {A : List Int} {b : Bool} (h : (findS most S fl A b).2.2.2 = false) : ∃ X, (findS most S fl A b).1 = S ++ X := by
  unfold findS at h ⊢
  by_cases hk : knownS S A b ≠ -1
  · rw [if_pos hk]; exact ⟨[], by simp⟩
  · rw [if_neg hk] at h ⊢
    by_cases hm : (S.length : Int) = most
    · rw [if_pos hm] at h; cases h
    · rw [if_neg hm]; exact ⟨_, rfl⟩
theorem add_edge {T : List StD} {i : Nat} (hi : i < T.length) (c to : Int) (x : StO) (hx : x = ((owS (T.getD i dSt)).1, (owS (T.getD i dSt)).2.1, false, (owS (T.getD i dSt)).2.2.2)) :
    ((ow T).set i x).set i ((((ow T).set i x).getD i dO).1, (((ow T).set i x).getD i dO).2.1, true, (owS (T.getD i dSt)).2.2.2 ++ [(c, to)]) = ow (T.set i (edgeS (T.getD i dSt) c to)) := by
  have hg : ((ow T).set i x).getD i dO = x := by
    rw [getD_lt _ _ (by rw [List.length_set, ow_len]; exact hi)]; simp
  rw [hg, List.set_set, hx, ← ow_set]
  rfl
theorem d55_eq {p : List Inst} (hp : rightS p = true) (hr : ranged p) {most fl : Int} {S : List StD} {N : Nat} (hS : Small S N) (hN : N ≤ 1000000) (hfl : -1000000 ≤ fl ∧ fl ≤ 1000000) {i : Nat} (hi : i < S.length) (c : Int) :
    D.f55F ((i : Int), c, p, most, fl, ow S) = some ((nextS p most S fl i c).2.2, p, most, (nextS p most S fl i c).2.1, ow (nextS p most S fl i c).1) := by
  obtain ⟨_, _, hp1000⟩ := rightS_last hp
  have hs : S.getD i dSt ∈ S := by rw [getD_lt _ _ hi]; exact List.getElem_mem _
  have hat := hS.at_ _ hs
  have hed := hS.ed _ hs
  have hlen := hS.len
  have hdo : (([] : List Int), false, false, ([] : List (Int × Int))) = dO := rfl
  unfold D.f55F
  dsimp only
  rw [ow_len, if_pos (by omega)]
  simp only [Int.toNat_natCast, hdo, ow_get hi]
  unfold nextS
  generalize hse : S.getD i dSt = s at *
  have e1 : (owS s).2.2.2 = s.2.2 := rfl
  have e2 : (owS s).1 = s.1 := rfl
  have e3 : (owS s).2.1 = s.2.1 := rfl
  rw [e1, ds11_eq _ c (by omega), find_of_idx (0, 0)]
  cases hf : s.2.2.findIdx? fun e => e.1 == c with
  | some k =>
    have hk := (List.findIdx?_eq_some_iff_getElem.1 hf).1
    simp only [Option.bind_some]
    have e4 : (Ty.erD TO (owS s)).2.2 = s.2.2 := rfl
    rw [if_pos (by rw [decide_eq_true_eq]; omega), e4, if_pos (by omega), Int.toNat_natCast]
  | none =>
    simp only [Option.bind_some]
    rw [if_neg (by simp), er_ow]
    have e5 : ((owS s).1, (owS s).2.1, s.2.2) = s := rfl
    rw [e5, d87_eq hp hr s c (by omega)]
    simp only [Option.bind_some]
    have hbl : (behS p s c).length ≤ 1000 := by
      unfold behS
      have h1 := moveS_len p (reachS p s.1 s.2.1 false) c
      have h2 := reachS_len p s.1 s.2.1 false
      omega
    have hown : ∀ (T : List StD), i < T.length → ownedP ((ow T).getD i dO).2.2.1 := fun T hT => by rw [ow_get hT]; rfl
    by_cases hb : behS p s c = []
    · rw [if_pos hb, hb, if_neg (by simp)]
      simp only [Option.bind_some, Bool.not_false, if_true]
      rw [ow_len, if_pos (by omega), if_pos (hown S hi), if_pos (by rw [ow_get hi, hse]; unfold roomOk; show (s.2.2.length + 1) * 16 ≤ _; omega)]
      have := add_edge hi c (-1) _ rfl
      rw [hse] at this
      rw [← this]
      simp only [ow_get hi, hse]
    · have hbp : 0 < (behS p s c).length := List.length_pos_iff.2 hb
      rw [if_neg hb, if_pos (by rw [decide_eq_true_eq]; omega), d53_eq hS hfl (by omega) false]
      simp only [Option.bind_some]
      cases hw : (findS most S fl (behS p s c) false).2.2.2 with
      | true => simp
      | false =>
        obtain ⟨X, hX⟩ := findS_keep hw
        have hiT : i < (findS most S fl (behS p s c) false).1.length := by rw [hX, List.length_append]; omega
        have hgT : (findS most S fl (behS p s c) false).1.getD i dSt = s := by
          rw [hX, ← hse, getD_lt _ _ (by rw [List.length_append]; omega), getD_lt _ _ hi, List.getElem_append_left hi]
        simp only [Bool.not_false, if_true, Bool.false_eq_true, if_false]
        generalize (findS most S fl (behS p s c) false).1 = T at *
        rw [ow_len, if_pos (by omega), if_pos (hown T hiT), if_pos (by rw [ow_get hiT, hgT]; unfold roomOk; show (s.2.2.length + 1) * 16 ≤ _; omega)]
        have := add_edge hiT c (findS most S fl (behS p s c) false).2.2.1 _ rfl
        rw [hgT] at this ⊢
        rw [← this]
        simp only [ow_get hiT, hgT]
end Go.Sx
