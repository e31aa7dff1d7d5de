/- Dfa: the program's own copy; what is found by it. -/
import Derived.Test.YtjmmbgjdfmceeaaSxDd
set_option linter.unusedVariables false
set_option linter.unusedSimpArgs false
namespace Go.Sx
theorem someD {A : Type} {x : Option A} {y : A} (h : ∃ r, x = some r ∧ r = y) : x = some y := by
  obtain ⟨r, h1, rfl⟩ := h; exact h1
def liS (s : StD) : StO := (s.1, s.2.1, false, s.2.2)
theorem d79_eq {S : List StD} (hl : S.length ≤ 100000) : D.f79F S = some (S.map liS) := by
  unfold D.f79F
  have hr : roomOk (0 + S.length) 56 := by unfold roomOk; omega
  have hmap : ∀ R : List StD, R.map (Ty.lift TO) = R.map liS := fun R => rfl
  cases S with
  | nil =>
    rw [if_pos (by rfl), if_pos (by exact hr)]
    unfold agree
    rw [if_pos (by rfl)]
    rfl
  | cons a r =>
    rw [if_neg (by simp)]
    have hlen : ((a :: r).map (Ty.lift TO)).length = (a :: r).length := by rw [List.length_map]
    rw [if_pos (by rw [hlen]; exact hr)]
    rfl
theorem d81_eq {E : List (Int × Int)} (hl : E.length ≤ 1000000) : D.f81F E = some E := by
  unfold D.f81F
  have hr : roomOk (0 + E.length) 16 := by unfold roomOk; omega
  cases E with
  | nil =>
    rw [if_pos (by rfl), if_pos (by exact hr)]
    unfold agree
    rw [if_pos (by rfl)]
  | cons a r => rw [if_neg (by simp), if_pos hr]; rfl
def mixS (S : List StD) (k : Nat) : List StO := (S.take k).map owS ++ (S.drop k).map liS
theorem mixS_len (S : List StD) (k : Nat) : (mixS S k).length = S.length := by
  unfold mixS
  rw [List.length_append, List.length_map, List.length_map, List.length_take, List.length_drop]
  omega
theorem mixS_get {S : List StD} {k : Nat} (h : k < S.length) : (mixS S k).getD k dO = liS (S.getD k dSt) := by
  unfold mixS
  rw [List.getD_eq_getElem?_getD, List.getElem?_append_right (by simp; omega), getD_lt _ _ h]
  have : ((S.take k).map owS).length = k := by simp; omega
  rw [this, Nat.sub_self, List.drop_eq_getElem_cons h]
  rfl
theorem mixS_set {S : List StD} {k : Nat} (h : k < S.length) : (mixS S k).set k (owS (S.getD k dSt)) = mixS S (k + 1) := by
  unfold mixS
  have : ((S.take k).map owS).length = k := by simp; omega
  rw [List.set_append_right _ _ (by omega), this, Nat.sub_self, List.drop_eq_getElem_cons h, List.map_cons, List.set_cons_zero, take_more S k dSt h, List.map_append, List.append_assoc]
  rfl
theorem d52_eq {p : List Inst} {most fl : Int} {S : List StD} {N : Nat} (hS : Small S N) (hN : N ≤ 1000000) : D.f52F (p, most, S, fl) = some (p, most, fl, ow S) := by
  have hlen := hS.len
  have hdo : (([] : List Int), false, false, ([] : List (Int × Int))) = dO := rfl
  unfold D.f52F
  dsimp only
  rw [d79_eq (by omega)]
  simp only [Option.bind_some, hdo]
  have h0 : S.map liS = mixS S 0 := rfl
  have h1 : ow S = mixS S S.length := by unfold mixS ow; simp
  have hml : ((S.map liS).length : Int) = S.length := by simp
  rw [hml, h0, h1]
  refine someD ?_
  refine bind_ex (Q := fun e => e = (p, most, fl, mixS S S.length)) (iter_rule (I := fun s2 => ∃ k : Nat, k ≤ S.length ∧ s2 = ((k : Int), p, most, fl, mixS S k)) (fun s2 => (S.length - s2.1).toNat) ?_ _ ⟨0, Nat.zero_le _, rfl⟩) fun e he => ⟨e, rfl, he⟩
  rintro _ ⟨k, hk, rfl⟩
  by_cases hkl : k < S.length
  rotate_left
  · have : k = S.length := by omega
    subst this
    right
    dsimp only
    rw [if_neg (by rw [decide_eq_true_eq]; omega)]
    exact ⟨_, rfl, rfl⟩
  left
  have hs : S.getD k dSt ∈ S := by rw [getD_lt _ _ hkl]; exact List.getElem_mem _
  have hat := hS.at_ _ hs
  have hed := hS.ed _ hs
  have hw : IntKind.i64.wrap ((k : Int) + 1) = ((k + 1 : Nat) : Int) := by rw [wrap_i64 (by omega) (by omega)]; omega
  have hsg : ∀ x : StO, ((mixS S k).set k x).getD k dO = x := fun x => by
    rw [getD_lt _ _ (by rw [List.length_set, mixS_len]; exact hkl)]; simp
  dsimp only
  rw [if_pos (by rw [decide_eq_true_eq]; omega)]
  simp only [Int.toNat_natCast, mixS_len, mixS_get hkl, hw]
  have e1 : (liS (S.getD k dSt)).1 = (S.getD k dSt).1 := rfl
  have e2 : (liS (S.getD k dSt)).2.2.2 = (S.getD k dSt).2.2 := rfl
  rw [if_pos (by omega), e1, d80_eq (by omega)]
  simp only [Option.bind_some, e2]
  rw [d81_eq (by omega)]
  simp only [Option.bind_some]
  rw [if_pos (by rw [List.length_map, mixS_len]; omega), if_pos (by rw [List.length_map, List.length_set, mixS_len]; omega)]
  simp only [hsg, List.set_set]
  refine ⟨_, rfl, ⟨k + 1, hkl, ?_⟩, by simp; omega⟩
  rw [← mixS_set hkl]
  rfl
end Go.Sx
