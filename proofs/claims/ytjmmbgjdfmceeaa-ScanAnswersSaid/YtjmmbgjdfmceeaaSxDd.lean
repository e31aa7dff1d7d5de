/- Dfa: caches that may be; those that are copied. -/
import Derived.Test.YtjmmbgjdfmceeaaSxDc
set_option linter.unusedVariables false
set_option linter.unusedSimpArgs false
namespace Go.Sx
theorem mget_mputD {kk : IntKind} {V : Ty} (k p : Int) (v : V.den) (es : List (Int × V.den)) : mget (K := .int kk) (V := V) (mput (K := .int kk) (V := V) es k v) p = if p = k then some v else mget (K := .int kk) (V := V) es p := by
  induction es with
  | nil =>
    show (bif (p == k) then some v else none) = _
    by_cases h : p = k
    · subst h; simp
    · have : (p == k) = false := by simpa using h
      rw [this, if_neg h]; rfl
  | cons e l ih =>
    obtain ⟨a, b⟩ := e
    show mget (K := .int kk) (V := V) (bif (k == a) then (a, v) :: l else (a, b) :: mput (K := .int kk) (V := V) l k v) p = if p = k then some v else (bif (p == a) then some b else mget (K := .int kk) (V := V) l p)
    by_cases h : k = a
    · subst h
      rw [beq_self_eq_true]
      show (bif (p == k) then some v else mget (K := .int kk) (V := V) l p) = _
      by_cases h2 : p = k
      · subst h2; simp
      · have : (p == k) = false := by simpa using h2
        rw [this, if_neg h2]; rfl
    · have hka : (k == a) = false := by simpa using h
      rw [hka]
      show (bif (p == a) then some b else mget (K := .int kk) (V := V) (mput (K := .int kk) (V := V) l k v) p) = _
      by_cases h2 : p = a
      · subst h2
        have : ¬ p = k := fun e => h e.symm
        rw [beq_self_eq_true, if_neg this]; rfl
      · have hpa : (p == a) = false := by simpa using h2
        rw [hpa]
        exact ih
theorem marks_put (W : List (Int × Bool)) (l : List Int) (q : Int) (h : ∀ p, mget (K := .int .i64) (V := .bool) W p = if p ∈ l then some true else none) :
    ∀ p, mget (K := .int .i64) (V := .bool) (mputX (.int .i64) .bool W q true) p = if p ∈ l ++ [q] then some true else none := by
  intro p
  show mget (K := .int .i64) (V := .bool) (mput (K := .int .i64) (V := .bool) W q true) p = _
  rw [mget_mputD, h]
  by_cases hp : p = q
  · subst hp; simp
  · simp [hp]
theorem take_more {A : Type} (l : List A) (k : Nat) (d : A) (h : k < l.length) : l.take (k + 1) = l.take k ++ [l.getD k d] := by
  rw [List.take_succ_eq_append_getElem h, getD_lt l d h]
theorem d56_true {p : List Inst} (hp : rightS p = true) (hr : ranged p) {most fl : Int} {S : List StD} {N : Nat} (hS : Small S N) (hN : N ≤ 1000000) {i : Nat} (hi : i < S.length) (h : StateI p S i S[i]) :
    D.f56F ((p, most, S, fl), (i : Int)) = some true := by
  obtain ⟨_, _, hp1000⟩ := rightS_last hp
  have hlen := hS.len
  have hat := hS.at_ S[i] (List.getElem_mem _)
  have hed := hS.ed S[i] (List.getElem_mem _)
  have hall : ∀ s ∈ S, s.1.length ≤ 100000 := fun s hs => by have := hS.at_ s hs; omega
  obtain ⟨h1, h2, h3, h4⟩ := h
  have hg : S.getD i ([], false, []) = S[i] := getD_lt _ _ hi
  unfold D.f56F
  dsimp only
  rw [if_pos (by omega), Int.toNat_natCast, hg, d57_true h1 hp1000]
  simp only [Option.bind_some, Bool.not_true, Bool.false_eq_true, if_false]
  rw [d82_eq _ _ (by omega) hall, h2]
  simp only [Option.bind_some, bne_self_eq_false, Bool.false_eq_true, if_false]
  generalize S[i] = s at *
  obtain ⟨A, b, E⟩ := s
  simp only at h1 h2 h3 h4 hat hed ⊢
  have key : ∃ e : PUnit ⊕ Bool, iter (fun (s2 : Int × List Int × Bool × List (Int × Int) × List (Int × Bool)) =>
      if decide (s2.1 < (E.length : Int)) = true then
        if 0 ≤ s2.1 ∧ s2.1 < (E.length : Int) then
          Option.bind (if (mgetX (.int .i64) .bool s2.2.2.2.2 (E.getD s2.1.toNat (0, 0)).1).getD false = true then
              some (true, s2.2.1, s2.2.2.1, s2.2.2.2.1, s2.2.2.2.2, (E.getD s2.1.toNat (0, 0)).1, (E.getD s2.1.toNat (0, 0)).2)
            else Option.bind (D.f88F ((p, most, S, fl), (s2.2.1, s2.2.2.1, s2.2.2.2.1), (E.getD s2.1.toNat (0, 0)).1, (E.getD s2.1.toNat (0, 0)).2)) fun (v3 : Bool) =>
              some (!v3, s2.2.1, s2.2.2.1, s2.2.2.2.1, s2.2.2.2.2, (E.getD s2.1.toNat (0, 0)).1, (E.getD s2.1.toNat (0, 0)).2))
            fun (v3 : Bool × List Int × Bool × List (Int × Int) × List (Int × Bool) × Int × Int) => if v3.1 = true then some (Sum.inr (Sum.inr false))
              else some (Sum.inl (IntKind.i64.wrap (s2.1 + 1), v3.2.1, v3.2.2.1, v3.2.2.2.1, mputX (.int .i64) .bool v3.2.2.2.2.1 v3.2.2.2.2.2.1 true))
        else none
      else some (Sum.inr (Sum.inl ()))) (0, A, b, E, []) = some e ∧ e = .inl () := by
    refine iter_rule (I := fun (s2 : Int × List Int × Bool × List (Int × Int) × List (Int × Bool)) => ∃ (j : Nat) (W : List (Int × Bool)), j ≤ E.length ∧ s2 = ((j : Int), A, b, E, W) ∧ ∀ q, mget (K := .int .i64) (V := .bool) W q = if q ∈ (E.take j).map (fun e => e.1) then some true else none)
      (fun s2 => (E.length - s2.1).toNat) ?_ _ ⟨0, [], Nat.zero_le _, rfl, fun q => by simp [mget]⟩
    rintro _ ⟨j, W, hj, rfl, hW⟩
    by_cases hjl : j < E.length
    rotate_left
    · have : j = E.length := by omega
      subst this
      right
      dsimp only
      rw [if_neg (by rw [decide_eq_true_eq]; omega)]
      exact ⟨_, rfl, rfl⟩
    left
    have hm : E.getD j (0, 0) ∈ E := by rw [getD_lt _ _ hjl]; exact List.getElem_mem _
    have hw : IntKind.i64.wrap ((j : Int) + 1) = ((j + 1 : Nat) : Int) := by rw [wrap_i64 (by omega) (by omega)]; omega
    have htk := take_more E j (0, 0) hjl
    have hno : (E.getD j (0, 0)).1 ∉ (E.take j).map (fun e => e.1) := by
      intro hin
      have hs : E.map (fun e => e.1) = (E.take j).map (fun e => e.1) ++ (E.getD j (0, 0)).1 :: (E.drop (j + 1)).map (fun e => e.1) := by
        have : E = E.take (j + 1) ++ E.drop (j + 1) := (List.take_append_drop _ _).symm
        conv => lhs; rw [this, htk]
        simp
      rw [hs, List.nodup_append] at h3
      exact h3.2.2 _ hin _ (by simp) rfl
    dsimp only
    rw [if_pos (by rw [decide_eq_true_eq]; omega), if_pos (by omega)]
    simp only [Int.toNat_natCast, hw]
    have hmg : mgetX (.int .i64) .bool W (E.getD j (0, 0)).1 = none := by
      show mget (K := .int .i64) (V := .bool) W _ = none
      rw [hW, if_neg hno]
    rw [hmg, if_neg (by simp)]
    have h88 := d88_true (most := most) (fl := fl) hp hr (by omega : S.length ≤ 100000) hall (s := (A, b, E)) (by show A.length ≤ 100000; omega) (h4 _ hm)
    have h88' : D.f88F ((p, most, S, fl), (A, b, E), (E.getD j (0, 0)).1, (E.getD j (0, 0)).2) = some true := h88
    rw [h88']
    refine ⟨_, rfl, ⟨j + 1, _, hjl, rfl, ?_⟩, by simp; omega⟩
    rw [htk, List.map_append]
    exact marks_put W _ _ hW
  obtain ⟨e, he, rfl⟩ := key
  rw [he]; rfl
theorem d30_true {p : List Inst} (hp : rightS p = true) (hr : ranged p) {most fl : Int} {S : List StD} {N : Nat} (hS : Small S N) (hN : N ≤ 1000000) (hm : 2 ≤ most ∧ most ≤ 1000) (hfl : 0 ≤ fl) (hl : (S.length : Int) ≤ most) (h : CacheI p S) :
    D.f30F (p, most, S, fl) = some true := by
  obtain ⟨_, _, hp1000⟩ := rightS_last hp
  unfold D.f30F
  dsimp only
  rw [s42_eq _ (by omega), hp]
  simp only [Option.bind_some, Bool.not_true, Bool.false_eq_true, if_false]
  rw [if_neg (by rw [decide_eq_true_eq]; omega), if_neg (by rw [decide_eq_true_eq]; omega), if_neg (by rw [decide_eq_true_eq]; omega), decide_eq_false (show ¬ (S.length : Int) > most by omega)]
  simp only [Option.bind_some, Bool.false_eq_true, if_false]
  have key : ∃ e : PUnit ⊕ Bool, iter (fun (s2 : Int × List Inst × Int × List StD × Int) => if decide (s2.1 < (S.length : Int)) = true then
      Option.bind (D.f56F ((s2.2.1, s2.2.2.1, s2.2.2.2.1, s2.2.2.2.2), s2.1)) fun (v3 : Bool) => if (!v3) = true then some (Sum.inr (Sum.inr false)) else some (Sum.inl (IntKind.i64.wrap (s2.1 + 1), s2.2.1, s2.2.2.1, s2.2.2.2.1, s2.2.2.2.2))
      else some (Sum.inr (Sum.inl ()))) (0, p, most, S, fl) = some e ∧ e = .inl () := by
    refine iter_rule (I := fun s2 => ∃ j : Nat, j ≤ S.length ∧ s2 = ((j : Int), p, most, S, fl)) (fun s2 => (S.length - s2.1).toNat) ?_ _ ⟨0, Nat.zero_le _, rfl⟩
    rintro _ ⟨j, hj, rfl⟩
    have hlen := hS.len
    by_cases hjl : j < S.length
    · left
      have hw : IntKind.i64.wrap ((j : Int) + 1) = ((j + 1 : Nat) : Int) := by rw [wrap_i64 (by omega) (by omega)]; omega
      dsimp only
      rw [if_pos (by rw [decide_eq_true_eq]; omega), d56_true hp hr hS hN hjl (h j hjl)]
      simp only [Option.bind_some, Bool.not_true, Bool.false_eq_true, if_false, hw]
      exact ⟨_, rfl, ⟨j + 1, hjl, rfl⟩, by simp; omega⟩
    · have : j = S.length := by omega
      subst this
      right
      dsimp only
      rw [if_neg (by rw [decide_eq_true_eq]; omega)]
      exact ⟨_, rfl, rfl⟩
  obtain ⟨e, he, rfl⟩ := key
  rw [he]; rfl
end Go.Sx
