/- Seq, plain: the runs, as both tell them. -/
import Derived.Test.YtjmdfkcgglidaaaSxSq2
set_option linter.unusedVariables false
set_option linter.unusedSimpArgs false
namespace Go.Sx

/-- A loop from 0 on. -/
theorem iter_to {E : Type} (n : Nat) (e : E) (f : Int → Option (Int ⊕ E)) (h : ∀ k : Nat, k < n → f (k : Int) = some (.inl ((k + 1 : Nat) : Int))) (he : f (n : Int) = some (.inr e)) : iter f 0 = some e := by
  refine some_of (iter_rule (I := fun s => ∃ k : Nat, k ≤ n ∧ s = (k : Int)) (Q := fun r => r = e) (fun s => (n - s).toNat) ?_ _ ⟨0, Nat.zero_le _, rfl⟩)
  rintro _ ⟨k, hk, rfl⟩
  by_cases hkn : k < n
  · exact .inl ⟨_, h k hkn, ⟨k + 1, hkn, rfl⟩, by omega⟩
  · have : k = n := by omega
    subst this
    exact .inr ⟨_, he, rfl⟩

/-- A loop that tells of each one. -/
theorem iter_map {A B : Type} (R : List A) (g : A → B) (f : Int × List B → Option ((Int × List B) ⊕ List B)) (h : ∀ (k : Nat) (hk : k < R.length), f ((k : Int), (R.take k).map g) = some (.inl (((k + 1 : Nat) : Int), (R.take k).map g ++ [g R[k]])))
    (he : f ((R.length : Int), R.map g) = some (.inr (R.map g))) : iter f (0, []) = some (R.map g) := by
  refine some_of (iter_rule (I := fun s => ∃ k : Nat, k ≤ R.length ∧ s = ((k : Int), (R.take k).map g)) (Q := fun r => r = R.map g) (fun s => (R.length - s.1).toNat) ?_ _ ⟨0, Nat.zero_le _, rfl⟩)
  rintro _ ⟨k, hk, rfl⟩
  by_cases hkn : k < R.length
  · refine .inl ⟨_, h k hkn, ⟨k + 1, hkn, ?_⟩, by simp; omega⟩
    rw [List.take_succ_eq_append_getElem hkn, List.map_append]; rfl
  · have : k = R.length := by omega
    subst this
    rw [List.take_length]
    exact .inr ⟨_, he, rfl⟩

theorem getD_at {A : Type} {l : List A} {k : Nat} (d : A) (h : k < l.length) : l.getD k d = l[k] := by simp [List.getD_eq_getElem?_getD, h]

theorem take_one_more {A : Type} (l : List A) (k : Nat) (d : A) (h : k < l.length) : l.take (k + 1) = l.take k ++ [l.getD k d] := by
  rw [List.take_succ_eq_append_getElem h, getD_at d h]

theorem erD_osl (e : Ty) : Ty.erD (.osl e) = Prod.snd := rfl
theorem lift_osl (e : Ty) (x : List e.den) : Ty.lift (.osl e) x = (false, x) := rfl

theorem f20_eq {c v L k : List Int} (hv : v.length = c.length) (hL : ∀ p ∈ L, 0 ≤ p ∧ p < c.length) (hl : L.length ≤ 100000) (hc : c.length ≤ 100000) : Q.f20F (c, v, L, k) = some (runsL (brkS c v) L) := by
  unfold Q.f20F
  dsimp only
  have hg : ∀ i, i < L.length → 0 ≤ L.getD i 0 ∧ L.getD i 0 < (c.length : Int) := fun i hi => by rw [getD_at 0 hi]; exact hL _ (List.getElem_mem hi)
  refine some_of (bind_ex (Q := fun A => A.map Prod.snd = runsL (brkS c v) L) (iter_rule (I := fun (s : Int × Int × List (Bool × List Int)) => ∃ (f i : Nat) (A : List (Bool × List Int)), s = ((f : Int), ((i + 1 : Nat) : Int), A) ∧ i ≤ L.length ∧ f ≤ i ∧ A.length ≤ i ∧
      (i < L.length → runsL (brkS c v) (L.take (i + 1)) = A.map Prod.snd ++ [(L.take (i + 1)).drop f]) ∧ (i = L.length → runsL (brkS c v) L = A.map Prod.snd)) (fun s => (L.length + 1 - s.2.1).toNat) ?_ _ ?_) fun A hA => ⟨_, rfl, by rw [← hA]; rfl⟩)
  rotate_left
  · refine ⟨0, 0, [], rfl, Nat.zero_le _, Nat.le_refl _, Nat.le_refl _, fun h => ?_, fun h => ?_⟩
    · rw [take_one_more L 0 0 h]; rfl
    · have : L = [] := List.eq_nil_of_length_eq_zero h.symm
      subst this; rfl
  rintro _ ⟨f, i, A, rfl, hi, hf, hA, h1, h2⟩
  dsimp only
  by_cases hil : i < L.length
  rotate_left
  · right
    rw [if_neg (by rw [decide_eq_true_eq]; omega)]
    exact ⟨_, rfl, (h2 (by omega)).symm⟩
  left
  have hw : IntKind.i64.wrap (((i + 1 : Nat) : Int) - 1) = (i : Int) := by rw [wrap_i64 (by omega) (by omega)]; omega
  have hw2 : IntKind.i64.wrap (((i + 1 : Nat) : Int) + 1) = ((i + 1 + 1 : Nat) : Int) := by rw [wrap_i64 (by omega) (by omega)]; omega
  have hgi := hg i hil
  have hseg : (L.take (i + 1)).drop f = (L.take i).drop f ++ [L.getD i 0] := by
    rw [take_one_more L i 0 hil, List.drop_append_of_le_length (by rw [List.length_take]; omega)]
  have hr := h1 hil
  simp (disch := omega) only [if_pos, decide_eq_true_eq, hw, hw2, Int.toNat_natCast]
  by_cases hil2 : i + 1 < L.length
  · have hg2 := hg (i + 1) hil2
    have hn : runsL (brkS c v) (L.take (i + 1 + 1)) = snocR (brkS c v) (runsL (brkS c v) (L.take (i + 1))) (L.getD (i + 1) 0) := by
      rw [take_one_more L (i + 1) 0 hil2, runsL_snoc]
    rw [hr, hseg, snocR_last] at hn
    have hseg2 : (L.take (i + 1 + 1)).drop f = (L.take i).drop f ++ [L.getD i 0] ++ [L.getD (i + 1) 0] := by
      rw [take_one_more L (i + 1) 0 hil2, List.drop_append_of_le_length (by rw [List.length_take]; omega), hseg]
    have hseg3 : (L.take (i + 1 + 1)).drop (i + 1) = [L.getD (i + 1) 0] := by
      rw [take_one_more L (i + 1) 0 hil2, List.drop_left' (by rw [List.length_take]; omega)]
    simp (disch := omega) only [if_pos]
    have hb : ∀ K : Bool × List (Bool × List Int) → Option ((Int × Int × List (Bool × List Int)) ⊕ List (Bool × List Int)), (Option.bind (if (v.getD (L.getD (i + 1) 0).toNat 0 == v.getD (L.getD i 0).toNat 0) = true then some (c.getD (L.getD i 0).toNat 0 != 10, A) else some (false, A)) K) = K (!brkS c v (L.getD i 0) (L.getD (i + 1) 0), A) := by
      intro K
      unfold brkS
      cases h : (v.getD (L.getD (i + 1) 0).toNat 0 == v.getD (L.getD i 0).toNat 0) with
      | true => simp only [bne, h, if_true, Option.bind_some, Bool.not_true, Bool.false_or]
      | false => simp only [bne, h, Bool.false_eq_true, if_false, Option.bind_some, Bool.not_false, Bool.true_or, Bool.not_true]
    rw [hb]
    cases hbr : brkS c v (L.getD i 0) (L.getD (i + 1) 0) with
    | false =>
      rw [hbr, if_neg (by simp)] at hn
      simp only [Bool.not_false, if_true]
      exact ⟨_, rfl, ⟨f, i + 1, A, rfl, by omega, by omega, by omega, fun _ => by rw [hn, hseg2], fun h => by omega⟩, by simp; omega⟩
    | true =>
      rw [hbr, if_pos rfl] at hn
      simp only [Bool.not_true, Bool.false_eq_true, if_false]
      rw [if_pos (by unfold roomOk; omega)]
      exact ⟨_, rfl, ⟨i + 1, i + 1, A ++ [(false, (L.take (i + 1)).drop f)], rfl, by omega, by omega, by simp; omega, fun _ => by rw [hn, hseg3, List.map_append, hseg]; rfl, fun h => by omega⟩, by simp; omega⟩
  · have hil3 : i + 1 = L.length := by omega
    simp (disch := omega) only [if_neg, if_pos, Option.bind_some, Bool.false_eq_true, not_false_eq_true, if_false]
    rw [if_pos (by unfold roomOk; omega)]
    exact ⟨_, rfl, ⟨i + 1, i + 1, A ++ [(false, (L.take (i + 1)).drop f)], rfl, by omega, by omega, by simp; omega, fun h => by omega, fun h => by
      rw [hil3, List.take_length] at hr
      rw [hr, List.map_append, hil3, List.take_length]; rfl⟩, by simp; omega⟩

theorem snocR_shape (b : Int → Int → Bool) (R : List (List Int)) (q : Int) : ∃ A r, snocR b R q = A ++ [r ++ [q]] := by
  unfold snocR
  split
  · exact ⟨R, [], rfl⟩
  · split
    · exact ⟨R, [], rfl⟩
    · split
      · exact ⟨R, [], rfl⟩
      · exact ⟨_, _, rfl⟩

theorem set_last {A : Type} (B : List A) (x z : A) : (B ++ [x]).set B.length z = B ++ [z] := by
  rw [List.set_append_right _ _ (Nat.le_refl _)]; simp
theorem get_end {A : Type} (B : List A) (x d : A) : (B ++ [x]).getD B.length d = x := by
  simp [List.getD_eq_getElem?_getD]

theorem snocR_len (b : Int → Int → Bool) (R : List (List Int)) (q : Int) : (snocR b R q).length ≤ R.length + 1 := by
  unfold snocR
  split
  · simp
  · split
    · simp
    · split
      · simp
      · simp

theorem foldR_len (b : Int → Int → Bool) : ∀ (l : List Int) (acc : List (List Int)), (l.foldl (snocR b) acc).length ≤ acc.length + l.length
  | [], acc => by simp
  | q :: l, acc => by
    have ih := foldR_len b l (snocR b acc q)
    have := snocR_len b acc q
    rw [List.foldl_cons, List.length_cons]
    omega

theorem runsL_len (b : Int → Int → Bool) (l : List Int) : (runsL b l).length ≤ l.length := by
  have := foldR_len b l []
  simpa [runsL] using this

theorem run_len {b : Int → Int → Bool} {l : List Int} {r : List Int} (h : r ∈ runsL b l) : r.length ≤ l.length := by
  have h1 := (runsL_ok b l).all
  have : r.length ≤ (runsL b l).flatten.length := by
    rw [List.length_flatten]
    exact len_le_sum h
  rwa [h1] at this

theorem f23_eq {c v : List Int} (hc : c.length ≤ 100000) : Q.f23F (c, v) = some (if c.length = v.length then runsS c v else []) := by
  unfold Q.f23F
  dsimp only
  by_cases hcv : c.length = v.length
  rotate_left
  · rw [if_pos (by simp; omega), if_neg hcv]
  rw [if_neg (by simp; omega), if_pos hcv, f34_eq hc, Option.bind_some]
  unfold runsS
  have hL : ∀ p ∈ seenS c, 0 ≤ p ∧ p < (c.length : Int) := fun p hp => by
    obtain ⟨j, rfl, h1, _⟩ := seen_mem hp; omega
  have hl : (seenS c).length ≤ 100000 := Nat.le_trans (sN_len _ _) hc
  generalize seenS c = L at *
  have hg : ∀ i, i < L.length → 0 ≤ L.getD i 0 ∧ L.getD i 0 < (c.length : Int) := fun i hi => by rw [getD_at 0 hi]; exact hL _ (List.getElem_mem hi)
  refine some_of (bind_ex (Q := fun A => A.map Prod.snd = runsL (brkS c v) L) (iter_rule (I := fun (s : Int × List (Bool × List Int)) => ∃ i : Nat, i ≤ L.length ∧ s = ((i : Int), (runsL (brkS c v) (L.take i)).map fun r => (true, r))) (fun s => (L.length - s.1).toNat) ?_ _ ⟨0, Nat.zero_le _, rfl⟩) fun A hA => ⟨_, rfl, by rw [← hA]; rfl⟩)
  rintro _ ⟨i, hi, rfl⟩
  by_cases hil : i < L.length
  rotate_left
  · have : i = L.length := by omega
    subst this
    right
    dsimp only
    rw [if_neg (by rw [decide_eq_true_eq]; omega), List.take_length]
    exact ⟨_, rfl, by rw [List.map_map, show (Prod.snd ∘ fun r : List Int => (true, r)) = id from rfl, List.map_id]⟩
  left
  have hgi := hg i hil
  have hrl : (runsL (brkS c v) (L.take i)).length ≤ i := by have := runsL_len (brkS c v) (L.take i); rw [List.length_take] at this; omega
  have hw1 : IntKind.i64.wrap ((i : Int) + 1) = ((i + 1 : Nat) : Int) := by rw [wrap_i64 (by omega) (by omega)]; omega
  -- what stands there ahead of the place
  obtain ⟨B, y, hB, hy⟩ : ∃ (B : List (List Int)) (y : List Int), snocR (brkS c v) (runsL (brkS c v) (L.take i)) (L.getD i 0) = B ++ [y ++ [L.getD i 0]] ∧
      ((i = 0 ∨ (0 < i ∧ brkS c v (L.getD (i - 1) 0) (L.getD i 0) = true)) ∧ y = [] ∧ B = runsL (brkS c v) (L.take i) ∨ (0 < i ∧ brkS c v (L.getD (i - 1) 0) (L.getD i 0) = false) ∧ B ++ [y] = runsL (brkS c v) (L.take i)) := by
    cases i with
    | zero => exact ⟨[], [], rfl, .inl ⟨.inl rfl, rfl, rfl⟩⟩
    | succ i =>
      have hprev : runsL (brkS c v) (L.take (i + 1)) = snocR (brkS c v) (runsL (brkS c v) (L.take i)) (L.getD i 0) := by
        rw [take_one_more L i 0 (by omega), runsL_snoc]
      obtain ⟨A, r, hA⟩ := snocR_shape (brkS c v) (runsL (brkS c v) (L.take i)) (L.getD i 0)
      rw [hprev, hA, snocR_last]
      simp only [Nat.add_sub_cancel]
      cases hb : brkS c v (L.getD i 0) (L.getD (i + 1) 0) with
      | true => exact ⟨A ++ [r ++ [L.getD i 0]], [], rfl, .inl ⟨.inr ⟨by omega, rfl⟩, rfl, rfl⟩⟩
      | false => exact ⟨A, r ++ [L.getD i 0], rfl, .inr ⟨⟨by omega, rfl⟩, rfl⟩⟩
  have hyl : y.length ≤ L.length := by
    have hm : y ++ [L.getD i 0] ∈ runsL (brkS c v) (L.take i ++ [L.getD i 0]) := by rw [runsL_snoc, hB]; simp
    have := run_len hm
    simp at this
    omega
  have hBl : B.length ≤ i := by
    rcases hy with ⟨_, _, rfl⟩ | ⟨_, h⟩
    · exact hrl
    · rw [← h] at hrl; simp at hrl; omega
  -- the test
  have htest : ∀ K : Bool × List (Bool × List Int) → Option (List (Bool × List Int)), ∀ A : List (Bool × List Int),
      (Option.bind (if ((i : Int) == 0) = true then some (true, A) else
        if (0 : Int) ≤ (i : Int) ∧ (i : Int) < (L.length : Int) then
          if (0 : Int) ≤ L.getD (Int.toNat (i : Int)) 0 ∧ L.getD (Int.toNat (i : Int)) 0 < (v.length : Int) then
            if (0 : Int) ≤ IntKind.i64.wrap ((i : Int) - 1) ∧ IntKind.i64.wrap ((i : Int) - 1) < (L.length : Int) then
              if (0 : Int) ≤ L.getD (Int.toNat (IntKind.i64.wrap ((i : Int) - 1))) 0 ∧ L.getD (Int.toNat (IntKind.i64.wrap ((i : Int) - 1))) 0 < (v.length : Int) then
                if (v.getD (L.getD (Int.toNat (i : Int)) 0).toNat 0 != v.getD (L.getD (Int.toNat (IntKind.i64.wrap ((i : Int) - 1))) 0).toNat 0) = true then some (true, A)
                else if (0 : Int) ≤ IntKind.i64.wrap ((i : Int) - 1) ∧ IntKind.i64.wrap ((i : Int) - 1) < (L.length : Int) then
                  if (0 : Int) ≤ L.getD (Int.toNat (IntKind.i64.wrap ((i : Int) - 1))) 0 ∧ L.getD (Int.toNat (IntKind.i64.wrap ((i : Int) - 1))) 0 < (c.length : Int) then
                    some (c.getD (L.getD (Int.toNat (IntKind.i64.wrap ((i : Int) - 1))) 0).toNat 0 == 10, A)
                  else none
                else none
              else none
            else none
          else none
        else none) K) = K (if y = [] ∧ B = runsL (brkS c v) (L.take i) then true else false, A) := by
    intro K A
    rcases hy with ⟨h0 | ⟨h0, hb⟩, rfl, hBe⟩ | ⟨⟨h0, hb⟩, hBe⟩
    · subst h0
      rw [if_pos (c := ([] : List Int) = [] ∧ _) ⟨rfl, hBe⟩]; rfl
    · have hw : IntKind.i64.wrap ((i : Int) - 1) = ((i - 1 : Nat) : Int) := by rw [wrap_i64 (by omega) (by omega)]; omega
      have hgp := hg (i - 1) (by omega)
      rw [if_pos (c := ([] : List Int) = [] ∧ _) ⟨rfl, hBe⟩, if_neg (by simp; omega)]
      simp (disch := omega) only [if_pos, hw, Int.toNat_natCast]
      unfold brkS at hb
      cases hv : (v.getD (L.getD i 0).toNat 0 != v.getD (L.getD (i - 1) 0).toNat 0) with
      | true => simp
      | false => rw [hv, Bool.false_or] at hb; rw [hb]; simp
    · have hw : IntKind.i64.wrap ((i : Int) - 1) = ((i - 1 : Nat) : Int) := by rw [wrap_i64 (by omega) (by omega)]; omega
      have hgp := hg (i - 1) (by omega)
      rw [if_neg (c := y = [] ∧ _) (fun h => by have := congrArg List.length (h.2 ▸ hBe); simp at this), if_neg (by simp; omega)]
      simp (disch := omega) only [if_pos, hw, Int.toNat_natCast]
      unfold brkS at hb
      simp only [Bool.or_eq_false_iff] at hb
      rw [hb.1, hb.2]; simp
  dsimp only
  rw [if_pos (by rw [decide_eq_true_eq]; omega), htest]
  -- behind the test
  have hv3 : ∀ K : List (Bool × List Int) → Option ((Int × List (Bool × List Int)) ⊕ List (Bool × List Int)),
      (Option.bind (if (if y = [] ∧ B = runsL (brkS c v) (L.take i) then true else false) = true then
        if roomOk (((runsL (brkS c v) (L.take i)).map fun r => (true, r)).length + 1) 24 then some (((runsL (brkS c v) (L.take i)).map fun r => (true, r)) ++ [(true, [])]) else none else some ((runsL (brkS c v) (L.take i)).map fun r => (true, r))) K) = K ((B.map fun r => (true, r)) ++ [(true, y)]) := by
    intro K
    rcases hy with ⟨_, rfl, hBe⟩ | ⟨_, hBe⟩
    · rw [if_pos (c := ([] : List Int) = [] ∧ _) ⟨rfl, hBe⟩, if_pos rfl, if_pos (by unfold roomOk; simp; omega), hBe]; rfl
    · rw [if_neg (c := y = [] ∧ _) (fun h => by have := congrArg List.length (h.2 ▸ hBe); simp at this), if_neg (by simp), ← hBe, List.map_append]; rfl
  rw [hv3]
  have hlen : ((List.map (Ty.weak (Ty.osl (Ty.int IntKind.i64))) ((B.map fun r => (true, r)) ++ [(true, y)])).length : Int) = (B.length : Int) + 1 := by simp
  have hw : IntKind.i64.wrap ((B.length : Int) + 1 - 1) = (B.length : Int) := by rw [wrap_i64 (by omega) (by omega)]; omega
  have hge : ((B.map fun r => (true, r)) ++ [(true, y)]).getD B.length (false, []) = (true, y) := by
    have := get_end (B.map fun r => (true, r)) (true, y) (false, [])
    rwa [List.length_map] at this
  have hse : ∀ x z : Bool × List Int, ((B.map fun r => (true, r)) ++ [x]).set B.length z = (B.map fun r => (true, r)) ++ [z] := fun x z => by
    have := set_last (B.map fun r => (true, r)) x z
    rwa [List.length_map] at this
  have hlen2 : ∀ x : Bool × List Int, ((List.map (Ty.weak (Ty.osl (Ty.int IntKind.i64))) ((B.map fun r => (true, r)) ++ [x])).length : Int) = (B.length : Int) + 1 := fun x => by simp
  simp only [hlen, hw, Int.toNat_natCast, hge, hse, hlen2, hw1]
  rw [if_pos (by omega), if_pos (by rfl), if_pos (by omega), if_pos (by unfold roomOk; omega), if_pos (by omega)]
  refine ⟨_, rfl, ⟨i + 1, hil, ?_⟩, by simp; omega⟩
  rw [take_one_more L i 0 hil, runsL_snoc, hB, List.map_append]; rfl

/-- Where runs begin and end. -/
def endsS (R : List (List Int)) : List (List Int) := R.map fun r => [r.getD 0 0, r.getD (r.length - 1) 0]

theorem f11_eq {c v : List Int} (hc : c.length ≤ 100000) : Q.f11F (c, v) = some (if c.length = v.length then endsS (runsS c v) else []) := by
  unfold Q.f11F
  dsimp only
  by_cases hcv : c.length = v.length
  rotate_left
  · rw [if_pos (by simp; omega), if_neg hcv]
  rw [if_neg (by simp; omega), if_pos hcv, f18_eq hc]
  simp only [Option.bind_some]
  have hl : (seenS c).length ≤ 100000 := Nat.le_trans (sN_len _ _) hc
  rw [f20_eq hcv.symm (fun p hp => by obtain ⟨j, rfl, h1, _⟩ := seen_mem hp; omega) hl hc]
  simp only [Option.bind_some]
  have hne := (runsL_ok (brkS c v) (seenS c)).ne
  have hln := runsL_len (brkS c v) (seenS c)
  have hrl : ∀ r ∈ runsL (brkS c v) (seenS c), r.length ≤ (seenS c).length := fun r hr => run_len hr
  unfold runsS endsS
  generalize runsL (brkS c v) (seenS c) = R at *
  rw [iter_map R (fun r => [r.getD 0 0, r.getD (r.length - 1) 0])]
  · rfl
  · intro k hk
    have h1 := hne _ (List.getElem_mem hk)
    have h2 : 0 < R[k].length := len_pos_of_ne h1
    have h3 := hrl _ (List.getElem_mem hk)
    have hw : IntKind.i64.wrap ((R[k].length : Int) - 1) = ((R[k].length - 1 : Nat) : Int) := by rw [wrap_i64 (by omega) (by omega)]; omega
    have hw1 : IntKind.i64.wrap ((k : Int) + 1) = ((k + 1 : Nat) : Int) := by rw [wrap_i64 (by omega) (by omega)]; omega
    simp (disch := omega) only [if_pos, decide_eq_true_eq, Int.toNat_natCast, getD_at [] hk, hw, hw1]
    rw [if_pos (by unfold roomOk; simp; omega)]
    rfl
  · dsimp only
    rw [if_neg (by rw [decide_eq_true_eq]; omega)]

theorem f12_eq {c v : List Int} (hc : c.length ≤ 100000) : Q.f12F (c, v) = some (if c.length = v.length then endsS (runsS c v) else []) := by
  unfold Q.f12F
  dsimp only
  rw [f23_eq hc]
  simp only [Option.bind_some]
  by_cases hcv : c.length = v.length
  rotate_left
  · rw [if_neg hcv, if_neg hcv, iter_inr (e := []) (by rfl)]
    rfl
  rw [if_pos hcv, if_pos hcv]
  have hl : (seenS c).length ≤ 100000 := Nat.le_trans (sN_len _ _) hc
  have hne := (runsL_ok (brkS c v) (seenS c)).ne
  have hln := runsL_len (brkS c v) (seenS c)
  have hrl : ∀ r ∈ runsL (brkS c v) (seenS c), r.length ≤ (seenS c).length := fun r hr => run_len hr
  unfold runsS endsS
  generalize runsL (brkS c v) (seenS c) = R at *
  rw [iter_map R (fun r => [r.getD 0 0, r.getD (r.length - 1) 0])]
  · rfl
  · intro k hk
    have h1 := hne _ (List.getElem_mem hk)
    have h2 : 0 < R[k].length := len_pos_of_ne h1
    have h3 := hrl _ (List.getElem_mem hk)
    have hw : IntKind.i64.wrap ((R[k].length : Int) - 1) = ((R[k].length - 1 : Nat) : Int) := by rw [wrap_i64 (by omega) (by omega)]; omega
    have hw1 : IntKind.i64.wrap ((k : Int) + 1) = ((k + 1 : Nat) : Int) := by rw [wrap_i64 (by omega) (by omega)]; omega
    simp (disch := omega) only [if_pos, decide_eq_true_eq, Int.toNat_natCast, getD_at [] hk, hw, hw1]
    rw [if_pos (by unfold roomOk; simp; omega)]
    rfl
  · dsimp only
    rw [if_neg (by rw [decide_eq_true_eq]; omega)]
end Go.Sx
