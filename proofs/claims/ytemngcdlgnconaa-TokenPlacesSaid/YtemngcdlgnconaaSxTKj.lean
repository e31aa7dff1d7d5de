/- Token: the laws. -/
import Derived.Test.YtemngcdlgnconaaSxTKi
import Derived.Test.YtemngcdlgnconaaSxEZ
import Derived.Test.YtemngcdlgnconaaSxR
set_option linter.unusedVariables false
set_option linter.unusedSimpArgs false
namespace Go.Sx
theorem bind_iter {S E R : Type} {f : S → Option (S ⊕ E)} {k : E → Option R} {y : R} {s0 : S} (I : S → Prop) (e0 : E) (μ : S → Nat) (h0 : I s0) (hk : k e0 = some y)
    (h : ∀ s, I s → (∃ s', f s = some (.inl s') ∧ I s' ∧ μ s' < μ s) ∨ ∃ e, f s = some (.inr e) ∧ e = e0) : (iter f s0).bind k = some y := by
  obtain ⟨e, he, rfl⟩ := iter_rule (Q := fun e => e = e0) μ h s0 h0
  rw [he]
  exact hk
theorem Rd.okErr {l : List Int} {m : Bool} {i : Nat} {r : List TknT ⊕ (Nat × Int)} (h : Rd l m i r) : ∀ {e}, r = .inr e → i ≤ l.length → okErr l e := by
  induction h with
  | done h => intro e he; cases he
  | err h => intro e he hi; cases he; exact stepM_err hi h
  | @go m i ts j m' r h k ih =>
    intro e he hi
    obtain ⟨-, s2⟩ := stepM_shape hi h
    cases r with
    | inl y => cases he
    | inr e' => cases he; exact ih rfl s2
def okAt (n : Nat) (c : Bool) (p : Option TknT) (t : TknT) : Prop :=
  (0 ≤ t.2.2.2.2 ∧ t.2.2.2.2 < (n : Int)) ∧ (∀ q, p = some q → q.2.2.2.2 < t.2.2.2.2) ∧ (1 ≤ t.1 ∧ t.1 ≤ 13) ∧ (t.1 = 7 → c = false) ∧ (t.1 = 8 → c = true) ∧ (t.1 = 9 → c = true ∧ t.2.2.1 ≤ t.2.2.2.1) ∧ (c = true → t.1 = 1 ∨ t.1 = 12 ∨ t.1 = 9 ∨ t.1 = 8) ∧ (t.1 = 13 → ∃ q, p = some q ∧ q.1 = 6) ∧ (t.1 = 6 → okRep t.2.2.1 t.2.2.2.1)
inductive Pl (n : Nat) : Bool → Option TknT → List TknT → Prop
  | nil {p} : Pl n false p []
  | cons {c p t r} : okAt n c p t → Pl n (nextC c t) (some t) r → Pl n c p (t :: r)
theorem Rd.pl {l : List Int} {m : Bool} {i : Nat} {r : List TknT ⊕ (Nat × Int)} (h : Rd l m i r) : ∀ {x}, r = .inl x → i ≤ l.length → ∀ p : Option TknT, (∀ q, p = some q → q.2.2.2.2 < (i : Int)) → Pl l.length m p x := by
  induction h with
  | done h => intro x hx hi p hp; cases hx; rw [(stepM_done hi h).1]; exact .nil
  | err h => intro x hx; cases hx
  | @go m i ts j m' r h k ih =>
    intro x hx hi p hp
    obtain ⟨s1, s2⟩ := stepM_shape hi h
    cases r with
    | inr e => cases hx
    | inl y =>
      cases hx
      cases s1 with
      | one t h1 h2 h3 =>
        obtain ⟨g1, g2, g3, g4, g5, g6⟩ := h3
        refine .cons ⟨by omega, fun q hq => by have := hp q hq; omega, by omega, g2, g3, g4, g5, fun h => by omega, g6⟩ (ih rfl s2 (some t) ?_)
        rintro q hq; cases hq; omega
      | rep h1 h2 =>
        refine .cons ⟨by dsimp only; omega, fun q hq => by have := hp q hq; dsimp only; omega, by dsimp only; omega, fun _ => rfl, fun h => by dsimp only at h; omega, fun h => by dsimp only at h; omega, (nofun), fun h => by dsimp only at h; omega, fun _ => h2⟩ ?_
        refine .cons ⟨by dsimp only; omega, fun q hq => by cases hq; dsimp only; omega, by dsimp only; omega, fun _ => rfl, fun h => by dsimp only at h; omega, fun h => by dsimp only at h; omega, (nofun), fun h => ⟨_, rfl, rfl⟩, fun h => by dsimp only at h; omega⟩ ?_
        refine ih rfl s2 _ ?_
        rintro q hq; cases hq; dsimp only; omega
def prevT (T : List TknT) (k : Nat) : Option TknT := if k = 0 then none else T[k - 1]?
theorem Z.tok_len {l : List Int} {r : List TknT ⊕ (Nat × Int)} {m : Bool} {i : Nat} (h : Rd l m i r) : ∀ {x}, r = .inl x → i ≤ l.length → i + x.length ≤ l.length := by
  induction h with
  | done h => intro x hx hi; cases hx; exact hi
  | err h => intro x hx; cases hx
  | @go m i ts j m' r h k ih =>
    intro x hx hi
    obtain ⟨s1, s2⟩ := stepM_shape hi h
    cases r with
    | inr e => cases hx
    | inl y =>
      cases hx
      have := ih rfl s2
      have := s1.lt
      dsimp only
      rw [List.length_append]
      omega
theorem placeA {P n k Q K : Int} {rng : Prop} [Decidable rng] (h1 : ¬ P < 0) (h2 : ¬ P ≥ n) (h3 : k > 0 → rng ∧ Q < P) (h4 : 1 ≤ K ∧ K ≤ 13) :
    (if decide (P < 0) = true then some true
      else if decide (P ≥ n) = true then some true
      else if decide (k > 0) = true then (if rng then (if decide (Q ≥ P) = true then some true else if decide (K < 1) = true then some true else some (decide (K > 13))) else none)
      else if decide (K < 1) = true then some true else some (decide (K > 13))) = some false := by
  have e : decide (K > 13) = false := by rw [decide_eq_false_iff_not]; omega
  rw [if_neg (by rw [decide_eq_true_eq]; exact h1), if_neg (by rw [decide_eq_true_eq]; exact h2), e]
  by_cases h : k > 0
  · obtain ⟨g1, g2⟩ := h3 h
    rw [if_pos (by rw [decide_eq_true_eq]; exact h), if_pos g1, if_neg (by rw [decide_eq_true_eq]; omega), if_neg (by rw [decide_eq_true_eq]; omega)]
  · rw [if_neg (by rw [decide_eq_true_eq]; exact h), if_neg (by rw [decide_eq_true_eq]; omega)]
theorem placeB {k Q K : Int} {rng : Prop} [Decidable rng] (h : K = 13 → k ≠ 0 ∧ rng ∧ Q = 6) :
    (if (K == 13) = true then (if (k == 0) = true then some true else if rng then some (Q != 6) else none) else some false) = some false := by
  by_cases hk : K = 13
  · obtain ⟨h1, h2, h3⟩ := h hk
    rw [if_pos (by rw [beq_iff_eq]; exact hk), if_neg (by rw [beq_iff_eq]; exact h1), if_pos h2, h3]
    rfl
  · rw [if_neg (by rw [beq_iff_eq]; exact hk)]
theorem placeC {K L H : Int} (h : K = 6 → okRep L H) :
    (if (K == 6) = true then (if decide (L < 0) = true then some true else if decide (L > 20) = true then some true else if decide (H > 20) = true then some true else if decide (H ≥ 0) = true then some (decide (H < L)) else some false) else some false) = some false := by
  by_cases hk : K = 6
  · obtain ⟨⟨h1, h2⟩, h3, h4⟩ := h hk
    rw [if_pos (by rw [beq_iff_eq]; exact hk), if_neg (by rw [decide_eq_true_eq]; omega), if_neg (by rw [decide_eq_true_eq]; omega), if_neg (by rw [decide_eq_true_eq]; omega)]
    by_cases hH : H ≥ 0
    · have := h4 hH
      rw [if_pos (by rw [decide_eq_true_eq]; exact hH), decide_eq_false (by omega)]
    · rw [if_neg (by rw [decide_eq_true_eq]; exact hH)]
  · rw [if_neg (by rw [beq_iff_eq]; exact hk)]
theorem placeD {K L H : Int} {c : Bool} (h6 : K = 9 → c = true ∧ L ≤ H) (h7 : c = true → K = 1 ∨ K = 12 ∨ K = 9 ∨ K = 8) (h8 : K ≠ 8) :
    ((if (K == 9) = true then (if (!c) = true then some true else some (decide (L > H))) else some false).bind fun v => if v = true then some true else if c = true then (if (K != 1) = true then (if (K != 12) = true then some (K != 9) else some false) else some false) else some false) = some false := by
  by_cases hk : K = 9
  · obtain ⟨rfl, h2⟩ := h6 hk
    subst hk
    have e : decide (L > H) = false := by rw [decide_eq_false_iff_not]; omega
    simp [e]
  · rw [if_neg (by rw [beq_iff_eq]; exact hk)]
    simp only [Option.bind_some, Bool.false_eq_true, if_false]
    cases c with
    | false => rfl
    | true =>
      rcases h7 rfl with h | h | h | h
      · subst h; rfl
      · subst h; rfl
      · exact absurd h hk
      · exact absurd h h8
theorem tokenPlaces_F (x : List Int) : Z.f4F x = some true := by
  unfold Z.f4F
  rw [z15_alive]
  simp only [Option.bind_some, Bool.not_true, Bool.false_eq_true, if_false]
  by_cases hx : ¬ x.length ≤ 300
  · rw [if_pos (by rw [decide_eq_true_eq]; omega)]
  rw [if_neg (by rw [decide_eq_true_eq]; omega)]
  by_cases hl : ¬ x.length ≤ 200
  · have : Z.tokOfF x = some ([], 0, 10) := by unfold Z.tokOfF; rw [if_pos (by omega)]
    have hd : decide ((x.length : Int) > 200) = true := by rw [decide_eq_true_eq]; omega
    rw [this]
    simp only [Option.bind_some, hd]
    rw [if_pos (by decide), if_pos (by rfl), if_pos (by decide), if_pos (by rw [decide_eq_true_eq]; omega), if_pos (by decide)]
    rfl
  have hd : decide ((x.length : Int) > 200) = false := by rw [decide_eq_false_iff_not]; omega
  obtain ⟨r, h1, h2⟩ := tok_eq (l := x) (by omega)
  cases r with
  | inr e =>
    have h3 := h1.okErr rfl (Nat.zero_le _)
    obtain ⟨p, e⟩ := e
    unfold Sx.okErr at h3
    dsimp only at h3
    have h2 : Z.tokOfF x = some ([], (p : Int), e) := h2
    rw [h2]
    simp only [Option.bind_some, hd]
    rw [if_pos (by rw [bne_iff_ne]; omega), if_pos (by rfl), if_pos (by rw [decide_eq_true_eq]; omega), if_pos (by rw [decide_eq_true_eq]; omega)]
    have h10 : (e == 10) = false := by rw [beq_eq_false_iff_ne]; omega
    rw [h10]
    by_cases h4 : e = 4
    · rw [if_neg (by rw [bne_iff_ne]; omega), if_pos (by rw [beq_iff_eq]; omega)]; rfl
    · rw [if_pos (by rw [bne_iff_ne]; omega)]; rfl
  | inl T =>
    have hT := Z.tok_len h1 rfl (Nat.zero_le _)
    have hP := h1.pl rfl (Nat.zero_le _) none (nofun)
    have h2 : Z.tokOfF x = some (T, 0, 0) := h2
    rw [h2]
    simp only [Option.bind_some]
    rw [if_neg (by simp)]
    refine bind_iter (fun s : Bool × Int => ∃ k : Nat, s.2 = (k : Int) ∧ k ≤ T.length ∧ Pl x.length s.1 (prevT T k) (T.drop k)) (.inl false) (fun s => ((T.length : Int) - s.2).toNat) ⟨0, rfl, Nat.zero_le _, hP⟩ rfl ?_
    · rintro ⟨c, _⟩ ⟨k, rfl, hk, hp⟩
      dsimp only at hp ⊢
      by_cases h : k < T.length
      · left
        have hw : IntKind.i64.wrap ((k : Int) + 1) = ((k + 1 : Nat) : Int) := by rw [wrap_i64 (by omega) (by omega)]; push_cast; rfl
        have hg : T.getD k (0, 0, 0, 0, 0) = T[k] := by simp [List.getD_eq_getElem?_getD, h]
        rw [List.drop_eq_getElem_cons h] at hp
        cases hp with
        | cons ok rest =>
        have hprev : prevT T (k + 1) = some T[k] := by unfold prevT; rw [if_neg (by omega), Nat.add_sub_cancel, List.getElem?_eq_getElem h]
        rw [← hprev] at rest
        have hr : (0 ≤ (k : Int) ∧ (k : Int) < (T.length : Int)) := by omega
        have hk1 : 0 < k → ∃ q, prevT T k = some q ∧ T.getD (IntKind.i64.wrap ((k : Int) - 1)).toNat (0, 0, 0, 0, 0) = q ∧ (0 ≤ IntKind.i64.wrap ((k : Int) - 1) ∧ IntKind.i64.wrap ((k : Int) - 1) < (T.length : Int)) := by
          intro h0
          rw [wrap_i64 (x := (k : Int) - 1) (by omega) (by omega)]
          refine ⟨T[k - 1]'(by omega), ?_, ?_, by omega⟩
          · unfold prevT; rw [if_neg (by omega), List.getElem?_eq_getElem (by omega)]
          · rw [show ((k : Int) - 1).toNat = k - 1 by omega]; simp [List.getD_eq_getElem?_getD, show k - 1 < T.length by omega]
        simp only [Int.toNat_natCast, hg, hr, if_true, and_self]
        obtain ⟨o1, o2, o3, o4, o5, o6, o7, o8, o9⟩ := ok
        generalize T[k] = t at o1 o2 o3 o4 o5 o6 o7 o8 o9 rest ⊢
        obtain ⟨K, C, L, H, P⟩ := t
        dsimp only at o1 o2 o3 o4 o5 o6 o7 o8 o9 rest ⊢
        refine ⟨(nextC c (K, C, L, H, P), ((k + 1 : Nat) : Int)), ?_, ⟨k + 1, rfl, by omega, rest⟩, by dsimp only; omega⟩
        rw [if_pos (by simp), placeA (by omega) (by omega) ?_ o3]
        · simp only [Option.bind_some, Bool.false_eq_true, if_false]
          rw [placeC o9]
          by_cases h7 : K = 7
          · rw [if_pos (by rw [beq_iff_eq]; exact h7), if_neg (by rw [o4 h7]; simp), hw]
            unfold nextC
            rw [if_pos h7]
          · rw [if_neg (by rw [beq_iff_eq]; exact h7)]
            by_cases h8 : K = 8
            · rw [if_pos (by rw [beq_iff_eq]; exact h8), if_neg (by rw [o5 h8]; simp), hw]
              unfold nextC
              rw [if_neg h7, if_pos h8]
            · rw [if_neg (by rw [beq_iff_eq]; exact h8), placeD o6 o7 h8]
              simp only [Option.bind_some, Bool.false_eq_true, if_false]
              rw [placeB ?_]
              · simp only [Option.bind_some, Bool.false_eq_true, if_false, hw]
                unfold nextC
                rw [if_neg h7, if_neg h8]
              · intro h13
                obtain ⟨q, q1, q2⟩ := o8 h13
                have hk0 : 0 < k := by
                  rcases Nat.eq_zero_or_pos k with h | h
                  · subst h; cases q1
                  · exact h
                obtain ⟨q', p1, p2, p3⟩ := hk1 hk0
                rw [q1] at p1
                cases p1
                exact ⟨by omega, p3, by rw [p2]; exact q2⟩
        · intro hk0
          obtain ⟨q', p1, p2, p3⟩ := hk1 (by omega)
          exact ⟨p3, by rw [p2]; exact o2 q' p1⟩
      · right
        rw [if_neg (by rw [decide_eq_true_eq]; omega)]
        rw [List.drop_eq_nil_of_le (by omega)] at hp
        cases hp
        exact ⟨_, rfl, rfl⟩
theorem tokenPlaces_pure (x : List Int) (_ : wfTup [.sl (.int .i64)] x) : Z.f4F x = some true := tokenPlaces_F x
end Go.Sx
