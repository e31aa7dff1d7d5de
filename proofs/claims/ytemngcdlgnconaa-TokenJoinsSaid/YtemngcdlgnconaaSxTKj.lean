/- Token: the laws. -/
import Derived.Test.YtemngcdlgnconaaSxTKi
import Derived.Test.YtemngcdlgnconaaSxEZ
import Derived.Test.YtemngcdlgnconaaSxR
set_option linter.unusedVariables false
set_option linter.unusedSimpArgs false
namespace Go.Sx
theorem bind_iter {S E R : Type} {f : S → Option (S ⊕ E)} {k : E → Option R} {y : R} {s0 : S} (I : S → Prop) (e0 : E) (μ : S → Nat) (h0 : I s0) (hk : k e0 = some y)
    (h : ∀ s, I s → (∃ s', f s = some (.inl s') ∧ I s' ∧ μ s' < μ s) ∨ ∃ e, f s = some (.inr e) ∧ e = e0) : (iter f s0).bind k = some y := by
  obtain ⟨e, he, rfl⟩ := iter_rule (Q := fun e => e = e0) μ h s0 h0
  rw [he]
  exact hk
theorem tok_same (x : TknT) : Ty.eqb (Ty.st (Ty.pair (Ty.int IntKind.i64) (Ty.pair (Ty.int IntKind.i64) (Ty.pair (Ty.int IntKind.i64) (Ty.pair (Ty.int IntKind.i64) (Ty.int IntKind.i64)))))) x x = true := by
  simp [Ty.eqb]
theorem Rd.okErr {l : List Int} {m : Bool} {i : Nat} {r : List TknT ⊕ (Nat × Int)} (h : Rd l m i r) : ∀ {e}, r = .inr e → i ≤ l.length → okErr l e := by
  induction h with
  | done h => intro e he; cases he
  | err h => intro e he hi; cases he; exact stepM_err hi h
  | @go m i ts j m' r h k ih =>
    intro e he hi
    obtain ⟨-, s2⟩ := stepM_shape hi h
    cases r with
    | inl y => cases he
    | inr e' => cases he; exact ih rfl s2
def okAt (n : Nat) (c : Bool) (p : Option TknT) (t : TknT) : Prop :=
  (0 ≤ t.2.2.2.2 ∧ t.2.2.2.2 < (n : Int)) ∧ (∀ q, p = some q → q.2.2.2.2 < t.2.2.2.2) ∧ (1 ≤ t.1 ∧ t.1 ≤ 13) ∧ (t.1 = 7 → c = false) ∧ (t.1 = 8 → c = true) ∧ (t.1 = 9 → c = true ∧ t.2.2.1 ≤ t.2.2.2.1) ∧ (c = true → t.1 = 1 ∨ t.1 = 12 ∨ t.1 = 9 ∨ t.1 = 8) ∧ (t.1 = 13 → ∃ q, p = some q ∧ q.1 = 6) ∧ (t.1 = 6 → okRep t.2.2.1 t.2.2.2.1)
inductive Pl (n : Nat) : Bool → Option TknT → List TknT → Prop
  | nil {p} : Pl n false p []
  | cons {c p t r} : okAt n c p t → Pl n (nextC c t) (some t) r → Pl n c p (t :: r)
theorem Rd.pl {l : List Int} {m : Bool} {i : Nat} {r : List TknT ⊕ (Nat × Int)} (h : Rd l m i r) : ∀ {x}, r = .inl x → i ≤ l.length → ∀ p : Option TknT, (∀ q, p = some q → q.2.2.2.2 < (i : Int)) → Pl l.length m p x := by
  induction h with
  | done h => intro x hx hi p hp; cases hx; rw [(stepM_done hi h).1]; exact .nil
  | err h => intro x hx; cases hx
  | @go m i ts j m' r h k ih =>
    intro x hx hi p hp
    obtain ⟨s1, s2⟩ := stepM_shape hi h
    cases r with
    | inr e => cases hx
    | inl y =>
      cases hx
      cases s1 with
      | one t h1 h2 h3 =>
        obtain ⟨g1, g2, g3, g4, g5, g6⟩ := h3
        refine .cons ⟨by omega, fun q hq => by have := hp q hq; omega, by omega, g2, g3, g4, g5, fun h => by omega, g6⟩ (ih rfl s2 (some t) ?_)
        rintro q hq; cases hq; omega
      | rep h1 h2 =>
        refine .cons ⟨by dsimp only; omega, fun q hq => by have := hp q hq; dsimp only; omega, by dsimp only; omega, fun _ => rfl, fun h => by dsimp only at h; omega, fun h => by dsimp only at h; omega, (nofun), fun h => by dsimp only at h; omega, fun _ => h2⟩ ?_
        refine .cons ⟨by dsimp only; omega, fun q hq => by cases hq; dsimp only; omega, by dsimp only; omega, fun _ => rfl, fun h => by dsimp only at h; omega, fun h => by dsimp only at h; omega, (nofun), fun h => ⟨_, rfl, rfl⟩, fun h => by dsimp only at h; omega⟩ ?_
        refine ih rfl s2 _ ?_
        rintro q hq; cases hq; dsimp only; omega
theorem Z.tok_len {l : List Int} {r : List TknT ⊕ (Nat × Int)} {m : Bool} {i : Nat} (h : Rd l m i r) : ∀ {x}, r = .inl x → i ≤ l.length → i + x.length ≤ l.length := by
  induction h with
  | done h => intro x hx hi; cases hx; exact hi
  | err h => intro x hx; cases hx
  | @go m i ts j m' r h k ih =>
    intro x hx hi
    obtain ⟨s1, s2⟩ := stepM_shape hi h
    cases r with
    | inr e => cases hx
    | inl y =>
      cases hx
      have := ih rfl s2
      have := s1.lt
      dsimp only
      rw [List.length_append]
      omega
theorem z18_same {x : List TknT} (hx : x.length ≤ 1000) : Z.f18F (x, x) = some true := by
  unfold Z.f18F
  dsimp only
  rw [if_neg (by simp)]
  refine bind_iter (fun s : Int => ∃ k : Nat, s = (k : Int) ∧ k ≤ x.length) (.inl ()) (fun s => ((x.length : Int) - s).toNat) ⟨0, rfl, Nat.zero_le _⟩ rfl ?_
  rintro _ ⟨k, rfl, hk⟩
  by_cases h : k < x.length
  · left
    have hw : IntKind.i64.wrap ((k : Int) + 1) = ((k + 1 : Nat) : Int) := by rw [wrap_i64 (by omega) (by omega)]; push_cast; rfl
    rw [if_pos (by rw [decide_eq_true_eq]; omega), if_pos (by omega), if_pos (by omega), tok_same, hw]
    exact ⟨_, rfl, ⟨k + 1, rfl, by omega⟩, by omega⟩
  · right
    rw [if_neg (by rw [decide_eq_true_eq]; omega)]
    exact ⟨_, rfl, rfl⟩
theorem tokenJoins_F (a b : List Int) : Z.f5F (a, b) = some true := by
  unfold Z.f5F
  rw [z15_alive]
  simp only [Option.bind_some, Bool.not_true, Bool.false_eq_true, if_false]
  by_cases ha : a.length > 100
  · rw [if_pos (by rw [decide_eq_true_eq]; omega)]; rfl
  by_cases hb : b.length > 100
  · rw [if_neg (by rw [decide_eq_true_eq]; omega), if_pos (by rw [decide_eq_true_eq]; omega)]; rfl
  rw [if_neg (by rw [decide_eq_true_eq]; omega), if_neg (by rw [decide_eq_true_eq]; omega)]
  by_cases hq : b[0]? = some 63
  · obtain ⟨h0, h1⟩ := List.getElem?_eq_some_iff.1 hq
    have e : b.getD 0 0 = 63 := by rw [tgetD h0]; exact h1
    rw [if_pos (by rw [decide_eq_true_eq]; omega), if_pos (by omega), show (0 : Int).toNat = 0 from rfl, e]
    rfl
  have hg : (if decide ((b.length : Int) > 0) = true then (if (0 : Int) ≤ 0 ∧ (0 : Int) < (b.length : Int) then some (b.getD (0 : Int).toNat 0 == 63) else none) else some false) = some false := by
    by_cases h0 : 0 < b.length
    · have e : b.getD 0 0 ≠ 63 := by rw [tgetD h0]; intro h; exact hq (by rw [List.getElem?_eq_getElem h0, h])
      have e2 : (b.getD 0 0 == 63) = false := by rw [beq_eq_false_iff_ne]; exact e
      rw [if_pos (by rw [decide_eq_true_eq]; omega), if_pos (by omega), show (0 : Int).toNat = 0 from rfl, e2]
    · rw [if_neg (by rw [decide_eq_true_eq]; omega)]
  rw [hg]
  obtain ⟨rA, a1, a2⟩ := tok_eq (l := a) (by omega)
  obtain ⟨rB, b1, b2⟩ := tok_eq (l := b) (by omega)
  obtain ⟨rC, c1, c2⟩ := tok_eq (l := a ++ b) (by rw [List.length_append]; omega)
  rw [a2, b2]
  simp only [Option.bind_some, Bool.false_eq_true, if_false, List.nil_append]
  rw [if_pos (by unfold roomOk; omega), if_pos (by unfold roomOk; omega), c2]
  simp only [Option.bind_some]
  cases rA with
  | inr e =>
    have h3 := a1.okErr rfl (Nat.zero_le _)
    obtain ⟨p, e⟩ := e
    unfold Sx.okErr at h3
    dsimp only at h3
    rw [if_pos (by rw [bne_iff_ne]; show e ≠ 0; omega)]
  | inl x =>
    rw [if_neg (by simp [tokR])]
    have hC := c1.det (a1.join rfl (Nat.zero_le _) hq b1)
    subst hC
    cases rB with
    | inr e =>
      have h3 := b1.okErr rfl (Nat.zero_le _)
      obtain ⟨p, e⟩ := e
      unfold Sx.okErr at h3
      dsimp only at h3
      rw [if_pos (by rw [bne_iff_ne]; show e ≠ 0; omega), if_pos (by rw [beq_iff_eq]; rfl)]
      simp only [Sum.map_inr, tokR, shE]
      rw [wrap_i64 (by omega) (by omega)]
      simp only [Option.some.injEq, beq_iff_eq]
      push_cast
      omega
    | inl y =>
      have hx := Z.tok_len a1 rfl (Nat.zero_le _)
      have hy := Z.tok_len b1 rfl (Nat.zero_le _)
      have eA : tokR (Sum.inl x) = (x, 0, 0) := rfl
      have eB : tokR (Sum.inl y) = (y, 0, 0) := rfl
      have eC : tokR (Sum.map (fun z => x ++ z.map (sh a.length)) (shE a.length) (Sum.inl y)) = (x ++ y.map (sh a.length), 0, 0) := rfl
      have hlen : (x ++ y.map (sh a.length)).length = x.length + y.length := by rw [List.length_append, List.length_map]
      rw [if_neg (by rw [eB]; simp), eA, eB, eC]
      simp only [hlen]
      rw [if_neg (by simp), wrap_i64 (x := (x.length : Int) + (y.length : Int)) (by omega) (by omega)]
      have e0 : (((x.length + y.length : Nat) : Int) != (x.length : Int) + (y.length : Int)) = false := by rw [bne_eq_false_iff_eq]; push_cast; rfl
      simp only [Option.bind_some, e0, Bool.false_eq_true, if_false]
      refine bind_iter (fun s : Int => ∃ k : Nat, s = (k : Int) ∧ k ≤ y.length) (.inl ()) (fun s => ((y.length : Int) - s).toNat) ⟨0, rfl, Nat.zero_le _⟩ ?_ ?_
      · simp only [Sum.elim_inl, Int.toNat_natCast]
        rw [if_pos (by omega), List.take_left, z18_same (by omega)]
        rfl
      · rintro _ ⟨k, rfl, hk⟩
        by_cases h : k < y.length
        · left
          have hw : IntKind.i64.wrap ((k : Int) + 1) = ((k + 1 : Nat) : Int) := by rw [wrap_i64 (by omega) (by omega)]; push_cast; rfl
          have hw2 : IntKind.i64.wrap ((x.length : Int) + (k : Int)) = ((x.length + k : Nat) : Int) := by rw [wrap_i64 (by omega) (by omega)]; push_cast; rfl
          have hP := b1.pl rfl (Nat.zero_le _) none (nofun)
          have hin : (y[k]).2.2.2.2 ≥ 0 ∧ (y[k]).2.2.2.2 < (b.length : Int) := by
            have : ∀ {n c p} {l : List TknT}, Pl n c p l → ∀ t ∈ l, t.2.2.2.2 ≥ 0 ∧ t.2.2.2.2 < (n : Int) := by
              intro n c p l h
              induction h with
              | nil => intro t ht; cases ht
              | cons ok _ ih =>
                intro t ht
                rcases List.mem_cons.1 ht with h | h
                · subst h; exact ok.1
                · exact ih t h
            exact this hP _ (List.getElem_mem h)
          have g1 : (x ++ y.map (sh a.length)).getD (x.length + k) (0, 0, 0, 0, 0) = sh a.length y[k] := by
            rw [List.getD_eq_getElem?_getD, List.getElem?_append_right (by omega), Nat.add_sub_cancel_left, List.getElem?_map, List.getElem?_eq_getElem h]
            rfl
          have g2 : y.getD k (0, 0, 0, 0, 0) = y[k] := by simp [List.getD_eq_getElem?_getD, h]
          rw [if_pos (by rw [decide_eq_true_eq]; omega), if_pos (by omega), hw2, if_pos (by omega), hw]
          have : Ty.eqb (Ty.st (Ty.pair (Ty.int IntKind.i64) (Ty.pair (Ty.int IntKind.i64) (Ty.pair (Ty.int IntKind.i64) (Ty.pair (Ty.int IntKind.i64) (Ty.int IntKind.i64)))))) (sh a.length y[k]) ((y[k]).1, (y[k]).2.1, (y[k]).2.2.1, (y[k]).2.2.2.1, (y[k]).2.2.2.2 + (a.length : Int)) = true := tok_same (sh a.length y[k])
          rw [if_neg ?_]
          · exact ⟨_, rfl, ⟨k + 1, rfl, by omega⟩, by omega⟩
          · simp only [Int.toNat_natCast, g1, g2]
            rw [wrap_i64 (x := (y[k]).2.2.2.2 + (a.length : Int)) (by omega) (by omega), this]
            decide
        · right
          rw [if_neg (by rw [decide_eq_true_eq]; omega)]
          exact ⟨_, rfl, rfl⟩
theorem tokenJoins_pure (x : List Int × List Int) (_ : wfTup [.sl (.int .i64), .sl (.int .i64)] x) : Z.f5F x = some true := tokenJoins_F x.1 x.2
end Go.Sx
