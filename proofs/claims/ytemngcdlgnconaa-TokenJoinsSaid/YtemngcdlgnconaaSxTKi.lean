/- Token, plain: what is read behind another pattern; quoted texts. -/
import Derived.Test.YtemngcdlgnconaaSxTKh
set_option linter.unusedVariables false
set_option linter.unusedSimpArgs false
namespace Go.Sx
section
variable {l a b : List Int} {i : Nat} {t : List TknT}
theorem app_r (k : Nat) : (a ++ b)[a.length + k]? = b[k]? := by
  rw [List.getElem?_append_right (by omega)]
  congr 1
  omega
theorem app_l {k : Nat} (h : k < a.length) : (a ++ b)[k]? = a[k]? := List.getElem?_append_left h
theorem charM_r : charM (a ++ b) (a.length + i) = Sum.map (fun r => (r.1, r.2.1, a.length + r.2.2)) (shE a.length) (charM b i) := by
  unfold charM
  rw [app_r, Nat.add_assoc, app_r]
  cases b[i]? with
  | none => rfl
  | some c =>
    dsimp only
    by_cases h : c = 92
    · rw [if_pos h, if_pos h]
      cases b[i + 1]? with
      | none => rfl
      | some d =>
        dsimp only
        by_cases h : (escM d).2.2 = true
        · rw [if_pos h, if_pos h]; rfl
        · rw [if_neg h, if_neg h]; rfl
    · rw [if_neg h, if_neg h]; rfl
theorem singleM_r : singleM (a ++ b) (a.length + i) = shR a.length (singleM b i) := by
  unfold singleM
  rw [charM_r]
  cases charM b i with
  | inr e => rfl
  | inl r =>
    simp only [Sum.map_inl, shR, sh, Sum.inl.injEq, Prod.mk.injEq, and_true, true_and]
    push_cast
    omega
theorem goesOn_r {k : Int} {j : Nat} : goesOn (l := a ++ b) k (a.length + j) ↔ goesOn (l := b) k j := by
  unfold goesOn
  rw [app_r, Nat.add_assoc, app_r]
theorem itemM_r : itemM (a ++ b) (a.length + i) = shR a.length (itemM b i) := by
  unfold itemM
  rw [singleM_r]
  cases hs : singleM b i with
  | inr e => rfl
  | inl r =>
    obtain ⟨⟨k, x, y, z, p⟩, j⟩ := r
    simp only [shR, Sum.map_inl, sh]
    by_cases hg : goesOn (l := b) k j
    · rw [if_pos (goesOn_r.2 hg), if_pos hg, Nat.add_assoc, singleM_r]
      cases hu : singleM b (j + 1) with
      | inr e => rfl
      | inl u =>
        obtain ⟨⟨k', x', y', z', p'⟩, j'⟩ := u
        simp only [shR, Sum.map_inl, sh]
        by_cases h1 : k' = 12
        · rw [if_pos h1, if_pos h1]; rfl
        · rw [if_neg h1, if_neg h1]
          by_cases h2 : x' < x
          · rw [if_pos h2, if_pos h2]; rfl
          · rw [if_neg h2, if_neg h2]
            simp only [Sum.map_inl, sh, Sum.inl.injEq, Prod.mk.injEq, and_true, true_and]
            push_cast
            omega
    · rw [if_neg (fun h => hg (goesOn_r.1 h)), if_neg hg]
      rfl
theorem digM_r : digM (a ++ b) (a.length + i) = ((digM b i).1, (digM b i).2.1, a.length + (digM b i).2.2) := by
  unfold digM
  have e : (a ++ b).drop (a.length + i) = b.drop i := by rw [List.drop_append]; simp
  rw [e, app_r, Nat.add_assoc]
theorem bracesM_r : bracesM (a ++ b) (a.length + i) = Sum.map (fun r => (r.1, r.2.1, r.2.2.1, a.length + r.2.2.2)) (shE a.length) (bracesM b i) := by
  unfold bracesM
  rw [digM_r]
  generalize digM b i = q
  obtain ⟨v, s, j⟩ := q
  dsimp only
  rw [app_r, Nat.add_assoc, app_r, digM_r]
  generalize digM b (j + 1) = p
  obtain ⟨w, s', k⟩ := p
  dsimp only
  rw [app_r]
  cases b[j]? with
  | none => rfl
  | some c =>
    dsimp only
    split
    · rfl
    split
    · rfl
    split
    · rfl
    cases b[j + 1]? with
    | none => rfl
    | some d =>
      dsimp only
      split
      · rfl
      cases b[k]? with
      | none => rfl
      | some e =>
        dsimp only
        split
        · rfl
        split <;> rfl
theorem repM_r {lo hi : Int} {j : Nat} : Nx.rep (repM (a ++ b) ((a.length + i : Nat) : Int) lo hi (a.length + j)) = Nx.sh a.length (.rep (repM b (i : Int) lo hi j)) := by
  unfold repM
  rw [app_r]
  have e : (((a.length + i : Nat) : Int)) = (i : Int) + (a.length : Int) := by push_cast; omega
  have e2 : (((a.length + j : Nat) : Int)) = (j : Int) + (a.length : Int) := by push_cast; omega
  split
  · simp only [Nx.rep, Nx.sh, List.map_cons, List.map_nil, sh, e, e2]; rfl
  · simp only [Nx.rep, Nx.sh, List.map_cons, List.map_nil, sh, e]
theorem one_r {q : (TknT × Nat) ⊕ (Nat × Int)} {m : Bool} : Nx.one (shR a.length q) m = Nx.sh a.length (.one q m) := by cases q <;> rfl
theorem tok_r {k x : Int} {j : Nat} {m : Bool} : Nx.go [(k, x, 0, 0, ((a.length + i : Nat) : Int))] (a.length + j) m = Nx.sh a.length (.go [(k, x, 0, 0, (i : Int))] j m) := by
  have e : (((a.length + i : Nat) : Int)) = (i : Int) + (a.length : Int) := by push_cast; omega
  simp only [Nx.sh, List.map_cons, List.map_nil, sh, e]
theorem stepM_r {m : Bool} : stepM (a ++ b) m (a.length + i) = Nx.sh a.length (stepM b m i) := by
  unfold stepM
  cases m with
  | true =>
    rw [if_pos rfl, if_pos rfl]
    unfold clsM
    rw [app_r]
    cases b[i]? with
    | none => rfl
    | some c =>
      dsimp only
      by_cases h : c = 93
      · rw [if_pos h, if_pos h, Nat.add_assoc, tok_r]
      · rw [if_neg h, if_neg h, itemM_r, one_r]
  | false =>
    rw [if_neg (by simp), if_neg (by simp)]
    unfold outM
    rw [app_r, Nat.add_assoc, app_r]
    cases b[i]? with
    | none => rfl
    | some c =>
      dsimp only
      by_cases h : c = 91
      · rw [if_pos h, if_pos h]
        split
        · rw [Nat.add_assoc, tok_r]
        · rw [tok_r]
      rw [if_neg h, if_neg h]
      by_cases h : c = 123
      · rw [if_pos h, if_pos h, bracesM_r]
        cases bracesM b (i + 1) with
        | inr e => rfl
        | inl r =>
          simp only [Sum.map_inl]
          split
          · rfl
          · rw [repM_r]
      rw [if_neg h, if_neg h]
      by_cases h : c = 63
      · rw [if_pos h, if_pos h, repM_r]
      rw [if_neg h, if_neg h]
      by_cases h : c = 42
      · rw [if_pos h, if_pos h, repM_r]
      rw [if_neg h, if_neg h]
      by_cases h : c = 43
      · rw [if_pos h, if_pos h, repM_r]
      rw [if_neg h, if_neg h]
      by_cases h : c = 46
      · rw [if_pos h, if_pos h, tok_r]
      rw [if_neg h, if_neg h]
      by_cases h : c = 40
      · rw [if_pos h, if_pos h, tok_r]
      rw [if_neg h, if_neg h]
      by_cases h : c = 41
      · rw [if_pos h, if_pos h, tok_r]
      rw [if_neg h, if_neg h]
      by_cases h : c = 124
      · rw [if_pos h, if_pos h, tok_r]
      rw [if_neg h, if_neg h]
      by_cases h : c = 94
      · rw [if_pos h, if_pos h, tok_r]
      rw [if_neg h, if_neg h]
      by_cases h : c = 36
      · rw [if_pos h, if_pos h, tok_r]
      rw [if_neg h, if_neg h, singleM_r, one_r]
theorem Rd.shift {m : Bool} {r : List TknT ⊕ (Nat × Int)} (h : Rd b m i r) : Rd (a ++ b) m (a.length + i) (Sum.map (List.map (sh a.length)) (shE a.length) r) := by
  induction h with
  | done h => exact .done (by rw [stepM_r, h]; rfl)
  | err h => exact .err (by rw [stepM_r, h]; rfl)
  | @go m i ts j m' r h _ ih =>
    have := Rd.go (show stepM (a ++ b) m (a.length + i) = .go (ts.map (sh a.length)) (a.length + j) m' by rw [stepM_r, h]; rfl) ih
    cases r with
    | inl x => simpa using this
    | inr e => exact this
theorem app_some {k : Nat} {c : Int} (h : a[k]? = some c) : (a ++ b)[k]? = some c := by
  rw [app_l (List.getElem?_eq_some_iff.1 h).1, h]
theorem charM_l {r : Int × Bool × Nat} (h : charM a i = .inl r) : charM (a ++ b) i = .inl r := by
  unfold charM at h ⊢
  cases hc : a[i]? with
  | none => rw [hc] at h; cases h
  | some c =>
    rw [hc] at h
    rw [app_some hc]
    dsimp only at h ⊢
    by_cases h92 : c = 92
    · rw [if_pos h92] at h ⊢
      cases hd : a[i + 1]? with
      | none => rw [hd] at h; cases h
      | some d => rw [hd] at h; rw [app_some hd]; exact h
    · rw [if_neg h92] at h ⊢
      exact h
theorem singleM_l {r : TknT × Nat} (h : singleM a i = .inl r) : singleM (a ++ b) i = .inl r := by
  unfold singleM at h ⊢
  cases hc : charM a i with
  | inr e => rw [hc] at h; cases h
  | inl q => rw [hc] at h; rw [charM_l hc]; exact h
theorem goesOn_lt {k : Int} {j : Nat} (h : goesOn (l := a) k j) : j + 1 < a.length := by
  rcases Nat.lt_or_ge (j + 1) a.length with h' | h'
  · exact h'
  · exact absurd (List.getElem?_eq_none (by omega)) h.2.2.1
theorem goesOn_l {k : Int} {j : Nat} (hj : j < a.length) (h93 : j + 1 = a.length → a[j]? = some 93) : goesOn (l := a ++ b) k j ↔ goesOn (l := a) k j := by
  unfold goesOn
  rw [app_l hj]
  rcases Nat.lt_or_ge (j + 1) a.length with h | h
  · rw [app_l h]
  · rw [h93 (by omega)]
    constructor
    · rintro ⟨-, h, -⟩; exact absurd (Option.some.inj h) (by decide)
    · rintro ⟨-, h, -⟩; exact absurd (Option.some.inj h) (by decide)
theorem itemM_l {r : TknT × Nat} (h : itemM a i = .inl r) (hj : r.2 < a.length) (h93 : r.2 + 1 = a.length → a[r.2]? = some 93) : itemM (a ++ b) i = .inl r := by
  unfold itemM at h ⊢
  cases hs : singleM a i with
  | inr e => rw [hs] at h; cases h
  | inl q =>
    rw [hs] at h
    rw [singleM_l hs]
    dsimp only at h ⊢
    by_cases hg : goesOn (l := a) q.1.1 q.2
    · have hlt := goesOn_lt hg
      rw [if_pos hg] at h
      rw [if_pos ((goesOn_l (by omega) (fun h => by omega)).2 hg)]
      cases hu : singleM a (q.2 + 1) with
      | inr e => rw [hu] at h; cases h
      | inl u => rw [hu] at h; rw [singleM_l hu]; exact h
    · rw [if_neg hg] at h
      cases h
      rw [if_neg (fun h => hg ((goesOn_l hj h93).1 h))]
theorem digM_l {q : Int × Bool × Nat} (hi : i ≤ a.length) (h : digM a i = q) (hj : q.2.2 < a.length) : digM (a ++ b) i = q := by
  subst h
  have e : (a ++ b).drop i = a.drop i ++ b := by rw [List.drop_append, Nat.sub_eq_zero_of_le hi, List.drop_zero]
  have h1 : (digV 0 (a.drop i)).2 < (a.drop i).length := by
    rw [List.length_drop]
    unfold digM at hj
    dsimp only at hj
    omega
  unfold digM
  rw [e, digV_app _ _ _ h1, app_l (show i < a.length by rw [List.length_drop] at h1; omega)]
theorem bracesM_l {r : Int × Int × Bool × Nat} (hi : i ≤ a.length) (h : bracesM a i = .inl r) : bracesM (a ++ b) i = .inl r := by
  unfold bracesM at h ⊢
  generalize hq : digM a i = q at h
  obtain ⟨v, s, j⟩ := q
  dsimp only at h
  cases hc : a[j]? with
  | none => rw [hc] at h; cases h
  | some c =>
    have hj : j < a.length := (List.getElem?_eq_some_iff.1 hc).1
    rw [digM_l hi hq hj]
    dsimp only
    rw [hc] at h
    rw [app_some hc]
    dsimp only at h ⊢
    by_cases h1 : s = false
    · rw [if_pos h1] at h ⊢; exact h
    rw [if_neg h1] at h ⊢
    by_cases h1 : c = 125
    · rw [if_pos h1] at h ⊢; exact h
    rw [if_neg h1] at h ⊢
    by_cases h1 : c ≠ 44
    · rw [if_pos h1] at h ⊢; exact h
    rw [if_neg h1] at h ⊢
    cases hd : a[j + 1]? with
    | none => rw [hd] at h; cases h
    | some d =>
      have hj1 : j + 1 < a.length := (List.getElem?_eq_some_iff.1 hd).1
      rw [hd] at h
      rw [app_some hd]
      dsimp only at h ⊢
      by_cases h1 : d = 125
      · rw [if_pos h1] at h ⊢; exact h
      rw [if_neg h1] at h ⊢
      generalize hp : digM a (j + 1) = p at h
      obtain ⟨w, s', k⟩ := p
      dsimp only at h
      cases he : a[k]? with
      | none => rw [he] at h; cases h
      | some e =>
        have hk : k < a.length := (List.getElem?_eq_some_iff.1 he).1
        rw [digM_l (by omega) hp hk]
        dsimp only
        rw [he] at h
        rw [app_some he]
        exact h
theorem repM_l {p lo hi : Int} {j : Nat} (hb : b[0]? ≠ some 63) (hj : j ≤ a.length) : repM (a ++ b) p lo hi j = repM a p lo hi j := by
  unfold repM
  rcases Nat.lt_or_ge j a.length with h | h
  · rw [app_l h]
  · have e : j = a.length + 0 := by omega
    rw [e, app_r, if_neg hb, if_neg (by rw [List.getElem?_eq_none (by omega)]; simp)]
theorem stepM_l {m m' : Bool} {ts : List TknT} {j : Nat} (h : stepM a m i = .go ts j m') (hb : b[0]? ≠ some 63) (hm : m' = true → j < a.length ∧ (j + 1 = a.length → a[j]? = some 93)) : stepM (a ++ b) m i = .go ts j m' := by
  unfold stepM at h ⊢
  cases m with
  | true =>
    rw [if_pos rfl] at h ⊢
    unfold clsM at h ⊢
    cases hc : a[i]? with
    | none => rw [hc] at h; cases h
    | some c =>
      rw [hc] at h
      rw [app_some hc]
      dsimp only at h ⊢
      by_cases h93 : c = 93
      · rw [if_pos h93] at h ⊢; exact h
      · rw [if_neg h93] at h ⊢
        cases hs : itemM a i with
        | inr e => rw [hs] at h; cases h
        | inl r =>
          rw [hs] at h
          cases h
          rw [itemM_l hs (hm rfl).1 (hm rfl).2]
          rfl
  | false =>
    rw [if_neg (by simp)] at h ⊢
    unfold outM at h ⊢
    cases hc : a[i]? with
    | none => rw [hc] at h; cases h
    | some c =>
      have hi : i < a.length := (List.getElem?_eq_some_iff.1 hc).1
      rw [hc] at h
      rw [app_some hc]
      dsimp only at h ⊢
      by_cases h1 : c = 91
      · rw [if_pos h1] at h ⊢
        by_cases h94 : a[i + 1]? = some 94
        · rw [if_pos h94] at h; rw [if_pos (app_some h94)]; exact h
        · rw [if_neg h94] at h
          have : i + 1 < a.length := by cases h; exact (hm rfl).1
          rw [if_neg (by rw [app_l this]; exact h94)]
          exact h
      rw [if_neg h1] at h ⊢
      by_cases h1 : c = 123
      · rw [if_pos h1] at h ⊢
        cases hs : bracesM a (i + 1) with
        | inr e => rw [hs] at h; cases h
        | inl r =>
          obtain ⟨-, b2, -⟩ := bracesM_in (by omega) hs
          rw [hs] at h
          rw [bracesM_l (by omega) hs]
          dsimp only at h ⊢
          rw [repM_l hb b2]
          exact h
      rw [if_neg h1] at h ⊢
      rw [repM_l hb (by omega), repM_l hb (by omega), repM_l hb (by omega)]
      by_cases h1 : c = 63
      · rw [if_pos h1] at h ⊢; exact h
      rw [if_neg h1] at h ⊢
      by_cases h1 : c = 42
      · rw [if_pos h1] at h ⊢; exact h
      rw [if_neg h1] at h ⊢
      by_cases h1 : c = 43
      · rw [if_pos h1] at h ⊢; exact h
      rw [if_neg h1] at h ⊢
      by_cases h1 : c = 46
      · rw [if_pos h1] at h ⊢; exact h
      rw [if_neg h1] at h ⊢
      by_cases h1 : c = 40
      · rw [if_pos h1] at h ⊢; exact h
      rw [if_neg h1] at h ⊢
      by_cases h1 : c = 41
      · rw [if_pos h1] at h ⊢; exact h
      rw [if_neg h1] at h ⊢
      by_cases h1 : c = 124
      · rw [if_pos h1] at h ⊢; exact h
      rw [if_neg h1] at h ⊢
      by_cases h1 : c = 94
      · rw [if_pos h1] at h ⊢; exact h
      rw [if_neg h1] at h ⊢
      by_cases h1 : c = 36
      · rw [if_pos h1] at h ⊢; exact h
      rw [if_neg h1] at h ⊢
      cases hs : singleM a i with
      | inr e => rw [hs] at h; cases h
      | inl r => rw [hs] at h; rw [singleM_l hs]; exact h
theorem Rd.more {r : List TknT ⊕ (Nat × Int)} {x : List TknT} (h : Rd a true i r) (hr : r = .inl x) (hi : i ≤ a.length) : i < a.length ∧ (i + 1 = a.length → a[i]? = some 93) := by
  have hst : ∀ {k}, k ≤ a.length → a.length ≤ k → ∀ {r}, Rd a true k r → ∀ {x}, r ≠ .inl x := by
    intro k hk hk' r hr x hx
    have e : stepM a true k = .err k 4 := by
      unfold stepM clsM
      rw [if_pos rfl, List.getElem?_eq_none hk']
    cases hr with
    | done h => rw [e] at h; cases h
    | err h => cases hx
    | go h => rw [e] at h; cases h
  have hlt : i < a.length := by
    rcases Nat.lt_or_ge i a.length with h' | h'
    · exact h'
    · exact absurd hr (hst hi h' h)
  refine ⟨hlt, fun h1 => ?_⟩
  cases h with
  | done h => exact absurd (stepM_done hi h).1 (by simp)
  | err h => cases hr
  | @go _ _ ts j m' r' h k =>
    obtain ⟨s1, s2⟩ := stepM_shape hi h
    have s3 := s1.ltj
    have hr' : ∃ y, r' = .inl y := by
      cases r' with
      | inl y => exact ⟨y, rfl⟩
      | inr e => cases hr
    obtain ⟨y, hy⟩ := hr'
    cases m' with
    | true => exact absurd hy (hst s2 (by omega) k)
    | false =>
      unfold stepM clsM at h
      rw [if_pos rfl] at h
      cases hc : a[i]? with
      | none => rw [hc] at h; cases h
      | some c =>
        rw [hc] at h
        dsimp only at h
        by_cases h93 : c = 93
        · rw [h93]
        · rw [if_neg h93] at h
          cases hs : itemM a i with
          | inr e => rw [hs] at h; cases h
          | inl q => rw [hs] at h; cases h
theorem Rd.join {m : Bool} {r r' : List TknT ⊕ (Nat × Int)} (h : Rd a m i r) : ∀ {x : List TknT}, r = .inl x → i ≤ a.length → b[0]? ≠ some 63 → Rd b false 0 r' → Rd (a ++ b) m i (Sum.map (fun y => x ++ y.map (sh a.length)) (shE a.length) r') := by
  induction h with
  | done h =>
    intro x hx hi hb hr
    obtain ⟨h1, h2⟩ := stepM_done hi h
    subst h1; subst h2; cases hx
    have := hr.shift (a := a)
    simpa using this
  | err h => intro x hx; cases hx
  | @go m i ts j m' r h k ih =>
    intro x hx hi hb hr
    obtain ⟨s1, s2⟩ := stepM_shape hi h
    cases r with
    | inr e => cases hx
    | inl y =>
      cases hx
      have hst := stepM_l h hb (fun hm => by subst hm; exact k.more rfl s2)
      have := Rd.go hst (ih rfl s2 hb hr)
      cases r' with
      | inl z => simpa using this
      | inr e => exact this
end
end Go.Sx
