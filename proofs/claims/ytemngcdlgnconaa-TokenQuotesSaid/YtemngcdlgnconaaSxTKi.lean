/- Token, plain: what is read behind another pattern; quoted texts. -/
import Derived.Test.YtemngcdlgnconaaSxTKh
set_option linter.unusedVariables false
set_option linter.unusedSimpArgs false
namespace Go.Sx
section
variable {l a b : List Int} {i : Nat} {t : List TknT}
theorem app_r (k : Nat) : (a ++ b)[a.length + k]? = b[k]? := by
  rw [List.getElem?_append_right (by omega)]
  congr 1
  omega
theorem charM_r : charM (a ++ b) (a.length + i) = Sum.map (fun r => (r.1, r.2.1, a.length + r.2.2)) (shE a.length) (charM b i) := by
  unfold charM
  rw [app_r, Nat.add_assoc, app_r]
  cases b[i]? with
  | none => rfl
  | some c =>
    dsimp only
    by_cases h : c = 92
    · rw [if_pos h, if_pos h]
      cases b[i + 1]? with
      | none => rfl
      | some d =>
        dsimp only
        by_cases h : (escM d).2.2 = true
        · rw [if_pos h, if_pos h]; rfl
        · rw [if_neg h, if_neg h]; rfl
    · rw [if_neg h, if_neg h]; rfl
theorem singleM_r : singleM (a ++ b) (a.length + i) = shR a.length (singleM b i) := by
  unfold singleM
  rw [charM_r]
  cases charM b i with
  | inr e => rfl
  | inl r =>
    simp only [Sum.map_inl, shR, sh, Sum.inl.injEq, Prod.mk.injEq, and_true, true_and]
    push_cast
    omega
theorem goesOn_r {k : Int} {j : Nat} : goesOn (l := a ++ b) k (a.length + j) ↔ goesOn (l := b) k j := by
  unfold goesOn
  rw [app_r, Nat.add_assoc, app_r]
theorem itemM_r : itemM (a ++ b) (a.length + i) = shR a.length (itemM b i) := by
  unfold itemM
  rw [singleM_r]
  cases hs : singleM b i with
  | inr e => rfl
  | inl r =>
    obtain ⟨⟨k, x, y, z, p⟩, j⟩ := r
    simp only [shR, Sum.map_inl, sh]
    by_cases hg : goesOn (l := b) k j
    · rw [if_pos (goesOn_r.2 hg), if_pos hg, Nat.add_assoc, singleM_r]
      cases hu : singleM b (j + 1) with
      | inr e => rfl
      | inl u =>
        obtain ⟨⟨k', x', y', z', p'⟩, j'⟩ := u
        simp only [shR, Sum.map_inl, sh]
        by_cases h1 : k' = 12
        · rw [if_pos h1, if_pos h1]; rfl
        · rw [if_neg h1, if_neg h1]
          by_cases h2 : x' < x
          · rw [if_pos h2, if_pos h2]; rfl
          · rw [if_neg h2, if_neg h2]
            simp only [Sum.map_inl, sh, Sum.inl.injEq, Prod.mk.injEq, and_true, true_and]
            push_cast
            omega
    · rw [if_neg (fun h => hg (goesOn_r.1 h)), if_neg hg]
      rfl
theorem digM_r : digM (a ++ b) (a.length + i) = ((digM b i).1, (digM b i).2.1, a.length + (digM b i).2.2) := by
  unfold digM
  have e : (a ++ b).drop (a.length + i) = b.drop i := by rw [List.drop_append]; simp
  rw [e, app_r, Nat.add_assoc]
theorem bracesM_r : bracesM (a ++ b) (a.length + i) = Sum.map (fun r => (r.1, r.2.1, r.2.2.1, a.length + r.2.2.2)) (shE a.length) (bracesM b i) := by
  unfold bracesM
  rw [digM_r]
  generalize digM b i = q
  obtain ⟨v, s, j⟩ := q
  dsimp only
  rw [app_r, Nat.add_assoc, app_r, digM_r]
  generalize digM b (j + 1) = p
  obtain ⟨w, s', k⟩ := p
  dsimp only
  rw [app_r]
  cases b[j]? with
  | none => rfl
  | some c =>
    dsimp only
    split
    · rfl
    split
    · rfl
    split
    · rfl
    cases b[j + 1]? with
    | none => rfl
    | some d =>
      dsimp only
      split
      · rfl
      cases b[k]? with
      | none => rfl
      | some e =>
        dsimp only
        split
        · rfl
        split <;> rfl
theorem repM_r {lo hi : Int} {j : Nat} : Nx.rep (repM (a ++ b) ((a.length + i : Nat) : Int) lo hi (a.length + j)) = Nx.sh a.length (.rep (repM b (i : Int) lo hi j)) := by
  unfold repM
  rw [app_r]
  have e : (((a.length + i : Nat) : Int)) = (i : Int) + (a.length : Int) := by push_cast; omega
  have e2 : (((a.length + j : Nat) : Int)) = (j : Int) + (a.length : Int) := by push_cast; omega
  split
  · simp only [Nx.rep, Nx.sh, List.map_cons, List.map_nil, sh, e, e2]; rfl
  · simp only [Nx.rep, Nx.sh, List.map_cons, List.map_nil, sh, e]
theorem one_r {q : (TknT × Nat) ⊕ (Nat × Int)} {m : Bool} : Nx.one (shR a.length q) m = Nx.sh a.length (.one q m) := by cases q <;> rfl
theorem tok_r {k x : Int} {j : Nat} {m : Bool} : Nx.go [(k, x, 0, 0, ((a.length + i : Nat) : Int))] (a.length + j) m = Nx.sh a.length (.go [(k, x, 0, 0, (i : Int))] j m) := by
  have e : (((a.length + i : Nat) : Int)) = (i : Int) + (a.length : Int) := by push_cast; omega
  simp only [Nx.sh, List.map_cons, List.map_nil, sh, e]
theorem stepM_r {m : Bool} : stepM (a ++ b) m (a.length + i) = Nx.sh a.length (stepM b m i) := by
  unfold stepM
  cases m with
  | true =>
    rw [if_pos rfl, if_pos rfl]
    unfold clsM
    rw [app_r]
    cases b[i]? with
    | none => rfl
    | some c =>
      dsimp only
      by_cases h : c = 93
      · rw [if_pos h, if_pos h, Nat.add_assoc, tok_r]
      · rw [if_neg h, if_neg h, itemM_r, one_r]
  | false =>
    rw [if_neg (by simp), if_neg (by simp)]
    unfold outM
    rw [app_r, Nat.add_assoc, app_r]
    cases b[i]? with
    | none => rfl
    | some c =>
      dsimp only
      by_cases h : c = 91
      · rw [if_pos h, if_pos h]
        split
        · rw [Nat.add_assoc, tok_r]
        · rw [tok_r]
      rw [if_neg h, if_neg h]
      by_cases h : c = 123
      · rw [if_pos h, if_pos h, bracesM_r]
        cases bracesM b (i + 1) with
        | inr e => rfl
        | inl r =>
          simp only [Sum.map_inl]
          split
          · rfl
          · rw [repM_r]
      rw [if_neg h, if_neg h]
      by_cases h : c = 63
      · rw [if_pos h, if_pos h, repM_r]
      rw [if_neg h, if_neg h]
      by_cases h : c = 42
      · rw [if_pos h, if_pos h, repM_r]
      rw [if_neg h, if_neg h]
      by_cases h : c = 43
      · rw [if_pos h, if_pos h, repM_r]
      rw [if_neg h, if_neg h]
      by_cases h : c = 46
      · rw [if_pos h, if_pos h, tok_r]
      rw [if_neg h, if_neg h]
      by_cases h : c = 40
      · rw [if_pos h, if_pos h, tok_r]
      rw [if_neg h, if_neg h]
      by_cases h : c = 41
      · rw [if_pos h, if_pos h, tok_r]
      rw [if_neg h, if_neg h]
      by_cases h : c = 124
      · rw [if_pos h, if_pos h, tok_r]
      rw [if_neg h, if_neg h]
      by_cases h : c = 94
      · rw [if_pos h, if_pos h, tok_r]
      rw [if_neg h, if_neg h]
      by_cases h : c = 36
      · rw [if_pos h, if_pos h, tok_r]
      rw [if_neg h, if_neg h, singleM_r, one_r]
end
def qM : List Int → List Int
  | [] => []
  | c :: r => (if isSign c = true then [92, c] else [c]) ++ qM r
theorem qM_app (x y : List Int) : qM (x ++ y) = qM x ++ qM y := by
  induction x with
  | nil => rfl
  | cons c r ih => simp only [List.cons_append, qM, ih, List.append_assoc]
theorem qM_len (x : List Int) : (qM x).length ≤ 2 * x.length := by
  induction x with
  | nil => exact Nat.le_refl _
  | cons c r ih =>
    simp only [qM, List.length_append, List.length_cons]
    split
    · simp only [List.length_cons, List.length_nil]; omega
    · simp only [List.length_cons, List.length_nil]; omega
theorem sign_esc {c : Int} (h : isSign c = true) : escM c = (c, false, true) := by
  unfold isSign at h
  simp only [List.contains_eq_mem, List.mem_cons, List.not_mem_nil, or_false, decide_eq_true_eq] at h
  unfold escM isGrp isSign
  simp only [List.contains_eq_mem, List.mem_cons, List.not_mem_nil, or_false, decide_eq_true_eq]
  rw [if_neg (by omega), if_neg (by omega), if_neg (by omega), if_pos (by omega)]
theorem sign_not {c : Int} (h : isSign c = false) : c ≠ 91 ∧ c ≠ 123 ∧ c ≠ 63 ∧ c ≠ 42 ∧ c ≠ 43 ∧ c ≠ 46 ∧ c ≠ 40 ∧ c ≠ 41 ∧ c ≠ 124 ∧ c ≠ 94 ∧ c ≠ 36 ∧ c ≠ 92 := by
  unfold isSign at h
  simp only [List.contains_eq_mem, List.mem_cons, List.not_mem_nil, or_false, decide_eq_false_iff_not] at h
  omega
theorem quote_step (c : Int) (r : List Int) : stepM ((if isSign c = true then [92, c] else [c]) ++ r) false 0 = .go [(1, c, 0, 0, 0)] (if isSign c = true then [92, c] else [c]).length false := by
  unfold stepM outM
  rw [if_neg (by simp)]
  by_cases h : isSign c = true
  · rw [if_pos h]
    simp only [List.cons_append, List.nil_append, List.getElem?_cons_zero, Int.reduceEq, if_false]
    unfold singleM charM
    simp only [List.getElem?_cons_zero, List.getElem?_cons_succ, if_true, Nat.zero_add, sign_esc h, Nx.one]
    rfl
  · rw [if_neg h]
    obtain ⟨h1, h2, h3, h4, h5, h6, h7, h8, h9, h10, h11, h12⟩ := sign_not (by simpa using h)
    simp only [List.cons_append, List.nil_append, List.getElem?_cons_zero, h1, h2, h3, h4, h5, h6, h7, h8, h9, h10, h11, if_false]
    unfold singleM charM
    simp only [List.getElem?_cons_zero, h12, if_false, Nx.one]
    rfl
theorem quote_rd : ∀ (x p : List Int), ∃ ts, Rd (p ++ qM x) false p.length (.inl ts) ∧ ts.map (fun t => (t.1, t.2.1)) = x.map (fun c => (1, c))
  | [], p => by
    refine ⟨[], .done ?_, rfl⟩
    have := stepM_r (a := p) (b := qM []) (i := 0) (m := false)
    rw [Nat.add_zero] at this
    rw [this]
    rfl
  | c :: r, p => by
    obtain ⟨ts, h1, h2⟩ := quote_rd r (p ++ (if isSign c = true then [92, c] else [c]))
    have hs := stepM_r (a := p) (b := qM (c :: r)) (i := 0) (m := false)
    rw [Nat.add_zero] at hs
    rw [qM, quote_step] at hs
    rw [List.append_assoc, List.length_append] at h1
    refine ⟨_, Rd.go hs h1, ?_⟩
    simp only [List.map_append, List.map_cons, List.map_nil, sh, h2, List.singleton_append]
end Go.Sx
