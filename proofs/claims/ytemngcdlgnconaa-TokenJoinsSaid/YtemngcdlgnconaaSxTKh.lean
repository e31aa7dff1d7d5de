/- Token, plain: a whole reading; what is read behind another pattern. -/
import Derived.Test.YtemngcdlgnconaaSxTKg
set_option linter.unusedVariables false
set_option linter.unusedSimpArgs false
namespace Go.Sx
def sh (n : Nat) (t : TknT) : TknT := (t.1, t.2.1, t.2.2.1, t.2.2.2.1, t.2.2.2.2 + (n : Int))
def shE (n : Nat) (e : Nat × Int) : Nat × Int := (n + e.1, e.2)
def shR (n : Nat) : (TknT × Nat) ⊕ (Nat × Int) → (TknT × Nat) ⊕ (Nat × Int) := Sum.map (fun r => (sh n r.1, n + r.2)) (shE n)
def Nx.sh (n : Nat) : Nx → Nx
  | .done => .done
  | .err p e => .err (n + p) e
  | .go ts j m => .go (ts.map (Sx.sh n)) (n + j) m
inductive Rd (l : List Int) : Bool → Nat → List TknT ⊕ (Nat × Int) → Prop
  | done {m i} : stepM l m i = .done → Rd l m i (.inl [])
  | err {m i p e} : stepM l m i = .err p e → Rd l m i (.inr (p, e))
  | go {m i ts j m' r} : stepM l m i = .go ts j m' → Rd l m' j r → Rd l m i (Sum.map (ts ++ ·) id r)
theorem Rd.det {l : List Int} {m : Bool} {i : Nat} {r r' : List TknT ⊕ (Nat × Int)} (h : Rd l m i r) : Rd l m i r' → r = r' := by
  induction h generalizing r' with
  | done h => intro h'; cases h' with
    | done _ => rfl
    | err g => rw [h] at g; cases g
    | go g _ => rw [h] at g; cases g
  | err h => intro h'; cases h' with
    | done g => rw [h] at g; cases g
    | err g => rw [h] at g; cases g; rfl
    | go g _ => rw [h] at g; cases g
  | go h _ ih => intro h'; cases h' with
    | done g => rw [h] at g; cases g
    | err g => rw [h] at g; cases g
    | go g k => rw [h] at g; cases g; rw [ih k]
section
variable {l a b : List Int} {i : Nat} {t : List TknT}
def okRep (lo hi : Int) : Prop := (0 ≤ lo ∧ lo ≤ 20) ∧ hi ≤ 20 ∧ (hi ≥ 0 → lo ≤ hi)
def okTok (m : Bool) (t : TknT) : Prop :=
  (1 ≤ t.1 ∧ t.1 ≤ 12) ∧ (t.1 = 7 → m = false) ∧ (t.1 = 8 → m = true) ∧ (t.1 = 9 → m = true ∧ t.2.2.1 ≤ t.2.2.2.1) ∧ (m = true → t.1 = 1 ∨ t.1 = 12 ∨ t.1 = 9 ∨ t.1 = 8) ∧ (t.1 = 6 → okRep t.2.2.1 t.2.2.2.1)
def nextC (m : Bool) (t : TknT) : Bool := if t.1 = 7 then true else if t.1 = 8 then false else m
inductive Shape (i : Nat) : Bool → List TknT → Nat → Bool → Prop
  | one {m j} (t : TknT) : i < j → t.2.2.2.2 = (i : Int) → okTok m t → Shape i m [t] j (nextC m t)
  | rep {lo hi : Int} {j : Nat} : i < j → okRep lo hi → Shape i false [(6, 0, lo, hi, (i : Int)), (13, 0, 0, 0, (j : Int))] (j + 1) false
theorem Shape.out {k x : Int} {j : Nat} (h : i < j) (hk : k = 1 ∨ k = 2 ∨ k = 3 ∨ k = 4 ∨ k = 5 ∨ k = 10 ∨ k = 11 ∨ k = 12) : Shape i false [(k, x, 0, 0, (i : Int))] j false := by
  have e : nextC false (k, x, 0, 0, (i : Int)) = false := by
    unfold nextC
    rw [if_neg (by dsimp only; omega)]
    split <;> rfl
  have := Shape.one (i := i) (m := false) (k, x, 0, 0, (i : Int)) h rfl ⟨by dsimp only; omega, fun _ => rfl, fun h => by dsimp only at h; omega, fun h => by dsimp only at h; omega, fun h => (nomatch h), fun h => by dsimp only at h; omega⟩
  rwa [e] at this
theorem repM_shape {lo hi : Int} {j : Nat} (hi' : i < j) (hr : okRep lo hi) : Shape i false (repM l (i : Int) lo hi j).1 (repM l (i : Int) lo hi j).2 false := by
  unfold repM
  by_cases h : l[j]? = some 63
  · rw [if_pos h]; exact .rep hi' hr
  · rw [if_neg h]
    exact Shape.one (m := false) (6, 0, lo, hi, (i : Int)) hi' rfl ⟨by dsimp only; omega, fun h => by dsimp only at h; omega, fun h => by dsimp only at h; omega, fun h => by dsimp only at h; omega, fun h => (nomatch h), fun _ => hr⟩
theorem repM_in {p lo hi : Int} {j : Nat} (hj : j ≤ l.length) : (repM l p lo hi j).2 ≤ l.length := by
  unfold repM
  by_cases h : l[j]? = some 63
  · rw [if_pos h]; have := (List.getElem?_eq_some_iff.1 h).1; dsimp only; omega
  · rw [if_neg h]; exact hj
theorem single_shape {r : TknT × Nat} (h : singleM l i = .inl r) : Shape i false [r.1] r.2 false := by
  obtain ⟨h1, -, h3, h4, h5, h6⟩ := singleM_in h
  obtain ⟨⟨k, x, y, z, p⟩, j⟩ := r
  dsimp only at h1 h3 h4 h5 h6 ⊢
  subst h3; subst h5; subst h6
  exact Shape.out h1 (by omega)
theorem itemM_shape {r : TknT × Nat} (h : itemM l i = .inl r) : Shape i true [r.1] r.2 true ∧ r.2 ≤ l.length := by
  unfold itemM at h
  cases hs : singleM l i with
  | inr e => rw [hs] at h; cases h
  | inl q =>
    rw [hs] at h
    obtain ⟨h1, h2, h3, h4, h5, h6⟩ := singleM_in hs
    obtain ⟨⟨k, x, y, z, p⟩, j⟩ := q
    dsimp only at h h1 h2 h3 h4 h5 h6
    by_cases hg : goesOn l k j
    · rw [if_pos hg] at h
      cases hu : singleM l (j + 1) with
      | inr e => rw [hu] at h; cases h
      | inl u =>
        rw [hu] at h
        obtain ⟨g1, g2, g3, g4, g5, g6⟩ := singleM_in hu
        obtain ⟨⟨k', x', y', z', p'⟩, j'⟩ := u
        dsimp only at h g1 g2 g3 g4 g5 g6
        by_cases c1 : k' = 12
        · rw [if_pos c1] at h; cases h
        · rw [if_neg c1] at h
          by_cases c2 : x' < x
          · rw [if_pos c2] at h; cases h
          · rw [if_neg c2] at h
            cases h
            exact ⟨Shape.one (m := true) (9, 0, x, x', (i : Int)) (by dsimp only; omega) rfl ⟨by dsimp only; omega, fun h => by dsimp only at h; omega, fun h => rfl, fun h => ⟨rfl, by dsimp only; omega⟩, fun h => by dsimp only; omega, fun h => by dsimp only at h; omega⟩, g2⟩
    · rw [if_neg hg] at h
      cases h
      have e : nextC true (k, x, y, z, p) = true := by
        unfold nextC
        rw [if_neg (by dsimp only; omega), if_neg (by dsimp only; omega)]
      have := Shape.one (i := i) (m := true) (k, x, y, z, p) h1 h3 ⟨by dsimp only; omega, fun h => by dsimp only at h; omega, fun h => rfl, fun h => by dsimp only at h; omega, fun h => by dsimp only; omega, fun h => by dsimp only at h; omega⟩
      rw [e] at this
      exact ⟨this, h2⟩
theorem stepM_shape {m m' : Bool} {ts : List TknT} {j : Nat} (hi : i ≤ l.length) (h : stepM l m i = .go ts j m') : Shape i m ts j m' ∧ j ≤ l.length := by
  unfold stepM at h
  cases m with
  | true =>
    rw [if_pos rfl] at h
    unfold clsM at h
    cases hc : l[i]? with
    | none => rw [hc] at h; cases h
    | some c =>
      have hlt : i < l.length := (List.getElem?_eq_some_iff.1 hc).1
      rw [hc] at h
      dsimp only at h
      by_cases h93 : c = 93
      · rw [if_pos h93] at h
        cases h
        exact ⟨Shape.one (m := true) (8, 0, 0, 0, (i : Int)) (by omega) rfl ⟨by dsimp only; omega, fun h => by dsimp only at h; omega, fun h => rfl, fun h => by dsimp only at h; omega, fun h => by dsimp only; omega, fun h => by dsimp only at h; omega⟩, by omega⟩
      · rw [if_neg h93] at h
        cases hs : itemM l i with
        | inr e => rw [hs] at h; cases h
        | inl r => rw [hs] at h; cases h; exact itemM_shape hs
  | false =>
    rw [if_neg (by simp)] at h
    unfold outM at h
    cases hc : l[i]? with
    | none => rw [hc] at h; cases h
    | some c =>
      have hlt : i < l.length := (List.getElem?_eq_some_iff.1 hc).1
      rw [hc] at h
      dsimp only at h
      split at h
      · split at h
        · rename_i h94
          have h94 : i + 1 < l.length := (List.getElem?_eq_some_iff.1 h94).1
          cases h
          exact ⟨Shape.one (m := false) (7, 1, 0, 0, (i : Int)) (by omega) rfl ⟨by dsimp only; omega, fun h => rfl, fun h => by dsimp only at h; omega, fun h => by dsimp only at h; omega, fun h => (nomatch h), fun h => by dsimp only at h; omega⟩, by omega⟩
        · cases h
          exact ⟨Shape.one (m := false) (7, 0, 0, 0, (i : Int)) (by omega) rfl ⟨by dsimp only; omega, fun h => rfl, fun h => by dsimp only at h; omega, fun h => by dsimp only at h; omega, fun h => (nomatch h), fun h => by dsimp only at h; omega⟩, by omega⟩
      split at h
      · cases hb : bracesM l (i + 1) with
        | inr e => rw [hb] at h; cases h
        | inl r =>
          rw [hb] at h
          obtain ⟨b1, b2, b3⟩ := bracesM_in (by omega) hb
          dsimp only at h
          by_cases hf : r.2.2.1 = false
          · rw [if_pos hf] at h; cases h
          · rw [if_neg hf] at h
            have b3 := b3 (by simpa using hf)
            cases h
            exact ⟨repM_shape (by omega) b3, repM_in b2⟩
      split at h
      · cases h
        exact ⟨repM_shape (by omega) ⟨by omega, by omega, by omega⟩, repM_in (by omega)⟩
      split at h
      · cases h
        exact ⟨repM_shape (by omega) ⟨by omega, by omega, by omega⟩, repM_in (by omega)⟩
      split at h
      · cases h
        exact ⟨repM_shape (by omega) ⟨by omega, by omega, by omega⟩, repM_in (by omega)⟩
      iterate 6
        split at h
        · cases h
          exact ⟨Shape.out (by omega) (by omega), by omega⟩
      cases hs : singleM l i with
      | inr e => rw [hs] at h; cases h
      | inl r => rw [hs] at h; cases h; exact ⟨single_shape hs, (singleM_in hs).2.1⟩
theorem Shape.lt {m m' : Bool} {ts : List TknT} {j : Nat} (h : Shape i m ts j m') : i + ts.length ≤ j := by
  cases h with
  | one t h => simp only [List.length_cons, List.length_nil]; omega
  | rep h => simp only [List.length_cons, List.length_nil]; omega
theorem Shape.ltj {m m' : Bool} {ts : List TknT} {j : Nat} (h : Shape i m ts j m') : i < j := by
  cases h <;> omega
def okErr (l : List Int) (e : Nat × Int) : Prop := (e.2 = 4 ∧ e.1 = l.length) ∨ (e.1 ≤ l.length ∧ (e.2 = 6 ∨ e.2 = 7 ∨ e.2 = 8))
theorem charM_err {e : Nat × Int} (hi : i ≤ l.length) (h : charM l i = .inr e) : okErr l e := by
  unfold charM at h
  cases hc : l[i]? with
  | none =>
    rw [hc] at h; cases h
    exact .inl ⟨rfl, by have := List.getElem?_eq_none_iff.1 hc; dsimp only; omega⟩
  | some c =>
    have hlt : i < l.length := (List.getElem?_eq_some_iff.1 hc).1
    rw [hc] at h
    dsimp only at h
    by_cases h92 : c = 92
    · rw [if_pos h92] at h
      cases hd : l[i + 1]? with
      | none =>
        rw [hd] at h; cases h
        exact .inl ⟨rfl, by have := List.getElem?_eq_none_iff.1 hd; dsimp only; omega⟩
      | some d =>
        rw [hd] at h
        dsimp only at h
        split at h
        · cases h
        · cases h; exact .inr ⟨hi, .inl rfl⟩
    · rw [if_neg h92] at h; cases h
theorem singleM_err {e : Nat × Int} (hi : i ≤ l.length) (h : singleM l i = .inr e) : okErr l e := by
  unfold singleM at h
  cases hc : charM l i with
  | inl r => rw [hc] at h; cases h
  | inr e' => rw [hc] at h; cases h; exact charM_err hi hc
theorem itemM_err {e : Nat × Int} (hi : i ≤ l.length) (h : itemM l i = .inr e) : okErr l e := by
  unfold itemM at h
  cases hs : singleM l i with
  | inr e' => rw [hs] at h; cases h; exact singleM_err hi hs
  | inl q =>
    rw [hs] at h
    obtain ⟨h1, h2, -⟩ := singleM_in hs
    dsimp only at h
    by_cases hg : goesOn l q.1.1 q.2
    · rw [if_pos hg] at h
      have hj : q.2 + 1 < l.length := by
        rcases Nat.lt_or_ge (q.2 + 1) l.length with h | h
        · exact h
        · exact absurd (List.getElem?_eq_none (by omega)) hg.2.2.1
      cases hu : singleM l (q.2 + 1) with
      | inr e' => rw [hu] at h; cases h; exact singleM_err (by omega) hu
      | inl u =>
        rw [hu] at h
        dsimp only at h
        split at h
        · cases h; exact .inr ⟨by dsimp only; omega, .inr (.inl rfl)⟩
        · split at h
          · cases h; exact .inr ⟨hi, .inr (.inl rfl)⟩
          · cases h
    · rw [if_neg hg] at h; cases h
theorem none_len {j : Nat} (hj : j ≤ l.length) (h : l[j]? = none) : j = l.length := by
  have := List.getElem?_eq_none_iff.1 h
  omega
theorem bracesM_err {e : Nat × Int} (hi : i ≤ l.length) (h : bracesM l i = .inr e) : okErr l e := by
  unfold bracesM at h
  obtain ⟨-, -, d4⟩ := digM_in (l := l) hi
  generalize digM l i = q at d4 h
  obtain ⟨v, s, j⟩ := q
  dsimp only at d4 h
  cases hc : l[j]? with
  | none => rw [hc] at h; cases h; exact .inl ⟨rfl, none_len d4 hc⟩
  | some c =>
    have hj : j < l.length := (List.getElem?_eq_some_iff.1 hc).1
    rw [hc] at h
    dsimp only at h
    split at h
    · cases h
    split at h
    · cases h
    split at h
    · cases h
    cases hd : l[j + 1]? with
    | none => rw [hd] at h; cases h; exact .inl ⟨rfl, none_len (by omega) hd⟩
    | some d =>
      rw [hd] at h
      dsimp only at h
      split at h
      · cases h
      obtain ⟨-, -, e4⟩ := digM_in (l := l) (i := j + 1) (by omega)
      generalize digM l (j + 1) = p at e4 h
      obtain ⟨w, s', k⟩ := p
      dsimp only at e4 h
      cases he : l[k]? with
      | none => rw [he] at h; cases h; exact .inl ⟨rfl, none_len e4 he⟩
      | some e =>
        rw [he] at h
        dsimp only at h
        split at h
        · cases h
        split at h <;> cases h
theorem stepM_err {m : Bool} {p : Nat} {e : Int} (hi : i ≤ l.length) (h : stepM l m i = .err p e) : okErr l (p, e) := by
  unfold stepM at h
  cases m with
  | true =>
    rw [if_pos rfl] at h
    unfold clsM at h
    cases hc : l[i]? with
    | none => rw [hc] at h; cases h; exact .inl ⟨rfl, none_len hi hc⟩
    | some c =>
      rw [hc] at h
      dsimp only at h
      split at h
      · cases h
      · cases hs : itemM l i with
        | inr e => rw [hs] at h; cases h; exact itemM_err hi hs
        | inl r => rw [hs] at h; cases h
  | false =>
    rw [if_neg (by simp)] at h
    unfold outM at h
    cases hc : l[i]? with
    | none => rw [hc] at h; cases h
    | some c =>
      have hlt : i < l.length := (List.getElem?_eq_some_iff.1 hc).1
      rw [hc] at h
      dsimp only at h
      split at h
      · split at h <;> cases h
      split at h
      · cases hb : bracesM l (i + 1) with
        | inr e => rw [hb] at h; cases h; exact bracesM_err (by omega) hb
        | inl r =>
          rw [hb] at h
          dsimp only at h
          split at h
          · cases h; exact .inr ⟨hi, .inr (.inr rfl)⟩
          · cases h
      iterate 3
        split at h
        · cases h
      iterate 6
        split at h
        · cases h
      cases hs : singleM l i with
      | inr e => rw [hs] at h; cases h; exact singleM_err hi hs
      | inl r => rw [hs] at h; cases h
theorem stepM_done {m : Bool} (hi : i ≤ l.length) (h : stepM l m i = .done) : m = false ∧ i = l.length := by
  unfold stepM at h
  cases m with
  | true =>
    rw [if_pos rfl] at h
    unfold clsM at h
    cases hc : l[i]? with
    | none => rw [hc] at h; cases h
    | some c =>
      rw [hc] at h
      dsimp only at h
      split at h
      · cases h
      · cases hs : itemM l i with
        | inr e => rw [hs] at h; cases h
        | inl r => rw [hs] at h; cases h
  | false =>
    rw [if_neg (by simp)] at h
    unfold outM at h
    cases hc : l[i]? with
    | none => exact ⟨rfl, none_len hi hc⟩
    | some c =>
      rw [hc] at h
      dsimp only at h
      split at h
      · split at h <;> cases h
      split at h
      · cases hb : bracesM l (i + 1) with
        | inr e => rw [hb] at h; cases h
        | inl r =>
          rw [hb] at h
          dsimp only at h
          split at h <;> cases h
      iterate 3
        split at h
        · cases h
      iterate 6
        split at h
        · cases h
      cases hs : singleM l i with
      | inr e => rw [hs] at h; cases h
      | inl r => rw [hs] at h; cases h
def rdR (l : List Int) (t : List TknT) : List TknT ⊕ (Nat × Int) → RdT ⊕ (Int × Int)
  | .inl ts => .inl (l, (l.length : Int), t ++ ts)
  | .inr e => .inr ((e.1 : Int), e.2)
theorem rd_iter (hl : l.length ≤ 200) : ∀ (k i : Nat) (m : Bool) (t : List TknT), l.length - i = k → i ≤ l.length → t.length ≤ i →
    ∃ r, Rd l m i r ∧ iter Z.stp (stOf m (l, (i : Int), t)) = some (rdR l t r) := by
  intro k
  induction k using Nat.strongRecOn with
  | _ k ih =>
    intro i m t hk hi ht
    have hs := stp_eq (t := t) m hl hi (by omega)
    cases hx : stepM l m i with
    | done =>
      obtain ⟨-, h2⟩ := stepM_done hi hx
      rw [hx] at hs
      refine ⟨_, .done hx, ?_⟩
      rw [iter_inr hs]
      simp only [rdR, List.append_nil, h2]
    | err p e =>
      rw [hx] at hs
      exact ⟨_, .err hx, iter_inr hs⟩
    | go ts j m' =>
      rw [hx] at hs
      obtain ⟨h1, h2⟩ := stepM_shape hi hx
      have h3 := h1.lt
      have h4 := h1.ltj
      obtain ⟨r, g1, g2⟩ := ih (l.length - j) (by omega) j m' (t ++ ts) rfl h2 (by rw [List.length_append]; omega)
      refine ⟨_, .go hx g1, ?_⟩
      rw [iter_inl hs, g2]
      cases r with
      | inl x => simp only [Sum.map_inl, rdR, List.append_assoc]
      | inr e => rfl
def tokR : List TknT ⊕ (Nat × Int) → List TknT × Int × Int
  | .inl ts => (ts, 0, 0)
  | .inr e => ([], (e.1 : Int), e.2)
theorem tok_eq (hl : l.length ≤ 200) : ∃ r, Rd l false 0 r ∧ Z.tokOfF l = some (tokR r) := by
  obtain ⟨r, h1, h2⟩ := rd_iter hl _ 0 false [] rfl (Nat.zero_le _) (Nat.le_refl _)
  refine ⟨r, h1, ?_⟩
  unfold Z.tokOfF
  have h3 : Z.f44F (l, 0, []) = some (rdR l [] r) := by
    rw [z44_stp]; exact h2
  rw [if_neg (by omega), h3]
  cases r <;> rfl
end
end Go.Sx
