import Derived.Test.YtjmdfkcgglidaaaDoorSxU1
set_option linter.unusedVariables false
set_option linter.unusedSimpArgs false
namespace Go.Sx
def scan : List Int → Nat → Nat → Int
  | [], _, _ => -1
  | c :: l, d, k => if c = 10 then -1 else if opens c then scan l (d + 1) (k + 1) else if c = 22 then (if d = 1 then (k : Int) else scan l (d - 1) (k + 1)) else scan l d (k + 1)
def endOf (l : List Int) (j : Nat) : Int := scan (l.drop (j + 1)) 1 (j + 1)
theorem scan_ge : ∀ (l : List Int) (d k : Nat), scan l d k = -1 ∨ ((k : Int) ≤ scan l d k ∧ scan l d k < k + l.length)
  | [], d, k => .inl rfl
  | c :: l, d, k => by
    have h1 := scan_ge l (d + 1) (k + 1)
    have h2 := scan_ge l (d - 1) (k + 1)
    have h3 := scan_ge l d (k + 1)
    unfold scan
    simp only [List.length_cons]
    split
    · exact .inl rfl
    · split
      · omega
      · split
        · split
          · omega
          · omega
        · omega
theorem scan_at : ∀ (l : List Int) (d k i : Nat), scan l d k = (k + i : Nat) → l[i]? = some 22
  | [], d, k, i, h => by simp [scan] at h; omega
  | c :: l, d, k, i, h => by
    unfold scan at h
    have go : ∀ d', scan l d' (k + 1) = ((k + i : Nat) : Int) → (c :: l)[i]? = some 22 := by
      intro d' h'
      cases i with
      | zero =>
        rcases scan_ge l d' (k + 1) with h2 | h2
        · omega
        · omega
      | succ i =>
        have := scan_at l d' (k + 1) i (by rw [h']; congr 1; omega)
        simpa using this
    split at h
    · omega
    · split at h
      · exact go _ h
      · split at h
        · rename_i hc
          split at h
          · have : i = 0 := by omega
            subst this
            simp [hc]
          · exact go _ h
        · exact go _ h
theorem scan_apart : ∀ (l : List Int) (d e k : Nat), 1 ≤ d → d < e → 0 ≤ scan l d k → scan l e k ≠ scan l d k
  | [], d, e, k, _, _, h => by simp [scan] at h
  | c :: l, d, e, k, h1, h2, h => by
    unfold scan at h ⊢
    split
    · rename_i hc; rw [if_pos hc] at h; omega
    · rename_i hc
      rw [if_neg hc] at h
      split
      · rename_i ho
        rw [if_pos ho] at h
        exact scan_apart l _ _ _ (by omega) (by omega) h
      · rename_i ho
        rw [if_neg ho] at h
        split
        · rename_i hp
          rw [if_pos hp] at h
          rw [if_neg (show ¬ e = 1 by omega)]
          split
          · rcases scan_ge l (e - 1) (k + 1) with h3 | h3 <;> omega
          · rename_i hd
            rw [if_neg hd] at h
            exact scan_apart l _ _ _ (by omega) (by omega) h
        · rename_i hp
          rw [if_neg hp] at h
          exact scan_apart l _ _ _ h1 h2 h
structure IsMatch (l m : List Int) : Prop where
  len : m.length = l.length
  op : ∀ j (h : j < l.length), opens l[j] = true → m.getD j 0 = endOf l j
  no : ∀ k (h : k < l.length), opens l[k] = false → (∃ j, j < k ∧ (∃ hj : j < l.length, opens l[j] = true) ∧ endOf l j = k ∧ m.getD k 0 = j) ∨ (m.getD k 0 = -1 ∧ ∀ j (hj : j < l.length), opens l[j] = true → endOf l j ≠ k)
structure MInv (l : List Int) (k : Nat) (m : List Int) (rs : List Nat) : Prop where
  le : k ≤ l.length
  len : m.length = l.length
  st : ∀ t (h : t < rs.length), rs[t] < k ∧ (∃ hj : rs[t] < l.length, opens l[rs[t]] = true) ∧ endOf l rs[t] = scan (l.drop k) (t + 1) k
  nd : rs.Nodup
  opIn : ∀ j (h : j < l.length), j < k → opens l[j] = true → j ∈ rs → m.getD j 0 = -1
  opOut : ∀ j (h : j < l.length), j < k → opens l[j] = true → j ∉ rs → m.getD j 0 = endOf l j ∧ endOf l j < k
  no : ∀ i (h : i < l.length), i < k → opens l[i] = false → (∃ j, j < i ∧ (∃ hj : j < l.length, opens l[j] = true) ∧ endOf l j = i ∧ m.getD i 0 = j) ∨ (m.getD i 0 = -1 ∧ ∀ j (hj : j < l.length), opens l[j] = true → endOf l j ≠ i)
theorem endOf_gt (l : List Int) (j : Nat) : endOf l j = -1 ∨ ((j : Int) < endOf l j ∧ endOf l j < l.length) := by
  unfold endOf
  rcases scan_ge (l.drop (j + 1)) 1 (j + 1) with h | ⟨h1, h2⟩
  · exact .inl h
  · right
    rw [List.length_drop] at h2
    refine ⟨by omega, ?_⟩
    by_cases hj : j + 1 ≤ l.length
    · omega
    · rw [List.drop_of_length_le (by omega)] at h1 ⊢
      simp [scan] at h1
      omega
theorem endOf_at {l : List Int} {j k : Nat} (h : endOf l j = k) : l[k]? = some 22 := by
  unfold endOf at h
  rcases scan_ge (l.drop (j + 1)) 1 (j + 1) with h1 | h1
  · omega
  · have := scan_at (l.drop (j + 1)) 1 (j + 1) (k - (j + 1)) (by rw [h]; congr 1; omega)
    rw [List.getElem?_drop] at this
    rw [← this]
    congr 1
    omega
theorem getD_set (m : List Int) (i j : Nat) (v : Int) (h : i < m.length) : (m.set i v).getD j 0 = if i = j then v else m.getD j 0 := by
  simp only [List.getD_eq_getElem?_getD, List.getElem?_set]
  split
  · rename_i hij
    subst hij
    simp [h]
  · rfl
theorem MInv.done {l m : List Int} {rs : List Nat} (h : MInv l l.length m rs) : IsMatch l m where
  len := h.len
  op := fun j hj ho => by
    by_cases hm : j ∈ rs
    · rw [h.opIn j hj hj ho hm]
      obtain ⟨t, ht, rfl⟩ := List.mem_iff_getElem.1 hm
      obtain ⟨_, _, h3⟩ := h.st t ht
      rw [h3, List.drop_of_length_le (by omega)]
      rfl
    · exact (h.opOut j hj hj ho hm).1
  no := fun k hk ho => h.no k hk hk ho
theorem drop_cons {l : List Int} {k : Nat} (h : k < l.length) : l.drop k = l[k] :: l.drop (k + 1) := List.drop_eq_getElem_cons h
theorem MInv.onB {l m : List Int} {rs : List Nat} {k : Nat} (h : MInv l k m rs) (hk : k < l.length) (hc : l[k] = 10) : MInv l (k + 1) (m.set k (-1)) [] where
  le := hk
  len := by simp [h.len]
  st := fun t ht => by simp at ht
  nd := List.nodup_nil
  opIn := fun j hj hlt ho hm => by simp at hm
  opOut := fun j hj hlt ho _ => by
    have hjk : j ≠ k := by intro e; subst e; rw [hc] at ho; simp [opens] at ho
    rw [getD_set _ _ _ _ (by rw [h.len]; exact hk), if_neg (Ne.symm hjk)]
    by_cases hm : j ∈ rs
    · rw [h.opIn j hj (by omega) ho hm]
      obtain ⟨t, ht, rfl⟩ := List.mem_iff_getElem.1 hm
      obtain ⟨_, _, h3⟩ := h.st t ht
      rw [h3, drop_cons hk, hc]
      simp [scan]
      omega
    · obtain ⟨h1, h2⟩ := h.opOut j hj (by omega) ho hm
      exact ⟨h1, by omega⟩
  no := fun i hi hlt ho => by
    rw [getD_set _ _ _ _ (by rw [h.len]; exact hk)]
    by_cases hik : k = i
    · subst hik
      right
      refine ⟨by simp, fun j hj ho' he => ?_⟩
      have := endOf_at he
      rw [List.getElem?_eq_getElem hk, hc] at this
      simp at this
    · rw [if_neg hik]
      exact h.no i hi (by omega) ho
theorem MInv.onOpen {l m : List Int} {rs : List Nat} {k : Nat} (h : MInv l k m rs) (hk : k < l.length) (hc : opens l[k] = true) : MInv l (k + 1) (m.set k (-1)) (k :: rs) where
  le := hk
  len := by simp [h.len]
  st := fun t ht => by
    have h10 : ¬ l[k] = 10 := by intro e; rw [e] at hc; simp [opens] at hc
    cases t with
    | zero => exact ⟨by simp, ⟨hk, hc⟩, rfl⟩
    | succ t =>
      have ht' : t < rs.length := by simpa using ht
      obtain ⟨h1, h2, h3⟩ := h.st t ht'
      refine ⟨?_, h2, ?_⟩
      · show rs[t] < k + 1
        omega
      · show endOf l rs[t] = _
        rw [h3, drop_cons hk]
        conv => lhs; unfold scan
        rw [if_neg h10, if_pos hc]
  nd := by
    rw [List.nodup_cons]
    refine ⟨fun hm => ?_, h.nd⟩
    obtain ⟨t, ht, e⟩ := List.mem_iff_getElem.1 hm
    have := (h.st t ht).1
    omega
  opIn := fun j hj hlt ho hm => by
    rw [getD_set _ _ _ _ (by rw [h.len]; exact hk)]
    by_cases hjk : k = j
    · rw [if_pos hjk]
    · rw [if_neg hjk]
      refine h.opIn j hj (by omega) ho ?_
      rcases List.mem_cons.1 hm with rfl | hm
      · exact absurd rfl hjk
      · exact hm
  opOut := fun j hj hlt ho hm => by
    rw [List.mem_cons, not_or] at hm
    rw [getD_set _ _ _ _ (by rw [h.len]; exact hk), if_neg (fun e => hm.1 e.symm)]
    obtain ⟨h1, h2⟩ := h.opOut j hj (by omega) ho hm.2
    exact ⟨h1, by omega⟩
  no := fun i hi hlt ho => by
    have hik : ¬ k = i := by intro e; subst e; rw [ho] at hc; cases hc
    rw [getD_set _ _ _ _ (by rw [h.len]; exact hk), if_neg hik]
    exact h.no i hi (by omega) ho
theorem MInv.onPop {l m : List Int} {r : Nat} {rs : List Nat} {k : Nat} (h : MInv l k m (r :: rs)) (hk : k < l.length) (hc : l[k] = 22) : MInv l (k + 1) (((m.set k (-1)).set k r).set r k) rs := by
  have h10 : ¬ l[k] = 10 := by rw [hc]; omega
  have hno : opens l[k] = false := by rw [hc]; rfl
  obtain ⟨hr1, ⟨hr2, hr3⟩, hr4⟩ := h.st 0 (by simp)
  have hr1' : r < k := hr1
  have hr3' : opens l[r] = true := hr3
  have hend : endOf l r = k := by
    have : endOf l r = scan (l.drop k) 1 k := hr4
    rw [this, drop_cons hk]
    unfold scan
    rw [if_neg h10, if_neg (by rw [hno]; simp), if_pos hc, if_pos rfl]
  have hget : ∀ j, (((m.set k (-1)).set k r).set r (k : Int)).getD j 0 = if r = j then (k : Int) else if k = j then (r : Int) else m.getD j 0 := by
    intro j
    rw [getD_set _ _ _ _ (by simp [h.len]; omega), getD_set _ _ _ _ (by simp [h.len]; omega), getD_set _ _ _ _ (by simp [h.len]; omega)]
    split
    · rfl
    · split <;> rfl
  have hnd := List.nodup_cons.1 h.nd
  exact {
    le := hk
    len := by simp [h.len]
    st := fun t ht => by
      obtain ⟨h1, h2, h3⟩ := h.st (t + 1) (by simpa using ht)
      refine ⟨?_, h2, ?_⟩
      · have : rs[t] < k := h1
        omega
      · have h3' : endOf l rs[t] = scan (l.drop k) (t + 1 + 1) k := h3
        rw [h3', drop_cons hk]
        conv => lhs; unfold scan
        rw [if_neg h10, if_neg (by rw [hno]; simp), if_pos hc, if_neg (by omega)]
        rfl
    nd := hnd.2
    opIn := fun j hj hlt ho hm => by
      have hjk : ¬ k = j := by intro e; subst e; rw [ho] at hno; cases hno
      have hjr : ¬ r = j := by intro e; subst e; exact hnd.1 hm
      rw [hget, if_neg hjr, if_neg hjk]
      exact h.opIn j hj (by omega) ho (List.mem_cons_of_mem _ hm)
    opOut := fun j hj hlt ho hm => by
      have hjk : ¬ k = j := by intro e; subst e; rw [ho] at hno; cases hno
      rw [hget]
      by_cases hjr : r = j
      · subst hjr
        rw [if_pos rfl, hend]
        exact ⟨rfl, by omega⟩
      · rw [if_neg hjr, if_neg hjk]
        obtain ⟨h1, h2⟩ := h.opOut j hj (by omega) ho (by rw [List.mem_cons, not_or]; exact ⟨fun e => hjr e.symm, hm⟩)
        exact ⟨h1, by omega⟩
    no := fun i hi hlt ho => by
      have hir : ¬ r = i := by intro e; subst e; rw [ho] at hr3'; cases hr3'
      rw [hget, if_neg hir]
      by_cases hik : k = i
      · subst hik
        rw [if_pos rfl]
        exact .inl ⟨r, hr1', ⟨hr2, hr3'⟩, hend, rfl⟩
      · rw [if_neg hik]
        exact h.no i hi (by omega) ho }
theorem MInv.onElse {l m : List Int} {rs : List Nat} {k : Nat} (h : MInv l k m rs) (hk : k < l.length) (h10 : ¬ l[k] = 10) (hno : opens l[k] = false) (h22 : l[k] = 22 → rs = []) : MInv l (k + 1) (m.set k (-1)) rs where
  le := hk
  len := by simp [h.len]
  st := fun t ht => by
    obtain ⟨h1, h2, h3⟩ := h.st t ht
    refine ⟨by omega, h2, ?_⟩
    rw [h3, drop_cons hk]
    conv => lhs; unfold scan
    rw [if_neg h10, if_neg (by rw [hno]; simp), if_neg (fun e => by have := h22 e; subst this; simp at ht)]
  nd := h.nd
  opIn := fun j hj hlt ho hm => by
    have hjk : ¬ k = j := by intro e; subst e; rw [ho] at hno; cases hno
    rw [getD_set _ _ _ _ (by rw [h.len]; exact hk), if_neg hjk]
    exact h.opIn j hj (by omega) ho hm
  opOut := fun j hj hlt ho hm => by
    have hjk : ¬ k = j := by intro e; subst e; rw [ho] at hno; cases hno
    rw [getD_set _ _ _ _ (by rw [h.len]; exact hk), if_neg hjk]
    obtain ⟨h1, h2⟩ := h.opOut j hj (by omega) ho hm
    exact ⟨h1, by omega⟩
  no := fun i hi hlt ho => by
    rw [getD_set _ _ _ _ (by rw [h.len]; exact hk)]
    by_cases hik : k = i
    · subst hik
      rw [if_pos rfl]
      right
      refine ⟨rfl, fun j hj ho' he => ?_⟩
      have h1 := endOf_at he
      rw [List.getElem?_eq_getElem hk] at h1
      have h2 : l[k] = 22 := by simpa using h1
      have h3 := h22 h2
      subst h3
      by_cases hjk : j < k
      · have := (h.opOut j hj hjk ho' (by simp)).2
        omega
      · rcases endOf_gt l j with h4 | h4 <;> omega
    · rw [if_neg hik]
      exact h.no i hi (by omega) ho
end Go.Sx
