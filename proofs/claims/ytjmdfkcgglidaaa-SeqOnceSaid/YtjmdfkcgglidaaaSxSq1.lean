import Derived.Test.YtjmdfkcgglidaaaSxT8
import Derived.Test.YtjmdfkcgglidaaaSxS
set_option linter.unusedVariables false
set_option linter.unusedSimpArgs false
namespace Go.Sx

def wordsQ : List ByteArray := [⟨#[76]⟩, ⟨#[82]⟩, ⟨#[65, 76]⟩, ⟨#[69, 78]⟩, ⟨#[69, 83]⟩, ⟨#[69, 84]⟩, ⟨#[65, 78]⟩, ⟨#[67, 83]⟩, ⟨#[78, 83, 77]⟩, ⟨#[66, 78]⟩, ⟨#[66]⟩, ⟨#[83]⟩, ⟨#[87, 83]⟩, ⟨#[79, 78]⟩, ⟨#[76, 82, 69]⟩, ⟨#[76, 82, 79]⟩, ⟨#[82, 76, 69]⟩, ⟨#[82, 76, 79]⟩, ⟨#[80, 68, 70]⟩, ⟨#[76, 82, 73]⟩, ⟨#[82, 76, 73]⟩, ⟨#[70, 83, 73]⟩, ⟨#[80, 68, 73]⟩]




theorem f32_lit : Q.f32F [19, 20, 21] = some 3670016 := by
  unfold Q.f32F
  rw [iter_of_iterN (n := 4) (e := 3670016) (by rfl)]
  rfl

theorem f31_lit : ∀ n : Nat, n < 23 → Q.f31F ((n : Int), 3670016) = some (n == 19 || n == 20 || n == 21) := by
  unfold Q.f31F
  decide +kernel

/-- What opens an isolate. -/
def opens (c : Int) : Bool := c == 19 || c == 20 || c == 21

theorem f21_eq (c : Int) : Q.f21F c = some (opens c) := by
  unfold Q.f21F
  rw [f32_lit]
  show (Q.f31F (c, 3670016)).bind _ = _
  by_cases h0 : 0 ≤ c
  · by_cases h1 : c < 23
    · obtain ⟨n, rfl⟩ := Int.eq_ofNat_of_zero_le h0
      have hn : n < 23 := by omega
      rw [f31_lit n hn]
      simp only [Option.bind_some, opens]
      congr 1
      have e1 : ((n : Int) == 19) = (n == 19) := by rw [Bool.eq_iff_iff]; simp; omega
      have e2 : ((n : Int) == 20) = (n == 20) := by rw [Bool.eq_iff_iff]; simp; omega
      have e3 : ((n : Int) == 21) = (n == 21) := by rw [Bool.eq_iff_iff]; simp; omega
      rw [e1, e2, e3]
    · have : Q.f31F (c, 3670016) = some false := by
        unfold Q.f31F
        simp [show c ≥ 0 by omega, show ¬ c ≤ 22 by omega]
      rw [this]
      simp [opens]
      omega
  · have : Q.f31F (c, 3670016) = some false := by
      unfold Q.f31F
      simp [h0]
    rw [this]
    simp [opens]
    omega

theorem toList_data (b : ByteArray) : b.toList = b.data.toList := by
  unfold ByteArray.toList
  have hsz : b.data.toList.length = b.size := Array.length_toList
  have key : ∀ (n i : Nat) (r : List UInt8), b.size - i = n → ByteArray.toList.loop b i r = r.reverse ++ b.data.toList.drop i := by
    intro n
    induction n with
    | zero =>
      intro i r h
      unfold ByteArray.toList.loop
      rw [if_neg (by omega), List.drop_of_length_le (by rw [hsz]; omega)]
      simp
    | succ n ih =>
      intro i r h
      unfold ByteArray.toList.loop
      rw [if_pos (by omega), ih (i + 1) _ (by omega)]
      have hi : i < b.data.toList.length := by rw [hsz]; omega
      rw [List.drop_eq_getElem_cons hi]
      simp [ByteArray.get!, getElem!_pos b.data i (by simpa using hi)]
  simpa using key b.size 0 [] rfl

/-- What a class says of a direction. -/
def strongS (c : Int) : Int := if c = 1 ∨ c = 2 then 1 else if c = 0 ∨ c < 0 ∨ 23 ≤ c then 0 else -1




/-- Where an isolate ends: from a place on, so deep. -/
def scan : List Int → Nat → Nat → Int
  | [], _, _ => -1
  | c :: l, d, k => if c = 10 then -1 else if opens c then scan l (d + 1) (k + 1) else if c = 22 then (if d = 1 then (k : Int) else scan l (d - 1) (k + 1)) else scan l d (k + 1)

def endOf (l : List Int) (j : Nat) : Int := scan (l.drop (j + 1)) 1 (j + 1)

theorem scan_ge : ∀ (l : List Int) (d k : Nat), scan l d k = -1 ∨ ((k : Int) ≤ scan l d k ∧ scan l d k < k + l.length)
  | [], d, k => .inl rfl
  | c :: l, d, k => by
    have h1 := scan_ge l (d + 1) (k + 1)
    have h2 := scan_ge l (d - 1) (k + 1)
    have h3 := scan_ge l d (k + 1)
    unfold scan
    simp only [List.length_cons]
    split
    · exact .inl rfl
    · split
      · omega
      · split
        · split
          · omega
          · omega
        · omega

theorem scan_at : ∀ (l : List Int) (d k i : Nat), scan l d k = (k + i : Nat) → l[i]? = some 22
  | [], d, k, i, h => by simp [scan] at h; omega
  | c :: l, d, k, i, h => by
    unfold scan at h
    have go : ∀ d', scan l d' (k + 1) = ((k + i : Nat) : Int) → (c :: l)[i]? = some 22 := by
      intro d' h'
      cases i with
      | zero =>
        rcases scan_ge l d' (k + 1) with h2 | h2
        · omega
        · omega
      | succ i =>
        have := scan_at l d' (k + 1) i (by rw [h']; congr 1; omega)
        simpa using this
    split at h
    · omega
    · split at h
      · exact go _ h
      · split at h
        · rename_i hc
          split at h
          · have : i = 0 := by omega
            subst this
            simp [hc]
          · exact go _ h
        · exact go _ h

/-- Deeper, it ends elsewhere. -/
theorem scan_apart : ∀ (l : List Int) (d e k : Nat), 1 ≤ d → d < e → 0 ≤ scan l d k → scan l e k ≠ scan l d k
  | [], d, e, k, _, _, h => by simp [scan] at h
  | c :: l, d, e, k, h1, h2, h => by
    unfold scan at h ⊢
    split
    · rename_i hc; rw [if_pos hc] at h; omega
    · rename_i hc
      rw [if_neg hc] at h
      split
      · rename_i ho
        rw [if_pos ho] at h
        exact scan_apart l _ _ _ (by omega) (by omega) h
      · rename_i ho
        rw [if_neg ho] at h
        split
        · rename_i hp
          rw [if_pos hp] at h
          rw [if_neg (show ¬ e = 1 by omega)]
          split
          · rcases scan_ge l (e - 1) (k + 1) with h3 | h3 <;> omega
          · rename_i hd
            rw [if_neg hd] at h
            exact scan_apart l _ _ _ (by omega) (by omega) h
        · rename_i hp
          rw [if_neg hp] at h
          exact scan_apart l _ _ _ h1 h2 h

/-- What 'Match' must be. -/
structure IsMatch (l m : List Int) : Prop where
  len : m.length = l.length
  op : ∀ j (h : j < l.length), opens l[j] = true → m.getD j 0 = endOf l j
  no : ∀ k (h : k < l.length), opens l[k] = false → (∃ j, j < k ∧ (∃ hj : j < l.length, opens l[j] = true) ∧ endOf l j = k ∧ m.getD k 0 = j) ∨ (m.getD k 0 = -1 ∧ ∀ j (hj : j < l.length), opens l[j] = true → endOf l j ≠ k)

/-- The loop's state: the stack with its top first. -/
structure MInv (l : List Int) (k : Nat) (m : List Int) (rs : List Nat) : Prop where
  le : k ≤ l.length
  len : m.length = l.length
  st : ∀ t (h : t < rs.length), rs[t] < k ∧ (∃ hj : rs[t] < l.length, opens l[rs[t]] = true) ∧ endOf l rs[t] = scan (l.drop k) (t + 1) k
  nd : rs.Nodup
  opIn : ∀ j (h : j < l.length), j < k → opens l[j] = true → j ∈ rs → m.getD j 0 = -1
  opOut : ∀ j (h : j < l.length), j < k → opens l[j] = true → j ∉ rs → m.getD j 0 = endOf l j ∧ endOf l j < k
  no : ∀ i (h : i < l.length), i < k → opens l[i] = false → (∃ j, j < i ∧ (∃ hj : j < l.length, opens l[j] = true) ∧ endOf l j = i ∧ m.getD i 0 = j) ∨ (m.getD i 0 = -1 ∧ ∀ j (hj : j < l.length), opens l[j] = true → endOf l j ≠ i)

theorem endOf_gt (l : List Int) (j : Nat) : endOf l j = -1 ∨ ((j : Int) < endOf l j ∧ endOf l j < l.length) := by
  unfold endOf
  rcases scan_ge (l.drop (j + 1)) 1 (j + 1) with h | ⟨h1, h2⟩
  · exact .inl h
  · right
    rw [List.length_drop] at h2
    refine ⟨by omega, ?_⟩
    by_cases hj : j + 1 ≤ l.length
    · omega
    · rw [List.drop_of_length_le (by omega)] at h1 ⊢
      simp [scan] at h1
      omega

theorem endOf_at {l : List Int} {j k : Nat} (h : endOf l j = k) : l[k]? = some 22 := by
  unfold endOf at h
  rcases scan_ge (l.drop (j + 1)) 1 (j + 1) with h1 | h1
  · omega
  · have := scan_at (l.drop (j + 1)) 1 (j + 1) (k - (j + 1)) (by rw [h]; congr 1; omega)
    rw [List.getElem?_drop] at this
    rw [← this]
    congr 1
    omega

theorem getD_set (m : List Int) (i j : Nat) (v : Int) (h : i < m.length) : (m.set i v).getD j 0 = if i = j then v else m.getD j 0 := by
  simp only [List.getD_eq_getElem?_getD, List.getElem?_set]
  split
  · rename_i hij
    subst hij
    simp [h]
  · rfl

theorem MInv.done {l m : List Int} {rs : List Nat} (h : MInv l l.length m rs) : IsMatch l m where
  len := h.len
  op := fun j hj ho => by
    by_cases hm : j ∈ rs
    · rw [h.opIn j hj hj ho hm]
      obtain ⟨t, ht, rfl⟩ := List.mem_iff_getElem.1 hm
      obtain ⟨_, _, h3⟩ := h.st t ht
      rw [h3, List.drop_of_length_le (by omega)]
      rfl
    · exact (h.opOut j hj hj ho hm).1
  no := fun k hk ho => h.no k hk hk ho

theorem drop_cons {l : List Int} {k : Nat} (h : k < l.length) : l.drop k = l[k] :: l.drop (k + 1) := List.drop_eq_getElem_cons h

/-- A paragraph's end. -/
theorem MInv.onB {l m : List Int} {rs : List Nat} {k : Nat} (h : MInv l k m rs) (hk : k < l.length) (hc : l[k] = 10) : MInv l (k + 1) (m.set k (-1)) [] where
  le := hk
  len := by simp [h.len]
  st := fun t ht => by simp at ht
  nd := List.nodup_nil
  opIn := fun j hj hlt ho hm => by simp at hm
  opOut := fun j hj hlt ho _ => by
    have hjk : j ≠ k := by intro e; subst e; rw [hc] at ho; simp [opens] at ho
    rw [getD_set _ _ _ _ (by rw [h.len]; exact hk), if_neg (Ne.symm hjk)]
    by_cases hm : j ∈ rs
    · rw [h.opIn j hj (by omega) ho hm]
      obtain ⟨t, ht, rfl⟩ := List.mem_iff_getElem.1 hm
      obtain ⟨_, _, h3⟩ := h.st t ht
      rw [h3, drop_cons hk, hc]
      simp [scan]
      omega
    · obtain ⟨h1, h2⟩ := h.opOut j hj (by omega) ho hm
      exact ⟨h1, by omega⟩
  no := fun i hi hlt ho => by
    rw [getD_set _ _ _ _ (by rw [h.len]; exact hk)]
    by_cases hik : k = i
    · subst hik
      right
      refine ⟨by simp, fun j hj ho' he => ?_⟩
      have := endOf_at he
      rw [List.getElem?_eq_getElem hk, hc] at this
      simp at this
    · rw [if_neg hik]
      exact h.no i hi (by omega) ho

/-- One that opens. -/
theorem MInv.onOpen {l m : List Int} {rs : List Nat} {k : Nat} (h : MInv l k m rs) (hk : k < l.length) (hc : opens l[k] = true) : MInv l (k + 1) (m.set k (-1)) (k :: rs) where
  le := hk
  len := by simp [h.len]
  st := fun t ht => by
    have h10 : ¬ l[k] = 10 := by intro e; rw [e] at hc; simp [opens] at hc
    cases t with
    | zero => exact ⟨by simp, ⟨hk, hc⟩, rfl⟩
    | succ t =>
      have ht' : t < rs.length := by simpa using ht
      obtain ⟨h1, h2, h3⟩ := h.st t ht'
      refine ⟨?_, h2, ?_⟩
      · show rs[t] < k + 1
        omega
      · show endOf l rs[t] = _
        rw [h3, drop_cons hk]
        conv => lhs; unfold scan
        rw [if_neg h10, if_pos hc]
  nd := by
    rw [List.nodup_cons]
    refine ⟨fun hm => ?_, h.nd⟩
    obtain ⟨t, ht, e⟩ := List.mem_iff_getElem.1 hm
    have := (h.st t ht).1
    omega
  opIn := fun j hj hlt ho hm => by
    rw [getD_set _ _ _ _ (by rw [h.len]; exact hk)]
    by_cases hjk : k = j
    · rw [if_pos hjk]
    · rw [if_neg hjk]
      refine h.opIn j hj (by omega) ho ?_
      rcases List.mem_cons.1 hm with rfl | hm
      · exact absurd rfl hjk
      · exact hm
  opOut := fun j hj hlt ho hm => by
    rw [List.mem_cons, not_or] at hm
    rw [getD_set _ _ _ _ (by rw [h.len]; exact hk), if_neg (fun e => hm.1 e.symm)]
    obtain ⟨h1, h2⟩ := h.opOut j hj (by omega) ho hm.2
    exact ⟨h1, by omega⟩
  no := fun i hi hlt ho => by
    have hik : ¬ k = i := by intro e; subst e; rw [ho] at hc; cases hc
    rw [getD_set _ _ _ _ (by rw [h.len]; exact hk), if_neg hik]
    exact h.no i hi (by omega) ho

/-- One that ends the one that opened last. -/
theorem MInv.onPop {l m : List Int} {r : Nat} {rs : List Nat} {k : Nat} (h : MInv l k m (r :: rs)) (hk : k < l.length) (hc : l[k] = 22) : MInv l (k + 1) (((m.set k (-1)).set k r).set r k) rs := by
  have h10 : ¬ l[k] = 10 := by rw [hc]; omega
  have hno : opens l[k] = false := by rw [hc]; rfl
  obtain ⟨hr1, ⟨hr2, hr3⟩, hr4⟩ := h.st 0 (by simp)
  have hr1' : r < k := hr1
  have hr3' : opens l[r] = true := hr3
  have hend : endOf l r = k := by
    have : endOf l r = scan (l.drop k) 1 k := hr4
    rw [this, drop_cons hk]
    unfold scan
    rw [if_neg h10, if_neg (by rw [hno]; simp), if_pos hc, if_pos rfl]
  have hget : ∀ j, (((m.set k (-1)).set k r).set r (k : Int)).getD j 0 = if r = j then (k : Int) else if k = j then (r : Int) else m.getD j 0 := by
    intro j
    rw [getD_set _ _ _ _ (by simp [h.len]; omega), getD_set _ _ _ _ (by simp [h.len]; omega), getD_set _ _ _ _ (by simp [h.len]; omega)]
    split
    · rfl
    · split <;> rfl
  have hnd := List.nodup_cons.1 h.nd
  exact {
    le := hk
    len := by simp [h.len]
    st := fun t ht => by
      obtain ⟨h1, h2, h3⟩ := h.st (t + 1) (by simpa using ht)
      refine ⟨?_, h2, ?_⟩
      · have : rs[t] < k := h1
        omega
      · have h3' : endOf l rs[t] = scan (l.drop k) (t + 1 + 1) k := h3
        rw [h3', drop_cons hk]
        conv => lhs; unfold scan
        rw [if_neg h10, if_neg (by rw [hno]; simp), if_pos hc, if_neg (by omega)]
        rfl
    nd := hnd.2
    opIn := fun j hj hlt ho hm => by
      have hjk : ¬ k = j := by intro e; subst e; rw [ho] at hno; cases hno
      have hjr : ¬ r = j := by intro e; subst e; exact hnd.1 hm
      rw [hget, if_neg hjr, if_neg hjk]
      exact h.opIn j hj (by omega) ho (List.mem_cons_of_mem _ hm)
    opOut := fun j hj hlt ho hm => by
      have hjk : ¬ k = j := by intro e; subst e; rw [ho] at hno; cases hno
      rw [hget]
      by_cases hjr : r = j
      · subst hjr
        rw [if_pos rfl, hend]
        exact ⟨rfl, by omega⟩
      · rw [if_neg hjr, if_neg hjk]
        obtain ⟨h1, h2⟩ := h.opOut j hj (by omega) ho (by rw [List.mem_cons, not_or]; exact ⟨fun e => hjr e.symm, hm⟩)
        exact ⟨h1, by omega⟩
    no := fun i hi hlt ho => by
      have hir : ¬ r = i := by intro e; subst e; rw [ho] at hr3'; cases hr3'
      rw [hget, if_neg hir]
      by_cases hik : k = i
      · subst hik
        rw [if_pos rfl]
        exact .inl ⟨r, hr1', ⟨hr2, hr3'⟩, hend, rfl⟩
      · rw [if_neg hik]
        exact h.no i hi (by omega) ho }

/-- Any other. -/
theorem MInv.onElse {l m : List Int} {rs : List Nat} {k : Nat} (h : MInv l k m rs) (hk : k < l.length) (h10 : ¬ l[k] = 10) (hno : opens l[k] = false) (h22 : l[k] = 22 → rs = []) : MInv l (k + 1) (m.set k (-1)) rs where
  le := hk
  len := by simp [h.len]
  st := fun t ht => by
    obtain ⟨h1, h2, h3⟩ := h.st t ht
    refine ⟨by omega, h2, ?_⟩
    rw [h3, drop_cons hk]
    conv => lhs; unfold scan
    rw [if_neg h10, if_neg (by rw [hno]; simp), if_neg (fun e => by have := h22 e; subst this; simp at ht)]
  nd := h.nd
  opIn := fun j hj hlt ho hm => by
    have hjk : ¬ k = j := by intro e; subst e; rw [ho] at hno; cases hno
    rw [getD_set _ _ _ _ (by rw [h.len]; exact hk), if_neg hjk]
    exact h.opIn j hj (by omega) ho hm
  opOut := fun j hj hlt ho hm => by
    have hjk : ¬ k = j := by intro e; subst e; rw [ho] at hno; cases hno
    rw [getD_set _ _ _ _ (by rw [h.len]; exact hk), if_neg hjk]
    obtain ⟨h1, h2⟩ := h.opOut j hj (by omega) ho hm
    exact ⟨h1, by omega⟩
  no := fun i hi hlt ho => by
    rw [getD_set _ _ _ _ (by rw [h.len]; exact hk)]
    by_cases hik : k = i
    · subst hik
      rw [if_pos rfl]
      right
      refine ⟨rfl, fun j hj ho' he => ?_⟩
      have h1 := endOf_at he
      rw [List.getElem?_eq_getElem hk] at h1
      have h2 : l[k] = 22 := by simpa using h1
      have h3 := h22 h2
      subst h3
      by_cases hjk : j < k
      · have := (h.opOut j hj hjk ho' (by simp)).2
        omega
      · rcases endOf_gt l j with h4 | h4 <;> omega
    · rw [if_neg hik]
      exact h.no i hi (by omega) ho



def ints (rs : List Nat) : List Int := (rs.map fun (j : Nat) => (j : Int)).reverse

theorem ints_len (rs : List Nat) : (ints rs).length = rs.length := by simp [ints]

theorem ints_cons (rs : List Nat) (r : Nat) : ints (r :: rs) = ints rs ++ [(r : Int)] := by simp [ints]

theorem take_last (rs : List Nat) (r : Nat) : (ints (r :: rs)).take rs.length = ints rs := by
  rw [ints_cons, List.take_left' (ints_len rs)]

theorem get_last (rs : List Nat) (r : Nat) : (ints (r :: rs)).getD rs.length 0 = (r : Int) := by
  rw [ints_cons, List.getD_eq_getElem?_getD, List.getElem?_append_right (by rw [ints_len]; omega), ints_len]
  simp

/-- 'base.Match'. -/
theorem f19_ok (l : List Int) (hl : l.length ≤ 100000) : ∃ m, Q.f19F l = some m ∧ IsMatch l m := by
  unfold Q.f19F
  rw [if_pos (by refine ⟨by omega, Int.le_refl _, ?_⟩; unfold roomOk; simp; omega)]
  refine bind_ex (iter_rule (I := fun s => ∃ (k : Nat) (m : List Int) (rs : List Nat), s = ((k : Int), m, ints rs) ∧ MInv l k m rs) (Q := fun m => IsMatch l m)
    (fun s => (l.length - s.1).toNat) ?_ _ ?_) fun m hm => ⟨m, rfl, hm⟩
  · rintro _ ⟨k, m, rs, rfl, h⟩
    have hle := h.le
    dsimp only
    by_cases hk : k < l.length
    · have hk' : (k : Int) < l.length := by omega
      have hb : (0 : Int) ≤ k ∧ (k : Int) < l.length := ⟨by omega, hk'⟩
      have hbm : (0 : Int) ≤ k ∧ (k : Int) < m.length := ⟨by omega, by rw [h.len]; exact hk'⟩
      have hget : l.getD k 0 = l[k] := by simp [List.getD_eq_getElem?_getD, hk]
      have hwr : IntKind.i64.wrap ((k : Int) + 1) = ((k + 1 : Nat) : Int) := by rw [wrap_i64 (by omega) (by omega)]; rfl
      have hrs : rs.length ≤ l.length := by
        have := h.nd
        have hsub : ∀ x ∈ rs, x ∈ List.range l.length := by
          intro x hx
          obtain ⟨t, ht, rfl⟩ := List.mem_iff_getElem.1 hx
          obtain ⟨_, ⟨hj, _⟩, _⟩ := h.st t ht
          exact List.mem_range.2 hj
        have := this.length_le_of_subset hsub
        simpa using this
      simp only [hk', decide_true, if_true, hb, hbm, and_self, hget, hwr, f21_eq, Option.bind_some, Int.toNat_natCast]
      by_cases h10 : l[k] = 10
      · simp only [h10, beq_self_eq_true, if_true]
        exact .inl ⟨_, rfl, ⟨k + 1, _, [], rfl, h.onB hk h10⟩, by simp; omega⟩
      · simp only [show (l[k] == (10 : Int)) = false by simpa using h10, Bool.false_eq_true, if_false]
        cases ho : opens l[k] with
        | true =>
          simp only [if_true]
          rw [if_pos (by unfold roomOk; simp [ints_len]; omega)]
          exact .inl ⟨_, rfl, ⟨k + 1, _, k :: rs, by rw [ints_cons], h.onOpen hk ho⟩, by simp; omega⟩
        | false =>
          simp only [Bool.false_eq_true, if_false]
          by_cases h22 : l[k] = 22
          · simp only [h22, beq_self_eq_true, if_true, Option.bind_some]
            cases rs with
            | nil =>
              rw [if_neg (by simp [ints])]
              exact .inl ⟨_, rfl, ⟨k + 1, _, [], rfl, h.onElse hk h10 ho (fun _ => rfl)⟩, by simp; omega⟩
            | cons r rs =>
              have hlen : ((ints (r :: rs)).length : Int) = (rs.length : Int) + 1 := by rw [ints_len]; simp
              have hlr : rs.length < l.length := by simp at hrs; omega
              have hw2 : IntKind.i64.wrap (((ints (r :: rs)).length : Int) - 1) = (rs.length : Int) := by rw [hlen, wrap_i64 (by omega) (by omega)]; omega
              rw [if_pos (by rw [hlen]; simp <;> omega)]
              simp only [hw2, Int.toNat_natCast]
              have hlast := get_last rs r
              obtain ⟨hr1, _, _⟩ := h.st 0 (by simp)
              have hr1' : r < k := hr1
              rw [if_pos ⟨by omega, by rw [hlen]; omega⟩, if_pos ⟨by omega, by rw [hlen]; omega⟩, if_pos ⟨trivial, by rw [List.length_set]; exact hbm.2⟩]
              simp only [hlast, Int.toNat_natCast]
              rw [if_pos (by simp only [List.length_set, h.len]; omega)]
              refine .inl ⟨_, rfl, ⟨k + 1, _, rs, by rw [take_last], h.onPop hk h22⟩, by simp; omega⟩
          · simp only [show (l[k] == (22 : Int)) = false by simpa using h22, Bool.false_eq_true, if_false, Option.bind_some]
            exact .inl ⟨_, rfl, ⟨k + 1, _, rs, rfl, h.onElse hk h10 ho (fun e => absurd e h22)⟩, by simp; omega⟩
    · have : k = l.length := by omega
      subst this
      right
      simp only [show ¬ ((l.length : Int) < l.length) by omega, decide_false, Bool.false_eq_true, if_false]
      exact ⟨m, rfl, h.done⟩
  · refine ⟨0, _, [], rfl, ?_⟩
    exact { le := Nat.zero_le _, len := by simp, st := fun t ht => by simp at ht, nd := List.nodup_nil, opIn := fun j _ hj => by omega, opOut := fun j _ hj => by omega, no := fun j _ hj => by omega }



def firstS (l : List Int) (to : Int) (i : Nat) : Int :=
  if h : i < l.length then
    if (i : Int) < to then
      if l[i] = 10 then -1
      else if opens l[i] = true then (if he : endOf l i = -1 then -1 else firstS l to ((endOf l i).toNat + 1))
      else if strongS l[i] = -1 then firstS l to (i + 1) else strongS l[i]
    else -1
  else -1
termination_by l.length - i
decreasing_by
  · have := endOf_gt l i
    omega
  · omega

theorem strongS_cases (c : Int) : strongS c = -1 ∨ strongS c = 0 ∨ strongS c = 1 := by
  unfold strongS
  split
  · exact .inr (.inr rfl)
  · split
    · exact .inr (.inl rfl)
    · exact .inl rfl

theorem firstS_cases (l : List Int) (to : Int) (i : Nat) : firstS l to i = -1 ∨ firstS l to i = 0 ∨ firstS l to i = 1 := by
  fun_induction firstS l to i
  all_goals first | exact .inl rfl | assumption | exact strongS_cases _

/-- Looked at further, the same is found. -/
theorem firstS_more {l : List Int} {to to' : Int} (h : to ≤ to') (i : Nat) : firstS l to i = -1 ∨ firstS l to i = firstS l to' i := by
  fun_induction firstS l to i with
  | case1 i h1 h2 h3 => exact .inl rfl
  | case2 i h1 h2 h3 h4 h5 => exact .inl rfl
  | case3 i h1 h2 h3 h4 h5 ih =>
    rcases ih with ih | ih
    · exact .inl ih
    · right
      rw [ih]
      conv => rhs; unfold firstS
      rw [dif_pos h1, if_pos (by omega), if_neg h3, if_pos h4, dif_neg h5]
  | case4 i h1 h2 h3 h4 h5 ih =>
    rcases ih with ih | ih
    · exact .inl ih
    · right
      rw [ih]
      conv => rhs; unfold firstS
      rw [dif_pos h1, if_pos (by omega), if_neg h3, if_neg h4, if_pos h5]
  | case5 i h1 h2 h3 h4 h5 =>
    right
    conv => rhs; unfold firstS
    rw [dif_pos h1, if_pos (by omega), if_neg h3, if_neg h4, if_neg h5]
  | case6 i h1 h2 => exact .inl rfl
  | case7 i h1 => exact .inl rfl

theorem firstS_none (l : List Int) (to : Int) (i : Nat) (h : to ≤ i) : firstS l to i = -1 := by
  unfold firstS
  split
  · rw [if_neg (by omega)]
  · rfl



theorem scan_cons (c : Int) (l : List Int) (d k : Nat) : scan (c :: l) d k = if c = 10 then -1 else if opens c then scan l (d + 1) (k + 1) else if c = 22 then (if d = 1 then (k : Int) else scan l (d - 1) (k + 1)) else scan l d (k + 1) := rfl

theorem scan_pass : ∀ (i : Nat) (l : List Int) (d k : Nat), 1 ≤ d → ((k + i : Nat) : Int) ≤ scan l d k → ∃ d', 1 ≤ d' ∧ scan l d k = scan (l.drop i) d' (k + i)
  | 0, l, d, k, hd, _ => ⟨d, hd, rfl⟩
  | i + 1, [], d, k, _, h => by simp [scan] at h; omega
  | i + 1, c :: l, d, k, hd, h => by
    have e : k + (i + 1) = k + 1 + i := by omega
    rw [e] at h ⊢
    simp only [List.drop_succ_cons]
    rw [scan_cons] at h ⊢
    split
    · rename_i hc; rw [if_pos hc] at h; omega
    · rename_i hc
      rw [if_neg hc] at h
      split
      · rename_i ho
        rw [if_pos ho] at h
        exact scan_pass i l _ _ (by omega) h
      · rename_i ho
        rw [if_neg ho] at h
        split
        · rename_i hp
          rw [if_pos hp] at h
          split
          · rename_i h1
            rw [if_pos h1] at h
            omega
          · rename_i h1
            rw [if_neg h1] at h
            exact scan_pass i l _ _ (by omega) h
        · rename_i hp
          rw [if_neg hp] at h
          exact scan_pass i l _ _ hd h

/-- What opens first ends last. -/
theorem endOf_inner {l : List Int} {i j : Nat} (hij : i < j) (hj : j < l.length) (ho : opens l[j] = true) (h : (j : Int) < endOf l i) : endOf l j ≠ endOf l i := by
  intro he
  unfold endOf at h he
  obtain ⟨d, hd, e⟩ := scan_pass (j - (i + 1)) (l.drop (i + 1)) 1 (i + 1) (Nat.le_refl 1) (by omega)
  rw [List.drop_drop, show i + 1 + (j - (i + 1)) = j by omega, drop_cons hj] at e
  have h10 : ¬ l[j] = 10 := by intro e; rw [e] at ho; simp [opens] at ho
  conv at e => rhs; unfold scan
  rw [if_neg h10, if_pos ho] at e
  rw [e] at he
  exact scan_apart _ _ (d + 1) _ (by omega) (by omega) (by rw [he, ← e]; omega) he.symm

theorem endOf_inj {l : List Int} {i j k : Nat} (hi : i < l.length) (hj : j < l.length) (hoi : opens l[i] = true) (hoj : opens l[j] = true) (h1 : endOf l i = k) (h2 : endOf l j = k) : i = j := by
  rcases Nat.lt_trichotomy i j with h | h | h
  · rcases endOf_gt l j with h3 | h3
    · omega
    · exact absurd (h2.trans h1.symm) (endOf_inner h hj hoj (by omega))
  · exact h
  · rcases endOf_gt l i with h3 | h3
    · omega
    · exact absurd (h1.trans h2.symm) (endOf_inner h hi hoi (by omega))

theorem IsMatch.unique {l m m' : List Int} (h : IsMatch l m) (h' : IsMatch l m') : m = m' := by
  apply List.ext_getElem (by rw [h.len, h'.len])
  intro k h1 h2
  have hk : k < l.length := by rw [← h.len]; exact h1
  have e1 : m.getD k 0 = m[k] := by simp [List.getD_eq_getElem?_getD, h1]
  have e2 : m'.getD k 0 = m'[k] := by simp [List.getD_eq_getElem?_getD, h2]
  rw [← e1, ← e2]
  cases ho : opens l[k] with
  | true => rw [h.op k hk ho, h'.op k hk ho]
  | false =>
    rcases h.no k hk ho with ⟨j, a1, ⟨a2, a3⟩, a4, a5⟩ | ⟨a1, a2⟩
    · rcases h'.no k hk ho with ⟨j', b1, ⟨b2, b3⟩, b4, b5⟩ | ⟨b1, b2⟩
      · rw [a5, b5, endOf_inj a2 b2 a3 b3 a4 b4]
      · exact absurd a4 (b2 j a2 a3)
    · rcases h'.no k hk ho with ⟨j', b1, ⟨b2, b3⟩, b4, b5⟩ | ⟨b1, b2⟩
      · exact absurd b4 (a2 j' b2 b3)
      · rw [a1, b1]

/-- The same, as a function. -/
def beginOf (l : List Int) (k : Nat) : Int :=
  match (List.range k).find? fun j => opens (l.getD j 0) && endOf l j == k with
  | some j => j
  | none => -1

def matchS (l : List Int) : List Int := (List.range l.length).map fun k => if opens (l.getD k 0) = true then endOf l k else beginOf l k

theorem matchS_ok (l : List Int) : IsMatch l (matchS l) := by
  have hg : ∀ k (h : k < l.length), (matchS l).getD k 0 = if opens (l.getD k 0) = true then endOf l k else beginOf l k := by
    intro k h
    simp [matchS, List.getD_eq_getElem?_getD, h]
  have hl : ∀ k (h : k < l.length), l.getD k 0 = l[k] := fun k h => by simp [List.getD_eq_getElem?_getD, h]
  refine ⟨by simp [matchS], fun j h ho => ?_, fun k h ho => ?_⟩
  · rw [hg j h, hl j h, if_pos ho]
  · rw [hg k h, hl k h, if_neg (by rw [ho]; simp)]
    unfold beginOf
    split
    · rename_i j hj
      have h1 := List.find?_some hj
      have h2 := List.mem_range.1 (List.mem_of_find?_eq_some hj)
      simp only [Bool.and_eq_true, beq_iff_eq] at h1
      have hjl : j < l.length := by omega
      rw [hl j hjl] at h1
      exact .inl ⟨j, h2, ⟨hjl, h1.1⟩, h1.2, rfl⟩
    · rename_i hn
      refine .inr ⟨rfl, fun j hj ho' he => ?_⟩
      have hlt : j < k := by rcases endOf_gt l j with h3 | h3 <;> omega
      have := List.find?_eq_none.1 hn j (List.mem_range.2 hlt)
      simp only [Bool.and_eq_true, beq_iff_eq, not_and] at this
      exact this (by rw [hl j hj]; exact ho') he

theorem f19_eq {l : List Int} (hl : l.length ≤ 100000) : Q.f19F l = some (matchS l) := by
  obtain ⟨m, h1, h2⟩ := f19_ok l hl
  rw [h1, h2.unique (matchS_ok l)]

/-- 'Ints'. -/
theorem f27_eq (a b : List Int) (hl : a.length ≤ 9223372036854775807) : Q.f27F (a, b) = some (decide (a = b)) := by
  unfold Q.f27F
  by_cases hab : a.length = b.length
  · rw [if_neg (by simp [hab])]
    suffices h : ∃ r, Option.bind (iter (fun s1 : Int => if decide (s1 < (a.length : Int)) = true then (if (0 : Int) ≤ s1 ∧ s1 < (a.length : Int) then (if (0 : Int) ≤ s1 ∧ s1 < (b.length : Int) then (if (a.getD s1.toNat 0 != b.getD s1.toNat 0) = true then some (Sum.inr (Sum.inr false)) else some (Sum.inl (IntKind.i64.wrap (s1 + 1)))) else none) else none) else some (Sum.inr (Sum.inl ()))) (0 : Int))
        (fun (v1 : Unit ⊕ Bool) => Sum.elim (fun _ => some true) (fun q => some q) v1) = some r ∧ r = decide (a = b) by
      obtain ⟨r, h1, rfl⟩ := h
      exact h1
    refine bind_ex (iter_rule (I := fun (s : Int) => ∃ i : Nat, s = (i : Int) ∧ i ≤ a.length ∧ a.take i = b.take i) (Q := fun e => Sum.elim (fun _ => true) (fun q => q) e = decide (a = b))
      (fun (s : Int) => ((a.length : Int) - s).toNat) ?_ _ ?_) ?_
    · rintro _ ⟨i, rfl, hi, ht⟩
      by_cases h : i < a.length
      · have hb : i < b.length := by omega
        rw [if_pos (by simp; omega), if_pos (by omega), if_pos (by omega)]
        simp only [Int.toNat_natCast]
        have ea : a.getD i 0 = a[i] := by simp [List.getD_eq_getElem?_getD, h]
        have eb : b.getD i 0 = b[i] := by simp [List.getD_eq_getElem?_getD, hb]
        simp only [ea, eb]
        by_cases he : a[i] = b[i]
        · rw [if_neg (by simp [he]), wrap_i64 (by omega) (by omega)]
          refine .inl ⟨_, rfl, ⟨i + 1, by omega, by omega, ?_⟩, by omega⟩
          rw [List.take_succ_eq_append_getElem h, List.take_succ_eq_append_getElem hb, ht, he]
        · rw [if_pos (by simpa using he)]
          refine .inr ⟨_, rfl, ?_⟩
          simp only [Sum.elim_inr]
          symm
          rw [decide_eq_false_iff_not]
          intro e
          subst e
          exact he rfl
      · rw [if_neg (by simp; omega)]
        refine .inr ⟨_, rfl, ?_⟩
        simp only [Sum.elim_inl]
        symm
        rw [decide_eq_true_eq]
        rw [List.take_of_length_le (by omega), List.take_of_length_le (by omega)] at ht
        exact ht
    · exact ⟨0, rfl, Nat.zero_le _, rfl⟩
    · intro e he
      cases e with
      | inl u => exact ⟨_, rfl, he⟩
      | inr q => exact ⟨_, rfl, he⟩
  · rw [if_pos (by simp; omega)]
    congr 1
    symm
    rw [decide_eq_false_iff_not]
    intro e
    subst e
    exact hab rfl



def levelS (l : List Int) (dir : Int) : Int := if dir = 1 ∨ dir = 2 then dir - 1 else max 0 (firstS l l.length 0)

theorem max0 (v : Int) : (if v > 0 then v else 0) = max 0 v := by omega

def isoS (l : List Int) (i : Int) : Int :=
  if i < 0 ∨ (l.length : Int) ≤ i ∨ opens (l.getD i.toNat 0) = false then -1
  else if l.getD i.toNat 0 ≠ 21 then l.getD i.toNat 0 - 19
  else max 0 (firstS l (if endOf l i.toNat = -1 then (l.length : Int) else endOf l i.toNat) (i.toNat + 1))

theorem tmod_bounds {a b : Int} (ha : 0 ≤ a) (hb : 0 < b) : 0 ≤ a.tmod b ∧ a.tmod b < b := by
  rw [Int.tmod_eq_emod_of_nonneg ha]
  exact ⟨Int.emod_nonneg _ (by omega), Int.emod_lt_of_pos _ hb⟩




theorem f35_eq (c : Int) : Q.f35F c = some (opens c) := by
  unfold Q.f35F opens
  by_cases h1 : c = 19
  · subst h1; rfl
  · by_cases h2 : c = 20
    · subst h2; rfl
    · simp [h1, h2]

/-- Less deep, it ends earlier. -/
theorem scan_less : ∀ (l : List Int) (d e k : Nat), 1 ≤ d → d < e → 0 ≤ scan l e k → 0 ≤ scan l d k ∧ scan l d k < scan l e k
  | [], d, e, k, _, _, h => by simp [scan] at h
  | c :: l, d, e, k, h1, h2, h => by
    rw [scan_cons] at h
    rw [scan_cons, scan_cons c l e k]
    split
    · rename_i hc; rw [if_pos hc] at h; omega
    · rename_i hc
      rw [if_neg hc] at h
      split
      · rename_i ho
        rw [if_pos ho] at h
        exact scan_less l _ _ _ (by omega) (by omega) h
      · rename_i ho
        rw [if_neg ho] at h
        split
        · rename_i hp
          rw [if_pos hp, if_neg (by omega)] at h
          rw [if_neg (show ¬ e = 1 by omega)]
          split
          · rcases scan_ge l (e - 1) (k + 1) with h3 | h3 <;> omega
          · exact scan_less l _ _ _ (by omega) (by omega) h
        · rename_i hp
          rw [if_neg hp] at h
          exact scan_less l _ _ _ h1 h2 h

theorem scan_no10 : ∀ (i : Nat) (l : List Int) (d k : Nat), 1 ≤ d → ((k + i : Nat) : Int) < scan l d k → ∃ c, l[i]? = some c ∧ c ≠ 10
  | i, [], d, k, _, h => by simp [scan] at h; omega
  | 0, c :: l, d, k, _, h => by
    refine ⟨c, rfl, fun hc => ?_⟩
    rw [scan_cons, if_pos hc] at h
    omega
  | i + 1, c :: l, d, k, hd, h => by
    have e : k + (i + 1) = k + 1 + i := by omega
    rw [e, scan_cons] at h
    simp only [List.getElem?_cons_succ]
    split at h
    · omega
    · split at h
      · exact scan_no10 i l _ _ (by omega) h
      · split at h
        · split at h
          · omega
          · exact scan_no10 i l _ _ (by omega) h
        · exact scan_no10 i l _ _ hd h

theorem endOf_no10 {l : List Int} {i j : Nat} (hij : i < j) (h : (j : Int) < endOf l i) : l.getD j 0 ≠ 10 := by
  unfold endOf at h
  obtain ⟨c, h1, h2⟩ := scan_no10 (j - (i + 1)) (l.drop (i + 1)) 1 (i + 1) (Nat.le_refl 1) (by rw [show i + 1 + (j - (i + 1)) = j by omega]; exact h)
  rw [List.getElem?_drop, show i + 1 + (j - (i + 1)) = j by omega] at h1
  rw [List.getD_eq_getElem?_getD, h1]
  exact h2

theorem endOf_nest {l : List Int} {i j : Nat} (hij : i < j) (hj : j < l.length) (ho : opens l[j] = true) (h : (j : Int) < endOf l i) : 0 ≤ endOf l j ∧ endOf l j < endOf l i := by
  unfold endOf at h ⊢
  obtain ⟨d, hd, e⟩ := scan_pass (j - (i + 1)) (l.drop (i + 1)) 1 (i + 1) (Nat.le_refl 1) (by omega)
  rw [List.drop_drop, show i + 1 + (j - (i + 1)) = j by omega, drop_cons hj] at e
  have h10 : ¬ l[j] = 10 := by intro e; rw [e] at ho; simp [opens] at ho
  rw [scan_cons, if_neg h10, if_pos ho] at e
  rw [e] at h ⊢
  exact scan_less _ _ _ _ (Nat.le_refl 1) (by omega) (by omega)

/-- Two places that belong together. -/
theorem matchS_pair {l : List Int} {i : Nat} (hi : i < l.length) (h : 0 ≤ (matchS l).getD i 0) :
    ∃ a b : Nat, a < b ∧ b < l.length ∧ (∃ ha : a < l.length, opens l[a] = true) ∧ l.getD b 0 = 22 ∧ endOf l a = b ∧ (matchS l).getD a 0 = b ∧ (matchS l).getD b 0 = a ∧
      ((i = a ∧ (matchS l).getD i 0 = b ∧ opens (l.getD i 0) = true) ∨ (i = b ∧ (matchS l).getD i 0 = a ∧ opens (l.getD i 0) = false)) := by
  have hm := matchS_ok l
  have hg : ∀ j (hj : j < l.length), l.getD j 0 = l[j] := fun j hj => by simp [List.getD_eq_getElem?_getD, hj]
  cases ho : opens l[i] with
  | true =>
    have h1 := hm.op i hi ho
    rw [h1] at h
    rcases endOf_gt l i with h2 | h2
    · omega
    · obtain ⟨b, hb⟩ := Int.eq_ofNat_of_zero_le h
      have hbl : b < l.length := by omega
      have h22 := endOf_at hb
      have h22' : l[b] = 22 := by rw [List.getElem?_eq_getElem hbl] at h22; simpa using h22
      have hmb : (matchS l).getD b 0 = i := by
        rcases hm.no b hbl (by rw [h22']; rfl) with ⟨j, _, ⟨j2, j3⟩, j4, j5⟩ | ⟨_, j2⟩
        · rw [j5, endOf_inj j2 hi j3 ho j4 hb]
        · exact absurd hb (j2 i hi ho)
      exact ⟨i, b, by omega, hbl, ⟨hi, ho⟩, by rw [hg b hbl, h22'], hb, by rw [h1, hb], hmb, .inl ⟨rfl, by rw [h1, hb], by rw [hg i hi]; exact ho⟩⟩
  | false =>
    rcases hm.no i hi ho with ⟨j, j1, ⟨j2, j3⟩, j4, j5⟩ | ⟨j1, _⟩
    · have h22 := endOf_at j4
      exact ⟨j, i, j1, hi, ⟨j2, j3⟩, by rw [List.getD_eq_getElem?_getD, h22]; rfl, j4, by rw [hm.op j j2 j3, j4], j5, .inr ⟨rfl, j5, by rw [hg i hi]; exact ho⟩⟩
    · rw [j1] at h
      omega

theorem matchS_within {l : List Int} {a b j : Nat} (hab : endOf l a = b) (ha : a < l.length) (hoa : opens l[a] = true) (h1 : a < j) (h2 : j < b) (hj : j < l.length) :
    (matchS l).getD j 0 < 0 ∨ ((a : Int) ≤ (matchS l).getD j 0 ∧ (matchS l).getD j 0 ≤ b) := by
  have hm := matchS_ok l
  cases ho : opens l[j] with
  | true =>
    rw [hm.op j hj ho]
    have := endOf_nest h1 hj ho (by rw [hab]; omega)
    rcases endOf_gt l j with h3 | h3
    · omega
    · right; omega
  | false =>
    rcases hm.no j hj ho with ⟨j', j1, ⟨j2, j3⟩, j4, j5⟩ | ⟨j1, _⟩
    · right
      rw [j5]
      refine ⟨?_, by omega⟩
      rcases Nat.lt_or_ge j' a with h3 | h3
      · have := endOf_nest h3 ha hoa (by rw [j4]; omega)
        omega
      · omega
    · left; rw [j1]; omega




/-- 'End'. -/
theorem f36_eq {l : List Int} (hl : l.length ≤ 100000) {i : Nat} (hi : i < l.length) : Q.f36F (l, (i : Int)) = some (endOf l i) := by
  suffices h : ∃ r, Q.f36F (l, (i : Int)) = some r ∧ r = endOf l i by
    obtain ⟨r, h1, rfl⟩ := h
    exact h1
  unfold Q.f36F
  refine bind_ex (iter_rule (I := fun s => ∃ d k : Nat, s = ((d : Int), (k : Int)) ∧ 1 ≤ d ∧ d ≤ k ∧ k ≤ l.length ∧ scan (l.drop k) d k = endOf l i)
    (Q := fun e => Sum.elim (fun _ => (-1 : Int)) (fun v => v) e = endOf l i) (fun s => (l.length - s.2).toNat) ?_ _ ?_) ?_
  · rintro _ ⟨d, k, rfl, h1, h2, h3, h⟩
    dsimp only
    by_cases hk : k < l.length
    · have hb : (0 : Int) ≤ k ∧ (k : Int) < l.length := ⟨by omega, by omega⟩
      have hget : l.getD k 0 = l[k] := by simp [List.getD_eq_getElem?_getD, hk]
      rw [if_pos (by rw [decide_eq_true_eq]; omega), if_pos hb]
      simp only [Int.toNat_natCast, hget, Option.bind_some, f35_eq]
      rw [drop_cons hk, scan_cons] at h
      by_cases h10 : l[k] = 10
      · rw [if_pos h10] at h
        simp only [h10, bne_self_eq_false, Bool.false_eq_true, if_false]
        exact .inr ⟨_, rfl, h⟩
      · rw [if_neg h10] at h
        rw [if_pos (by rw [bne_iff_ne]; exact h10)]
        simp only [if_pos hb]
        cases ho : opens l[k] with
        | true =>
          rw [if_pos ho] at h
          have h22 : ¬ l[k] = 22 := by intro e; rw [e] at ho; simp [opens] at ho
          simp only [if_true, Option.bind_some, show (l[k] == (22 : Int)) = false by simpa using h22, Bool.false_eq_true, if_false]
          rw [wrap_i64 (by omega) (by omega), wrap_i64 (by omega) (by omega)]
          exact .inl ⟨_, rfl, ⟨d + 1, k + 1, by simp, by omega, by omega, by omega, h⟩, by simp only []; omega⟩
        | false =>
          rw [if_neg (by rw [ho]; simp)] at h
          simp only [Bool.false_eq_true, if_false, Option.bind_some]
          by_cases h22 : l[k] = 22
          · rw [if_pos h22] at h
            simp only [h22, beq_self_eq_true, if_true]
            rw [wrap_i64 (by omega) (by omega), wrap_i64 (by omega) (by omega)]
            by_cases hd : d = 1
            · rw [if_pos hd] at h
              rw [if_pos (by rw [beq_iff_eq]; omega)]
              exact .inr ⟨_, rfl, h⟩
            · rw [if_neg hd] at h
              rw [if_neg (by rw [beq_iff_eq]; omega)]
              exact .inl ⟨_, rfl, ⟨d - 1, k + 1, by simp; omega, by omega, by omega, by omega, h⟩, by simp only []; omega⟩
          · rw [if_neg h22] at h
            simp only [show (l[k] == (22 : Int)) = false by simpa using h22, Bool.false_eq_true, if_false]
            rw [wrap_i64 (by omega) (by omega)]
            exact .inl ⟨_, rfl, ⟨d, k + 1, by simp, by omega, by omega, by omega, h⟩, by simp only []; omega⟩
    · rw [if_neg (by rw [decide_eq_true_eq]; omega)]
      simp only [Option.bind_some, Bool.false_eq_true, if_false]
      rw [List.drop_of_length_le (by omega)] at h
      exact .inr ⟨_, rfl, h⟩
  · exact ⟨1, i + 1, by rw [wrap_i64 (by omega) (by omega)]; simp, by omega, by omega, by omega, rfl⟩
  · intro e he
    cases e with
    | inl u => exact ⟨_, rfl, he⟩
    | inr v => exact ⟨_, rfl, he⟩

/-- The second loop's state. -/
structure RInv (l : List Int) (k : Nat) (m : List Int) : Prop where
  len : m.length = l.length
  op : ∀ j (h : j < l.length), opens l[j] = true → j < k → m.getD j 0 = endOf l j
  no : ∀ j (h : j < l.length), opens l[j] = false → (∃ i, i < k ∧ (∃ hi : i < l.length, opens l[i] = true) ∧ endOf l i = j ∧ m.getD j 0 = i) ∨ (m.getD j 0 = -1 ∧ ∀ i (hi : i < l.length), opens l[i] = true → i < k → endOf l i ≠ j)

theorem RInv.done {l m : List Int} (h : RInv l l.length m) : IsMatch l m where
  len := h.len
  op := fun j hj ho => h.op j hj ho hj
  no := fun j hj ho => by
    rcases h.no j hj ho with ⟨i, h1, h2, h3, h4⟩ | ⟨h1, h2⟩
    · refine .inl ⟨i, ?_, h2, h3, h4⟩
      rcases endOf_gt l i with h5 | h5 <;> omega
    · exact .inr ⟨h1, fun i hi ho' => h2 i hi ho' hi⟩

theorem RInv.pass {l m : List Int} {k : Nat} (h : RInv l k m) (hk : k < l.length) (ho : opens l[k] = false) : RInv l (k + 1) m where
  len := h.len
  op := fun j hj hoj hlt => h.op j hj hoj (by
    rcases Nat.lt_or_ge j k with h1 | h1
    · exact h1
    · have : j = k := by omega
      subst this
      rw [ho] at hoj; cases hoj)
  no := fun j hj hoj => by
    rcases h.no j hj hoj with ⟨i, h1, h2, h3, h4⟩ | ⟨h1, h2⟩
    · exact .inl ⟨i, by omega, h2, h3, h4⟩
    · refine .inr ⟨h1, fun i hi hoi hlt => h2 i hi hoi ?_⟩
      rcases Nat.lt_or_ge i k with h3 | h3
      · exact h3
      · have : i = k := by omega
        subst this
        rw [ho] at hoi; cases hoi

theorem RInv.lost {l m : List Int} {k : Nat} (h : RInv l k m) (hk : k < l.length) (ho : opens l[k] = true) (he : endOf l k < 0) : RInv l (k + 1) (m.set k (endOf l k)) where
  len := by simp [h.len]
  op := fun j hj hoj hlt => by
    rw [getD_set _ _ _ _ (by rw [h.len]; exact hk)]
    split
    · rename_i e; subst e; rfl
    · exact h.op j hj hoj (by omega)
  no := fun j hj hoj => by
    have hjk : ¬ k = j := by intro e; subst e; rw [ho] at hoj; cases hoj
    rw [getD_set _ _ _ _ (by rw [h.len]; exact hk), if_neg hjk]
    rcases h.no j hj hoj with ⟨i, h1, h2, h3, h4⟩ | ⟨h1, h2⟩
    · exact .inl ⟨i, by omega, h2, h3, h4⟩
    · refine .inr ⟨h1, fun i hi hoi hlt => ?_⟩
      rcases Nat.lt_or_ge i k with h3 | h3
      · exact h2 i hi hoi h3
      · have : i = k := by omega
        subst this
        omega

theorem RInv.found {l m : List Int} {k e : Nat} (h : RInv l k m) (hk : k < l.length) (ho : opens l[k] = true) (he : endOf l k = e) (hel : e < l.length) : RInv l (k + 1) ((m.set k (endOf l k)).set e (k : Int)) where
  len := by simp [h.len]
  op := fun j hj hoj hlt => by
    have h22 : l[e]? = some 22 := endOf_at he
    have hej : ¬ e = j := by
      intro e'
      subst e'
      rw [List.getElem?_eq_getElem hj] at h22
      have : l[e] = 22 := by simpa using h22
      rw [this] at hoj
      simp [opens] at hoj
    rw [getD_set _ _ _ _ (by simp [h.len]; exact hel), if_neg hej, getD_set _ _ _ _ (by rw [h.len]; exact hk)]
    split
    · rename_i e'; subst e'; rfl
    · exact h.op j hj hoj (by omega)
  no := fun j hj hoj => by
    have hjk : ¬ k = j := by intro e'; subst e'; rw [ho] at hoj; cases hoj
    rw [getD_set _ _ _ _ (by simp [h.len]; exact hel)]
    by_cases hej : e = j
    · subst hej
      rw [if_pos rfl]
      exact .inl ⟨k, by omega, ⟨hk, ho⟩, he, rfl⟩
    · rw [if_neg hej, getD_set _ _ _ _ (by rw [h.len]; exact hk), if_neg hjk]
      rcases h.no j hj hoj with ⟨i, h1, h2, h3, h4⟩ | ⟨h1, h2⟩
      · exact .inl ⟨i, by omega, h2, h3, h4⟩
      · refine .inr ⟨h1, fun i hi hoi hlt => ?_⟩
        rcases Nat.lt_or_ge i k with h3 | h3
        · exact h2 i hi hoi h3
        · have : i = k := by omega
          subst this
          omega

/-- 'ref.Match'. -/
theorem f24_eq {l : List Int} (hl : l.length ≤ 100000) : Q.f24F l = some (matchS l) := by
  suffices h : ∃ m, Q.f24F l = some m ∧ IsMatch l m by
    obtain ⟨m, h1, h2⟩ := h
    rw [h1, h2.unique (matchS_ok l)]
  unfold Q.f24F
  rw [if_pos (by refine ⟨by omega, Int.le_refl _, ?_⟩; unfold roomOk; simp; omega)]
  refine bind_ex (iter_rule (I := fun s => ∃ (k : Nat) (m : List Int), s = ((k : Int), m) ∧ m.length = l.length ∧ k ≤ l.length ∧ ∀ j, j < k → m.getD j 0 = -1)
    (Q := fun m => m.length = l.length ∧ ∀ j, j < l.length → m.getD j 0 = -1) (fun s => (l.length - s.1).toNat) ?_ _ ?_) ?_
  · rintro _ ⟨k, m, rfl, h1, h2, h3⟩
    dsimp only
    by_cases hk : k < l.length
    · rw [if_pos (by rw [decide_eq_true_eq]; omega), if_pos (by omega), wrap_i64 (by omega) (by omega)]
      refine .inl ⟨_, rfl, ⟨k + 1, _, rfl, by simp [h1], by omega, fun j hj => ?_⟩, by simp only []; omega⟩
      simp only [Int.toNat_natCast]
      rw [getD_set _ _ _ _ (by omega)]
      split
      · rfl
      · exact h3 j (by omega)
    · rw [if_neg (by rw [decide_eq_true_eq]; omega)]
      exact .inr ⟨_, rfl, h1, fun j hj => h3 j (by omega)⟩
  · exact ⟨0, _, rfl, by simp, Nat.zero_le _, fun j hj => by omega⟩
  · intro m0 ⟨hm1, hm2⟩
    refine bind_ex (iter_rule (I := fun s => ∃ (k : Nat) (m : List Int), s = ((k : Int), m) ∧ k ≤ l.length ∧ RInv l k m)
      (Q := fun m => IsMatch l m) (fun s => (l.length - s.1).toNat) ?_ _ ?_) fun m hm => ⟨m, rfl, hm⟩
    · rintro _ ⟨k, m, rfl, h2, h⟩
      dsimp only
      by_cases hk : k < l.length
      · have hget : l.getD k 0 = l[k] := by simp [List.getD_eq_getElem?_getD, hk]
        rw [if_pos (by rw [decide_eq_true_eq]; omega), if_pos (by omega)]
        have hwr : IntKind.i64.wrap ((k : Int) + 1) = ((k + 1 : Nat) : Int) := by rw [wrap_i64 (by omega) (by omega)]; rfl
        simp only [Int.toNat_natCast, hget, f35_eq, Option.bind_some, f36_eq hl hk, hwr]
        cases ho : opens l[k] with
        | false =>
          simp only [Bool.false_eq_true, if_false]
          exact .inl ⟨_, rfl, ⟨k + 1, _, rfl, by omega, h.pass hk ho⟩, by simp only []; omega⟩
        | true =>
          simp only [if_true]
          rw [if_pos (by rw [h.len]; omega)]
          by_cases he : endOf l k ≥ 0
          · rcases endOf_gt l k with h4 | h4
            · omega
            · rw [if_pos (by rw [decide_eq_true_eq]; exact he), if_pos (by rw [List.length_set, h.len]; omega)]
              obtain ⟨e, hee⟩ := Int.eq_ofNat_of_zero_le he
              refine .inl ⟨_, rfl, ⟨k + 1, _, rfl, by omega, ?_⟩, by simp only []; omega⟩
              have := h.found hk ho hee (by omega)
              rw [hee] at this ⊢
              simpa using this
          · rw [if_neg (by rw [decide_eq_true_eq]; exact he)]
            exact .inl ⟨_, rfl, ⟨k + 1, _, rfl, by omega, h.lost hk ho (by omega)⟩, by simp only []; omega⟩
      · have : k = l.length := by omega
        subst this
        rw [if_neg (by rw [decide_eq_true_eq]; omega)]
        exact .inr ⟨_, rfl, h.done⟩
    · exact ⟨0, _, rfl, Nat.zero_le _, hm1, fun j _ _ hj => by omega, fun j hj _ => .inr ⟨hm2 j hj, fun i _ _ hi => by omega⟩⟩

/-- 'Word'. -/
theorem f43_eq (c : Int) : ∃ b, Q.f43F c = some b ∧ (b.toList == (⟨#[]⟩ : ByteArray).toList) = decide (c < 0 ∨ 23 ≤ c) := by
  unfold Q.f43F
  by_cases h0 : c < 0
  · simp [h0, toList_data]
  · by_cases h1 : 23 ≤ c
    · simp [h0, h1, toList_data]
    · have key : ∀ n : Nat, n < 23 → ((wordsQ.getD n ByteArray.empty).data.toList == []) = false := by decide +kernel
      obtain ⟨n, rfl⟩ := Int.eq_ofNat_of_zero_le (Int.not_lt.1 h0)
      have hn : n < 23 := by omega
      refine ⟨wordsQ.getD n ByteArray.empty, ?_, ?_⟩
      · rw [if_neg (by simp)]
        simp only [Option.bind_some]
        rw [if_neg (by simp; omega), if_pos (by simp; omega)]
        rfl
      · rw [toList_data, toList_data, key n hn]
        symm
        rw [decide_eq_false_iff_not]
        omega

/-- 'ref.First'. -/
theorem f52_eq {l : List Int} (hl : l.length ≤ 100000) (from_ to : Int) : Q.f52F (l, from_, to) = some (firstS l to from_.toNat) := by
  suffices h : ∃ r, Q.f52F (l, from_, to) = some r ∧ r = firstS l to from_.toNat by
    obtain ⟨r, h1, rfl⟩ := h
    exact h1
  obtain ⟨R, hR⟩ : ∃ R, firstS l to from_.toNat = R := ⟨_, rfl⟩
  rw [hR]
  unfold Q.f52F
  refine bind_ex (iter_rule (I := fun (s : Int) => ∃ i : Nat, s = (i : Int) ∧ firstS l to i = R) (Q := fun e => Sum.elim (fun _ => (-1 : Int)) (fun v => v) e = R)
    (fun (s : Int) => ((l.length : Int) - s).toNat) ?_ _ ?_) ?_
  · rintro _ ⟨i, rfl, h⟩
    dsimp only
    have hmin : ((i : Int) < minI to l.length) ↔ (i : Int) < to ∧ i < l.length := by
      unfold minI
      split <;> omega
    by_cases hi : i < l.length
    · have hb : (0 : Int) ≤ i ∧ (i : Int) < l.length := ⟨by omega, by omega⟩
      have hget : l.getD i 0 = l[i] := by simp [List.getD_eq_getElem?_getD, hi]
      have hwr : IntKind.i64.wrap ((i : Int) + 1) = ((i + 1 : Nat) : Int) := by rw [wrap_i64 (by omega) (by omega)]; rfl
      by_cases hto : (i : Int) < to
      · have hmin' : (i : Int) < minI to l.length := hmin.2 ⟨hto, hi⟩
        obtain ⟨b, hb1, hb2⟩ := f43_eq l[i]
        rw [if_pos (decide_eq_true hmin'), if_pos hb]
        simp only [if_pos hb, Int.toNat_natCast, hget, Option.bind_some, f35_eq, hwr, f36_eq hl hi, hb1, hb2]
        unfold firstS at h
        rw [dif_pos hi, if_pos hto] at h
        by_cases h10 : l[i] = 10
        · rw [if_pos h10] at h
          simp only [h10, beq_self_eq_true, if_true]
          exact .inr ⟨_, rfl, h⟩
        · rw [if_neg h10] at h
          rw [if_neg (by rw [beq_iff_eq]; exact h10)]
          cases ho : opens l[i] with
          | true =>
            rw [if_pos ho] at h
            simp only [if_true]
            by_cases he : endOf l i = -1
            · rw [dif_pos he] at h
              simp only [he]
              exact .inr ⟨_, rfl, h⟩
            · rw [dif_neg he] at h
              have hgt := endOf_gt l i
              rw [if_neg (by rw [decide_eq_true_eq]; omega)]
              simp only [Option.bind_some]
              by_cases hge : endOf l i ≥ to
              · rw [if_pos (by rw [decide_eq_true_eq]; exact hge)]
                refine .inr ⟨_, rfl, ?_⟩
                rw [firstS_none _ _ _ (by omega)] at h
                exact h
              · rw [if_neg (by rw [decide_eq_true_eq]; exact hge), wrap_i64 (by omega) (by omega)]
                exact .inl ⟨_, rfl, ⟨(endOf l i).toNat + 1, by omega, h⟩, by omega⟩
          | false =>
            rw [if_neg (by rw [ho]; simp)] at h
            simp only [Bool.false_eq_true, if_false]
            have hst : ∀ v, strongS l[i] = v → v ≠ -1 → v = R := fun v e hv => by rw [if_neg (by rw [e]; exact hv), e] at h; exact h
            by_cases h1 : l[i] = 1
            · simp only [h1, beq_self_eq_true, if_true, Option.bind_some]
              exact .inr ⟨_, rfl, hst 1 (by unfold strongS; rw [if_pos (.inl h1)]) (by omega)⟩
            · simp only [show (l[i] == (1 : Int)) = false by simpa using h1, Bool.false_eq_true, if_false, Option.bind_some]
              by_cases h2 : l[i] = 2
              · simp only [h2, beq_self_eq_true, if_true]
                exact .inr ⟨_, rfl, hst 1 (by unfold strongS; rw [if_pos (.inr h2)]) (by omega)⟩
              · simp only [show (l[i] == (2 : Int)) = false by simpa using h2, Bool.false_eq_true, if_false]
                have h12 : ¬ (l[i] = 1 ∨ l[i] = 2) := by omega
                by_cases h3 : l[i] = 0
                · simp only [h3, beq_self_eq_true, if_true, Option.bind_some]
                  exact .inr ⟨_, rfl, hst 0 (by unfold strongS; rw [if_neg h12, if_pos (.inl h3)]) (by omega)⟩
                · simp only [show (l[i] == (0 : Int)) = false by simpa using h3, Bool.false_eq_true, if_false, Option.bind_some]
                  by_cases h4 : l[i] < 0 ∨ 23 ≤ l[i]
                  · rw [if_pos (by rw [decide_eq_true_eq]; exact h4)]
                    exact .inr ⟨_, rfl, hst 0 (by unfold strongS; rw [if_neg h12, if_pos (.inr h4)]) (by omega)⟩
                  · rw [if_pos (by unfold strongS; rw [if_neg h12, if_neg (by omega)])] at h
                    rw [if_neg (by rw [decide_eq_true_eq]; exact h4)]
                    exact .inl ⟨_, rfl, ⟨i + 1, rfl, h⟩, by omega⟩
      · unfold firstS at h
        rw [dif_pos hi, if_neg hto] at h
        have hno : ¬ (i : Int) < minI to l.length := fun h' => hto (hmin.1 h').1
        rw [if_neg (by simpa using hno)]
        exact .inr ⟨_, rfl, h⟩
    · unfold firstS at h
      rw [dif_neg hi] at h
      have hno : ¬ (i : Int) < minI to l.length := fun h' => hi (hmin.1 h').2
      rw [if_neg (by simpa using hno)]
      exact .inr ⟨_, rfl, h⟩
  · refine ⟨from_.toNat, ?_, hR⟩
    dsimp only [maxI]
    split <;> omega
  · intro e he
    cases e with
    | inl u => exact ⟨_, rfl, he⟩
    | inr v => exact ⟨_, rfl, he⟩

theorem f49_eq {l : List Int} (hl : l.length ≤ 100000) (i : Int) : Q.f49F (l, i) = some (isoS l i) := by
  unfold Q.f49F
  by_cases h0 : i < 0
  · simp [isoS, h0]
  · by_cases h1 : (l.length : Int) ≤ i
    · simp [isoS, h0, h1]
    · have hb : (0 : Int) ≤ i ∧ i < l.length := by omega
      have hi : i.toNat < l.length := by omega
      rw [if_neg (by simpa using h0)]
      simp only [Option.bind_some]
      rw [if_neg (by rw [decide_eq_true_eq]; omega), if_pos hb]
      unfold isoS
      by_cases h19 : l.getD i.toNat 0 = 19
      · rw [if_pos (by rw [beq_iff_eq]; exact h19), h19, if_neg (by simp [opens]; omega), if_pos (by omega)]
        rfl
      · rw [if_neg (by rw [beq_iff_eq]; exact h19)]
        by_cases h20 : l.getD i.toNat 0 = 20
        · rw [if_pos (by rw [beq_iff_eq]; exact h20), h20, if_neg (by simp [opens]; omega), if_pos (by omega)]
          rfl
        · rw [if_neg (by rw [beq_iff_eq]; exact h20)]
          by_cases h21 : l.getD i.toNat 0 = 21
          · rw [if_pos (by rw [beq_iff_eq]; exact h21), h21, if_neg (by simp [opens]; omega), if_neg (by omega)]
            have e : Q.f36F (l, i) = some (endOf l i.toNat) := by
              have := f36_eq hl hi
              rwa [Int.toNat_of_nonneg hb.1] at this
            have hn : (IntKind.i64.wrap (i + 1)).toNat = i.toNat + 1 := by rw [wrap_i64 (by omega) (by omega)]; omega
            simp only [e, Option.bind_some]
            have hgt := endOf_gt l i.toNat
            by_cases he : endOf l i.toNat = -1
            · rw [if_pos (by rw [decide_eq_true_eq]; omega), if_pos he]
              simp only [Option.bind_some, f52_eq hl, hn, maxI, max0]
            · rw [if_neg (by rw [decide_eq_true_eq]; omega), if_neg he]
              simp only [Option.bind_some, f52_eq hl, hn, maxI, max0]
          · rw [if_neg (by rw [beq_iff_eq]; exact h21), if_pos]
            refine .inr (.inr ?_)
            unfold opens
            simp only [Bool.or_eq_false_iff, beq_eq_false_iff_ne]
            exact ⟨⟨h19, h20⟩, h21⟩


end Go.Sx
