import Derived.Test.YtjmdfkcgglidaaaDoorSxWA
set_option linter.unusedVariables false
set_option linter.unusedSimpArgs false
namespace Go.Sx

/-! ### What a suffix says -/

theorem scan_shift (a : Nat) : ∀ (l : List Int) (d k : Nat), scan l d (a + k) = if scan l d k = -1 then -1 else scan l d k + a
  | [], d, k => rfl
  | c :: l, d, k => by
    rw [scan_cons, scan_cons]
    have e : a + k + 1 = a + (k + 1) := by omega
    rw [e]
    split
    · rfl
    · split
      · exact scan_shift a l _ _
      · split
        · split
          · rw [if_neg (by omega)]; omega
          · exact scan_shift a l _ _
        · exact scan_shift a l _ _

theorem drop_app (A S : List Int) (j : Nat) : (A ++ S).drop (A.length + j) = S.drop j := by
  rw [List.drop_append, List.drop_of_length_le (by omega)]
  simp

theorem endOf_app (A S : List Int) (j : Nat) : endOf (A ++ S) (A.length + j) = if endOf S j = -1 then -1 else endOf S j + A.length := by
  unfold endOf
  rw [show A.length + j + 1 = A.length + (j + 1) by omega, drop_app, scan_shift]

theorem get_app {A S : List Int} {j : Nat} (h : j < S.length) (h' : A.length + j < (A ++ S).length) : (A ++ S)[A.length + j] = S[j] := by
  rw [List.getElem_append_right (by omega)]
  simp

theorem firstS_app (A S : List Int) : ∀ (n j : Nat) (to : Int), S.length - j ≤ n → firstS (A ++ S) (to + A.length) (A.length + j) = firstS S to j := by
  intro n
  induction n with
  | zero =>
    intro j to hn
    conv => lhs; unfold firstS
    conv => rhs; unfold firstS
    rw [dif_neg (by simp; omega), dif_neg (by omega)]
  | succ n ih =>
    intro j to hn
    conv => lhs; unfold firstS
    conv => rhs; unfold firstS
    by_cases hj : j < S.length
    · rw [dif_pos (show A.length + j < (A ++ S).length by simp; omega), dif_pos hj, get_app hj]
      by_cases ht : (j : Int) < to
      · rw [if_pos (by omega), if_pos ht]
        split
        · rfl
        · split
          · rename_i ho
            have he := endOf_app A S j
            have hg := endOf_gt S j
            by_cases h1 : endOf S j = -1
            · rw [dif_pos (by rw [he, if_pos h1]), dif_pos h1]
            · rw [if_neg h1] at he
              rw [dif_neg (by omega), dif_neg h1, he, show (endOf S j + (A.length : Int)).toNat + 1 = A.length + ((endOf S j).toNat + 1) by omega]
              exact ih _ to (by omega)
          · split
            · rw [show A.length + j + 1 = A.length + (j + 1) by omega]
              exact ih _ to (by omega)
            · rfl
      · rw [if_neg (by omega), if_neg ht]
    · rw [dif_neg (by simp; omega), dif_neg hj]

theorem getD_app2 (A S : List Int) (j : Nat) : (A ++ S).getD (A.length + j) 0 = S.getD j 0 := by
  simp only [List.getD_eq_getElem?_getD]
  rw [List.getElem?_append_right (by omega)]
  simp

theorem isoS_app (A S : List Int) (j : Nat) (hj : j < S.length) : isoS (A ++ S) ((A.length + j : Nat) : Int) = isoS S (j : Int) := by
  unfold isoS
  rw [Int.toNat_natCast, Int.toNat_natCast, getD_app2]
  have c1 : (((A.length + j : Nat) : Int) < 0 ∨ ((A ++ S).length : Int) ≤ ((A.length + j : Nat) : Int) ∨ opens (S.getD j 0) = false) ↔ ((j : Int) < 0 ∨ (S.length : Int) ≤ j ∨ opens (S.getD j 0) = false) := by
    rw [List.length_append]
    constructor <;> rintro (h | h | h) <;> first | omega | exact .inr (.inr h)
  simp only [c1]
  split
  · rfl
  · split
    · rfl
    · have he := endOf_app A S j
      have hg := endOf_gt S j
      congr 1
      rw [show A.length + j + 1 = A.length + (j + 1) by omega]
      by_cases h1 : endOf S j = -1
      · rw [if_pos (by rw [he, if_pos h1]), if_pos h1]
        have := firstS_app A S _ (j + 1) (S.length : Int) (Nat.le_refl _)
        rw [← this]
        congr 1
        simp; omega
      · rw [if_neg h1] at he
        rw [if_neg (by omega), if_neg h1, he]
        exact firstS_app A S _ (j + 1) (endOf S j) (Nat.le_refl _)

/-! ### What counts of a state -/

def St.core (s : St) : St := { s with lv := [], cl := [], most := 0 }

def St.stepC (c iso : Int) (s : St) : St :=
  if c = 14 then (s.tell s.top.1 c).embed 0 (-1)
  else if c = 16 then (s.tell s.top.1 c).embed 1 (-1)
  else if c = 15 then (s.tell s.top.1 c).embed 0 0
  else if c = 17 then (s.tell s.top.1 c).embed 1 1
  else if c = 18 then (s.tell s.top.1 c).back
  else if c = 9 then s.tell s.top.1 c
  else if opens c = true then (s.place c).iso iso
  else if c = 22 then s.fin.place c
  else if c = 10 then s.reset.tell s.base c
  else if c < 0 ∨ 23 ≤ c then s.place 0
  else s.place c

theorem step_eq (l : List Int) (s : St) (i : Nat) : s.step l i = s.stepC (l.getD i 0) (isoS l i) := rfl

/-- As 't', but with what 's' had told. -/
structure Same (s t s' t' : St) : Prop where
  core : s'.core = t'.core
  told : ∃ a b, s'.lv = s.lv ++ [a] ∧ t'.lv = t.lv ++ [a] ∧ s'.cl = s.cl ++ [b] ∧ t'.cl = t.cl ++ [b]

theorem core_eta (s : St) : ∃ lv cl m, s = { s.core with lv := lv, cl := cl, most := m } := ⟨s.lv, s.cl, s.most, rfl⟩

theorem embed_core (s : St) (lv cl : List Int) (m d o : Int) : (({ s with lv := lv, cl := cl, most := m } : St).embed d o).core = (s.embed d o).core := by
  have e : ({ s with lv := lv, cl := cl, most := m } : St).embed d o = if s.fits (nextS s.top.1 d) then ({ s with lv := lv, cl := cl, most := m } : St).push (nextS s.top.1 d, o, false) else if s.li = 0 then { s with lv := lv, cl := cl, most := m, le := s.le + 1 } else { s with lv := lv, cl := cl, most := m } := rfl
  rw [e]
  unfold St.embed
  split
  · rfl
  · split <;> rfl

theorem iso_core (s : St) (lv cl : List Int) (m d : Int) : (({ s with lv := lv, cl := cl, most := m } : St).iso d).core = (s.iso d).core := by
  have e : ({ s with lv := lv, cl := cl, most := m } : St).iso d = if s.fits (nextS s.top.1 d) then { ({ s with lv := lv, cl := cl, most := m } : St).push (nextS s.top.1 d, -1, true) with v := s.v + 1 } else { s with lv := lv, cl := cl, most := m, li := s.li + 1 } := rfl
  rw [e]
  unfold St.iso
  split <;> rfl

theorem back_core (s : St) (lv cl : List Int) (m : Int) : (({ s with lv := lv, cl := cl, most := m } : St).back).core = s.back.core := by
  have e : ({ s with lv := lv, cl := cl, most := m } : St).back = if 0 < s.li then { s with lv := lv, cl := cl, most := m } else if 0 < s.le then { s with lv := lv, cl := cl, most := m, le := s.le - 1 } else if 1 < s.st.length ∧ s.top.2.2 = false then { s with lv := lv, cl := cl, most := m, st := s.st.tail } else { s with lv := lv, cl := cl, most := m } := rfl
  rw [e]
  unfold St.back
  split
  · rfl
  · split
    · rfl
    · split <;> rfl

theorem fin_core (s : St) (lv cl : List Int) (m : Int) : ({ s with lv := lv, cl := cl, most := m } : St).fin = { s.fin with lv := lv, cl := cl, most := m } := by
  have e : ({ s with lv := lv, cl := cl, most := m } : St).fin = if 0 < s.li then { s with lv := lv, cl := cl, most := m, li := s.li - 1 } else if 0 < s.v then { s with lv := lv, cl := cl, most := m, le := 0, v := s.v - 1, st := popIso s.st } else { s with lv := lv, cl := cl, most := m } := rfl
  rw [e]
  unfold St.fin
  split
  · rfl
  · split <;> rfl

/-- What is told, and what counts, hangs on what counts alone. -/
theorem stepC_same (c iso : Int) (s : St) (lv cl : List Int) (m : Int) : Same s { s with lv := lv, cl := cl, most := m } (s.stepC c iso) (({ s with lv := lv, cl := cl, most := m } : St).stepC c iso) := by
  have ht : ({ s with lv := lv, cl := cl, most := m } : St).top = s.top := rfl
  unfold St.stepC
  rw [ht]
  have emb : ∀ d o, Same s { s with lv := lv, cl := cl, most := m } ((s.tell s.top.1 c).embed d o) ((({ s with lv := lv, cl := cl, most := m } : St).tell s.top.1 c).embed d o) := fun d o =>
    ⟨(embed_core (s.tell s.top.1 c) (lv ++ [s.top.1]) (cl ++ [c]) m d o).symm, s.top.1, c, (lv_embed _ _ _).1, (lv_embed _ _ _).1, (lv_embed _ _ _).2.1, (lv_embed _ _ _).2.1⟩
  split
  · exact emb _ _
  split
  · exact emb _ _
  split
  · exact emb _ _
  split
  · exact emb _ _
  split
  · exact ⟨(back_core (s.tell s.top.1 c) (lv ++ [s.top.1]) (cl ++ [c]) m).symm, s.top.1, c, (lv_back _).1, (lv_back _).1, (lv_back _).2.1, (lv_back _).2.1⟩
  split
  · exact ⟨rfl, s.top.1, c, rfl, rfl, rfl, rfl⟩
  split
  · exact ⟨(iso_core (s.place c) (lv ++ [s.top.1]) (cl ++ [if s.top.2.1 ≠ -1 then s.top.2.1 else c]) m iso).symm, _, _, (lv_iso _ _).1, (lv_iso _ _).1, (lv_iso _ _).2.1, (lv_iso _ _).2.1⟩
  split
  · rw [fin_core s lv cl m]
    obtain ⟨k1, k2, _⟩ := lv_fin s
    refine ⟨rfl, s.fin.top.1, if s.fin.top.2.1 ≠ -1 then s.fin.top.2.1 else c, ?_, rfl, ?_, rfl⟩
    · show s.fin.lv ++ [_] = _; rw [k1]
    · show s.fin.cl ++ [_] = _; rw [k2]
  split
  · exact ⟨rfl, s.base, c, rfl, rfl, rfl, rfl⟩
  split
  · exact ⟨rfl, _, _, rfl, rfl, rfl, rfl⟩
  · exact ⟨rfl, _, _, rfl, rfl, rfl, rfl⟩

theorem stepC_same' {c iso : Int} {s t : St} (h : s.core = t.core) : Same s t (s.stepC c iso) (t.stepC c iso) := by
  have e : t = { s with lv := t.lv, cl := t.cl, most := t.most } := by
    cases s; cases t
    simp only [St.core, St.mk.injEq] at h ⊢
    simp [h]
  rw [e]
  exact stepC_same c iso s t.lv t.cl t.most

/-- From states that count alike on, one suffix tells the same. -/
theorem suffix_same (A A' S : List Int) (b : Int) (h : (runS (A ++ S) b A.length).core = (runS (A' ++ S) b A'.length).core) : ∀ n, n ≤ S.length →
    (runS (A ++ S) b (A.length + n)).core = (runS (A' ++ S) b (A'.length + n)).core ∧
    ∃ x y, (runS (A ++ S) b (A.length + n)).lv = (runS (A ++ S) b A.length).lv ++ x ∧ (runS (A' ++ S) b (A'.length + n)).lv = (runS (A' ++ S) b A'.length).lv ++ x ∧
      (runS (A ++ S) b (A.length + n)).cl = (runS (A ++ S) b A.length).cl ++ y ∧ (runS (A' ++ S) b (A'.length + n)).cl = (runS (A' ++ S) b A'.length).cl ++ y
  | 0, _ => ⟨h, [], [], by simp, by simp, by simp, by simp⟩
  | n + 1, hn => by
    obtain ⟨h1, x, y, g1, g2, g3, g4⟩ := suffix_same A A' S b h n (by omega)
    rw [show A.length + (n + 1) = A.length + n + 1 by omega, show A'.length + (n + 1) = A'.length + n + 1 by omega, runS_succ, runS_succ, step_eq, step_eq, getD_app2, getD_app2, isoS_app A S n (by omega), isoS_app A' S n (by omega)]
    obtain ⟨k1, p, q, k2, k3, k4, k5⟩ := stepC_same' (c := S.getD n 0) (iso := isoS S n) h1
    exact ⟨k1, x ++ [p], y ++ [q], by rw [k2, g1, List.append_assoc], by rw [k3, g2, List.append_assoc], by rw [k4, g3, List.append_assoc], by rw [k5, g4, List.append_assoc]⟩
end Go.Sx
