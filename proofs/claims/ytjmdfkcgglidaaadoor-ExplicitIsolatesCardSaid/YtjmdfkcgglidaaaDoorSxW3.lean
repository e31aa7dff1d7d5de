import Derived.Test.YtjmdfkcgglidaaaDoorSxW2
set_option linter.unusedVariables false
set_option linter.unusedSimpArgs false
namespace Go.Sx

theorem SInv.mono {k m k' m' : Nat} {s : St} (h : SInv k m s) (hk : k ≤ k') (hm : m ≤ m') : SInv k' m' s :=
  { h with len := by have := h.len; omega, li1 := by have := h.li1; omega, le1 := by have := h.le1; omega, lv := by have := h.lv; omega, cl := by have := h.cl; omega, m1 := by have := h.m1; omega }

theorem SInv.tell {k m : Nat} {s : St} (h : SInv k m s) (a b : Int) : SInv k (m + 1) (s.tell a b) :=
  { h with lv := by have := h.lv; simp [St.tell]; omega, cl := by have := h.cl; simp [St.tell]; omega }

theorem SInv.place {k m : Nat} {s : St} (h : SInv k m s) (c : Int) : SInv k (m + 1) (s.place c) := h.tell _ _

theorem SInv.push {k m : Nat} {s : St} (h : SInv k m s) {e : Ent} (h1 : 0 ≤ e.1 ∧ e.1 ≤ 125) (h2 : e.2.1 = -1 ∨ e.2.1 = 0 ∨ e.2.1 = 1) (v : Int) (hv : v = isos (e :: s.st)) : SInv (k + 1) m { s.push e with v := v } where
  lev := fun x hx => by
    rcases List.mem_cons.1 hx with hx | hx
    · subst hx; exact h1
    · exact h.lev x hx
  ov := fun x hx => by
    rcases List.mem_cons.1 hx with hx | hx
    · subst hx; exact h2
    · exact h.ov x hx
  len := by have := h.len; simp [St.push]; omega
  li0 := h.li0
  li1 := by have := h.li1; simp [St.push]; omega
  le0 := h.le0
  le1 := by have := h.le1; simp [St.push]; omega
  vn := hv
  lv := h.lv
  cl := h.cl
  base := h.base
  bot := by
    obtain ⟨r, hr⟩ := h.bot
    exact ⟨e :: r, by simp [St.push, hr]⟩
  m0 := by have := h.m0; simp [St.push]; omega
  m1 := by have := h.m1; have := h.len; simp [St.push]; omega

theorem SInv.embed {k m : Nat} {s : St} (h : SInv k m s) (dir : Int) {over : Int} (ho : over = -1 ∨ over = 0 ∨ over = 1) : SInv (k + 1) m (s.embed dir over) := by
  have ht := h.lev _ (top_mem h)
  have hn := nextS_bounds (dir := dir) ht.1
  unfold St.embed
  split
  · rename_i hf
    have := h.push (e := (nextS s.top.1 dir, over, false)) ⟨by simp only; omega, hf.1⟩ ho s.v (by rw [h.vn]; simp [isos])
    exact this
  · split
    · have := h.mono (Nat.le_succ k) (Nat.le_refl m)
      exact { this with le0 := by have := h.le0; simp only; omega, le1 := by have := h.le1; simp only; omega }
    · exact h.mono (Nat.le_succ k) (Nat.le_refl m)

theorem SInv.iso {k m : Nat} {s : St} (h : SInv k m s) (dir : Int) : SInv (k + 1) m (s.iso dir) := by
  have ht := h.lev _ (top_mem h)
  have hn := nextS_bounds (dir := dir) ht.1
  unfold St.iso
  split
  · rename_i hf
    exact h.push (e := (nextS s.top.1 dir, -1, true)) ⟨by simp only; omega, hf.1⟩ (.inl rfl) (s.v + 1) (by rw [h.vn]; simp [isos]; omega)
  · have := h.mono (Nat.le_succ k) (Nat.le_refl m)
    exact { this with li0 := by have := h.li0; simp only; omega, li1 := by have := h.li1; simp only; omega }

theorem popIso_spec {b : Ent} (hb : b.2.2 = false) : ∀ (r : List Ent), 0 < isos (r ++ [b]) → ∃ r', popIso (r ++ [b]) = r' ++ [b] ∧ isos (r' ++ [b]) + 1 = isos (r ++ [b]) ∧ (∀ e ∈ r' ++ [b], e ∈ r ++ [b]) ∧ (r' ++ [b]).length ≤ (r ++ [b]).length
  | [], h => by simp [isos, hb] at h
  | e :: r, h => by
    simp only [List.cons_append]
    unfold popIso
    cases he : e.2.2 with
    | true =>
      have hi : isos (e :: (r ++ [b])) = 1 + isos (r ++ [b]) := by show (if e.2.2 = true then 1 else 0) + isos (r ++ [b]) = _; rw [if_pos he]
      exact ⟨r, rfl, by omega, fun x hx => List.mem_cons_of_mem _ hx, by simp⟩
    | false =>
      have hi : isos (e :: (r ++ [b])) = isos (r ++ [b]) := by show (if e.2.2 = true then 1 else 0) + isos (r ++ [b]) = _; rw [he]; simp
      simp only [List.cons_append] at h
      rw [hi] at h
      obtain ⟨r', h1, h2, h3, h4⟩ := popIso_spec hb r h
      refine ⟨r', ?_, by rw [hi]; exact h2, fun x hx => List.mem_cons_of_mem _ (h3 x hx), by simp at h4 ⊢; omega⟩
      rw [if_neg (by simp)]
      exact h1

theorem SInv.fin {k m : Nat} {s : St} (h : SInv k m s) : SInv k m s.fin := by
  unfold St.fin
  split
  · exact { h with li0 := by simp only; omega, li1 := by have := h.li1; simp only; omega }
  · split
    · rename_i hv
      obtain ⟨r, hr⟩ := h.bot
      have hvn := h.vn
      rw [hr] at hvn
      obtain ⟨r', h1, h2, h3, h4⟩ := popIso_spec (b := (s.base, -1, false)) rfl r (by omega)
      have hl := h.len
      rw [hr] at hl
      exact { h with
        lev := fun e he => h.lev e (by rw [hr]; simp only [hr, h1] at he; exact h3 e he)
        ov := fun e he => h.ov e (by rw [hr]; simp only [hr, h1] at he; exact h3 e he)
        len := by simp only [hr, h1]; omega
        le0 := Int.le_refl 0
        le1 := by simp only; omega
        vn := by simp only [hr, h1]; omega
        bot := ⟨r', by simp only [hr, h1]⟩ }
    · exact h

theorem SInv.back {k m : Nat} {s : St} (h : SInv k m s) : SInv k m s.back := by
  unfold St.back
  split
  · exact h
  · split
    · exact { h with le0 := by simp only; omega, le1 := by have := h.le1; simp only; omega }
    · split
      · rename_i hc
        obtain ⟨r, hr⟩ := h.bot
        cases r with
        | nil => rw [hr] at hc; simp at hc
        | cons e r =>
          have hl := h.len
          have hvn := h.vn
          have hst : s.st.tail = r ++ [(s.base, -1, false)] := by rw [hr]; rfl
          have htop : e.2.2 = false := by have := hc.2; unfold St.top at this; rw [hr] at this; exact this
          exact { h with
            lev := fun x hx => h.lev x (by simp only [hst] at hx; rw [hr]; exact List.mem_cons_of_mem _ hx)
            ov := fun x hx => h.ov x (by simp only [hst] at hx; rw [hr]; exact List.mem_cons_of_mem _ hx)
            len := by simp only [List.length_tail]; omega
            vn := by
              have hi : isos (e :: (r ++ [(s.base, -1, false)])) = isos (r ++ [(s.base, -1, false)]) := by show (if e.2.2 = true then 1 else 0) + isos _ = _; rw [htop]; simp
              simp only [hst]; rw [hvn, hr, List.cons_append, hi]
            bot := ⟨r, hst⟩ }
      · exact h

theorem SInv.reset {k m : Nat} {s : St} (h : SInv k m s) : SInv k m s.reset where
  lev := fun e he => by
    simp only [St.reset, List.mem_singleton] at he
    subst he
    have := h.base
    simp only
    omega
  ov := fun e he => by
    simp only [St.reset, List.mem_singleton] at he
    subst he
    exact .inl rfl
  len := by simp [St.reset]
  li0 := Int.le_refl 0
  li1 := by simp [St.reset]
  le0 := Int.le_refl 0
  le1 := by simp [St.reset]
  vn := by simp [St.reset, isos]
  lv := h.lv
  cl := h.cl
  base := h.base
  bot := ⟨[], rfl⟩
  m0 := by have := h.m0; simp [St.reset]; omega
  m1 := by have := h.m1; simp [St.reset]; omega

/-- A place. -/
def St.step (l : List Int) (s : St) (i : Nat) : St :=
  let c := l.getD i 0
  if c = 14 then (s.tell s.top.1 c).embed 0 (-1)
  else if c = 16 then (s.tell s.top.1 c).embed 1 (-1)
  else if c = 15 then (s.tell s.top.1 c).embed 0 0
  else if c = 17 then (s.tell s.top.1 c).embed 1 1
  else if c = 18 then (s.tell s.top.1 c).back
  else if c = 9 then s.tell s.top.1 c
  else if opens c = true then (s.place c).iso (isoS l i)
  else if c = 22 then s.fin.place c
  else if c = 10 then s.reset.tell s.base c
  else if c < 0 ∨ 23 ≤ c then s.place 0
  else s.place c

theorem SInv.step {k : Nat} {s : St} (h : SInv k k s) (l : List Int) (i : Nat) : SInv (k + 1) (k + 1) (s.step l i) := by
  unfold St.step
  simp only []
  split
  · exact (h.tell _ _).embed 0 (.inl rfl)
  · split
    · exact (h.tell _ _).embed 1 (.inl rfl)
    · split
      · exact (h.tell _ _).embed 0 (.inr (.inl rfl))
      · split
        · exact (h.tell _ _).embed 1 (.inr (.inr rfl))
        · split
          · exact (h.tell _ _).back.mono (Nat.le_succ k) (Nat.le_refl _)
          · split
            · exact (h.tell _ _).mono (Nat.le_succ k) (Nat.le_refl _)
            · split
              · exact (h.place _).iso _
              · split
                · exact (h.fin.place _).mono (Nat.le_succ k) (Nat.le_refl _)
                · split
                  · exact (h.reset.tell _ _).mono (Nat.le_succ k) (Nat.le_refl _)
                  · split
                    · exact (h.place _).mono (Nat.le_succ k) (Nat.le_refl _)
                    · exact (h.place _).mono (Nat.le_succ k) (Nat.le_refl _)

theorem f49_eq (c : Int) : ∃ b, G.f49F c = some b ∧ (b.toList == (⟨#[]⟩ : ByteArray).toList) = decide (c < 0 ∨ 23 ≤ c) := by
  unfold G.f49F
  by_cases h0 : c < 0
  · simp [h0, toList_data]
  · by_cases h1 : 23 ≤ c
    · simp [h0, h1, toList_data]
    · have key : ∀ n : Nat, n < 23 → ((G.words.getD n ByteArray.empty).data.toList == []) = false := by decide +kernel
      obtain ⟨n, rfl⟩ := Int.eq_ofNat_of_zero_le (Int.not_lt.1 h0)
      have hn : n < 23 := by omega
      refine ⟨G.words.getD n ByteArray.empty, ?_, ?_⟩
      · have e : ((n : Int) < 0) = False := by simp
        have e2 : ((n : Int) < 23) = True := by simp; omega
        simp [e, e2]
        omega
      · rw [toList_data, toList_data, key n hn]
        symm
        rw [decide_eq_false_iff_not]
        omega
end Go.Sx
