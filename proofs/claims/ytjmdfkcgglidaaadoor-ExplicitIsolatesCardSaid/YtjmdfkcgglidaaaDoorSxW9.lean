import Derived.Test.YtjmdfkcgglidaaaDoorSxW8
set_option linter.unusedVariables false
set_option linter.unusedSimpArgs false
namespace Go.Sx

/-- What is left out. -/
def outS (c : Int) : Bool := c == 9 || c == 14 || c == 15 || c == 16 || c == 17 || c == 18

theorem f30_eq (c : Int) : G.f30F c = some (outS c) := by
  unfold G.f30F outS
  by_cases h1 : c = 9
  · subst h1; rfl
  by_cases h2 : c = 14
  · subst h2; rfl
  by_cases h3 : c = 15
  · subst h3; rfl
  by_cases h4 : c = 16
  · subst h4; rfl
  by_cases h5 : c = 17
  · subst h5; rfl
  have f (n : Int) (hn : c ≠ n) : (c == n) = false := by simpa using hn
  simp only [f 9 h1, f 14 h2, f 15 h3, f 16 h4, f 17 h5, Bool.false_eq_true, if_false, Bool.false_or]

/-- The stack rises. -/
structure BInv (s : St) : Prop where
  pw : s.st.Pairwise fun a b => b.1 < a.1
  low : ∀ e ∈ s.st, s.base ≤ e.1
  m0 : 1 ≤ s.most
  m1 : s.most ≤ 126

theorem pw_len : ∀ (st : List Ent) (n : Nat), st.Pairwise (fun a b => b.1 < a.1) → (∀ e ∈ st, 0 ≤ e.1 ∧ e.1 < n) → st.length ≤ n
  | [], n, _, _ => Nat.zero_le _
  | e :: r, 0, _, h => by have := h e (by simp); omega
  | e :: r, n + 1, hp, h => by
    rw [List.pairwise_cons] at hp
    have := pw_len r n hp.2 fun x hx => by
      have h1 := hp.1 x hx
      have h2 := h e (by simp)
      have h3 := h x (by simp [hx])
      omega
    simp; omega

theorem BInv.push {k m : Nat} {s : St} (h : SInv k m s) (b : BInv s) {e : Ent} (h1 : ∀ x ∈ s.st, x.1 < e.1) (h2 : e.1 ≤ 125) (v : Int) : BInv { s.push e with v := v } where
  pw := List.pairwise_cons.2 ⟨h1, b.pw⟩
  low := fun x hx => by
    rcases List.mem_cons.1 hx with hx | hx
    · subst hx
      have := h1 _ (top_mem h)
      have := b.low _ (top_mem h)
      show s.base ≤ x.1
      omega
    · exact b.low x hx
  m0 := by have := b.m0; simp [St.push]; omega
  m1 := by
    have := b.m1
    have hl := pw_len (e :: s.st) 126 (List.pairwise_cons.2 ⟨h1, b.pw⟩) (fun x hx => by
      rcases List.mem_cons.1 hx with hx | hx
      · subst hx
        have := h1 _ (top_mem h)
        have := (h.lev _ (top_mem h)).1
        omega
      · have := h.lev x hx; omega)
    simp at hl
    simp [St.push]
    omega

theorem top_max {k m : Nat} {s : St} (h : SInv k m s) (b : BInv s) : ∀ x ∈ s.st, x.1 ≤ s.top.1 := by
  intro x hx
  obtain ⟨e, r, hs⟩ := h.ne
  have hp := b.pw
  rw [hs] at hx hp
  have ht : s.top = e := by unfold St.top; rw [hs]; rfl
  rw [ht]
  rw [List.pairwise_cons] at hp
  rcases List.mem_cons.1 hx with hx | hx
  · subst hx; exact Int.le_refl _
  · exact Int.le_of_lt (hp.1 x hx)

theorem BInv.embed {k m : Nat} {s : St} (h : SInv k m s) (b : BInv s) (dir over : Int) : BInv (s.embed dir over) := by
  have hn := nextS_bounds (dir := dir) (h.lev _ (top_mem h)).1
  unfold St.embed
  split
  · rename_i hf
    have := b.push h (e := (nextS s.top.1 dir, over, false)) (fun x hx => by have := top_max h b x hx; simp only; omega) hf.1 s.v
    exact this
  · split
    · exact ⟨b.pw, b.low, b.m0, b.m1⟩
    · exact b

theorem BInv.iso {k m : Nat} {s : St} (h : SInv k m s) (b : BInv s) (dir : Int) : BInv (s.iso dir) := by
  have hn := nextS_bounds (dir := dir) (h.lev _ (top_mem h)).1
  unfold St.iso
  split
  · rename_i hf
    exact b.push h (e := (nextS s.top.1 dir, -1, true)) (fun x hx => by have := top_max h b x hx; simp only; omega) hf.1 _
  · exact ⟨b.pw, b.low, b.m0, b.m1⟩

theorem popIso_sub : ∀ (st : List Ent), (popIso st).Sublist st
  | [] => List.Sublist.slnil
  | e :: r => by
    unfold popIso
    split
    · exact List.sublist_cons_self e r
    · exact (popIso_sub r).cons e

theorem BInv.fin {s : St} (b : BInv s) : BInv s.fin := by
  unfold St.fin
  split
  · exact ⟨b.pw, b.low, b.m0, b.m1⟩
  · split
    · exact ⟨b.pw.sublist (popIso_sub _), fun e he => b.low e ((popIso_sub _).subset he), b.m0, b.m1⟩
    · exact b

theorem BInv.back {s : St} (b : BInv s) : BInv s.back := by
  unfold St.back
  split
  · exact b
  · split
    · exact ⟨b.pw, b.low, b.m0, b.m1⟩
    · split
      · exact ⟨b.pw.sublist (List.tail_sublist _), fun e he => b.low e (List.mem_of_mem_tail he), b.m0, b.m1⟩
      · exact b

theorem BInv.reset {s : St} (b : BInv s) : BInv s.reset where
  pw := by simp [St.reset]
  low := fun e he => by simp [St.reset] at he; subst he; exact Int.le_refl _
  m0 := by have := b.m0; simp [St.reset]; omega
  m1 := by have := b.m1; simp [St.reset]; omega

theorem BInv.tell {s : St} (b : BInv s) (x y : Int) : BInv (s.tell x y) := ⟨b.pw, b.low, b.m0, b.m1⟩
theorem BInv.place {s : St} (b : BInv s) (c : Int) : BInv (s.place c) := b.tell _ _

/-- What a step tells. -/
structure Told (s s' : St) (c : Int) : Prop where
  told : ∃ a b, s'.lv = s.lv ++ [a] ∧ s'.cl = s.cl ++ [b] ∧ s.base ≤ a ∧ a ≤ 125 ∧ outS b = outS c ∧ (c = 10 → a = s.base)
  base : s'.base = s.base

theorem lv_embed (s : St) (d o : Int) : (s.embed d o).lv = s.lv ∧ (s.embed d o).cl = s.cl ∧ (s.embed d o).base = s.base := by
  unfold St.embed
  split
  · exact ⟨rfl, rfl, rfl⟩
  · split <;> exact ⟨rfl, rfl, rfl⟩
theorem lv_iso (s : St) (d : Int) : (s.iso d).lv = s.lv ∧ (s.iso d).cl = s.cl ∧ (s.iso d).base = s.base := by
  unfold St.iso
  split <;> exact ⟨rfl, rfl, rfl⟩
theorem lv_back (s : St) : s.back.lv = s.lv ∧ s.back.cl = s.cl ∧ s.back.base = s.base := by
  unfold St.back
  split
  · exact ⟨rfl, rfl, rfl⟩
  · split
    · exact ⟨rfl, rfl, rfl⟩
    · split <;> exact ⟨rfl, rfl, rfl⟩
theorem lv_fin (s : St) : s.fin.lv = s.lv ∧ s.fin.cl = s.cl ∧ s.fin.base = s.base := by
  unfold St.fin
  split
  · exact ⟨rfl, rfl, rfl⟩
  · split <;> exact ⟨rfl, rfl, rfl⟩

theorem Told.tell {k m : Nat} {s : St} (h : SInv k m s) (b : BInv s) (c : Int) (h10 : c ≠ 10) : Told s (s.tell s.top.1 c) c :=
  ⟨⟨_, _, rfl, rfl, b.low _ (top_mem h), (h.lev _ (top_mem h)).2, rfl, fun e => absurd e h10⟩, rfl⟩

theorem Told.place {k m : Nat} {s : St} (h : SInv k m s) (b : BInv s) (c c' : Int) (ho : outS c = false) (ho' : outS c' = false) (h10 : c ≠ 10) : Told s (s.place c') c := by
  refine ⟨⟨_, _, rfl, rfl, b.low _ (top_mem h), (h.lev _ (top_mem h)).2, ?_, fun e => absurd e h10⟩, rfl⟩
  rw [ho]
  split
  · rcases h.ov _ (top_mem h) with e | e | e
    · rename_i hne; exact absurd e hne
    · rw [e]; rfl
    · rw [e]; rfl
  · exact ho'

theorem Told.of {s s1 s' : St} {c : Int} (h : Told s s1 c) (h1 : s'.lv = s1.lv) (h2 : s'.cl = s1.cl) (h3 : s'.base = s1.base) : Told s s' c := by
  obtain ⟨⟨a, b, g1, g2, g3⟩, g4⟩ := h
  exact ⟨⟨a, b, h1.trans g1, h2.trans g2, g3⟩, h3.trans g4⟩

theorem step_told {k : Nat} {s : St} (h : SInv k k s) (b : BInv s) (l : List Int) (i : Nat) : Told s (s.step l i) (l.getD i 0) ∧ BInv (s.step l i) := by
  unfold St.step
  simp only []
  generalize l.getD i 0 = c
  have emb : ∀ d o, c ≠ 10 → Told s ((s.tell s.top.1 c).embed d o) c ∧ BInv ((s.tell s.top.1 c).embed d o) := fun d o h10 =>
    ⟨(Told.tell h b c h10).of (lv_embed _ _ _).1 (lv_embed _ _ _).2.1 (lv_embed _ _ _).2.2, (b.tell _ _).embed (h.tell _ _) d o⟩
  by_cases c14 : c = 14
  · rw [if_pos c14]; exact emb 0 (-1) (by omega)
  rw [if_neg c14]
  by_cases c16 : c = 16
  · rw [if_pos c16]; exact emb 1 (-1) (by omega)
  rw [if_neg c16]
  by_cases c15 : c = 15
  · rw [if_pos c15]; exact emb 0 0 (by omega)
  rw [if_neg c15]
  by_cases c17 : c = 17
  · rw [if_pos c17]; exact emb 1 1 (by omega)
  rw [if_neg c17]
  by_cases c18 : c = 18
  · rw [if_pos c18]; exact ⟨(Told.tell h b c (by omega)).of (lv_back _).1 (lv_back _).2.1 (lv_back _).2.2, (b.tell _ _).back⟩
  rw [if_neg c18]
  by_cases c9 : c = 9
  · rw [if_pos c9]; exact ⟨Told.tell h b c (by omega), b.tell _ _⟩
  rw [if_neg c9]
  have f (n : Int) (hn : c ≠ n) : (c == n) = false := by simpa using hn
  have ho : outS c = false := by unfold outS; rw [f 9 c9, f 14 c14, f 15 c15, f 16 c16, f 17 c17, f 18 c18]; rfl
  by_cases hop : opens c = true
  · rw [if_pos hop]
    have h10 : c ≠ 10 := by intro e; subst e; simp [opens] at hop
    exact ⟨(Told.place h b c c ho ho h10).of (lv_iso _ _).1 (lv_iso _ _).2.1 (lv_iso _ _).2.2, (b.place _).iso (h.place _) _⟩
  rw [if_neg hop]
  by_cases c22 : c = 22
  · rw [if_pos c22]
    have := Told.place h.fin b.fin c c ho ho (by omega)
    obtain ⟨⟨x, y, g1, g2, g3, g4⟩, g5⟩ := this
    obtain ⟨k1, k2, k3⟩ := lv_fin s
    rw [k1] at g1; rw [k2] at g2; rw [k3] at g3 g4 g5
    exact ⟨⟨⟨x, y, g1, g2, g3, g4⟩, g5⟩, b.fin.place _⟩
  rw [if_neg c22]
  by_cases c10 : c = 10
  · rw [if_pos c10]
    refine ⟨⟨⟨s.base, c, rfl, rfl, Int.le_refl _, ?_, rfl, fun _ => rfl⟩, rfl⟩, b.reset.tell _ _⟩
    have := h.base
    omega
  rw [if_neg c10]
  split
  · exact ⟨Told.place h b c 0 ho rfl c10, b.place _⟩
  · exact ⟨Told.place h b c c ho ho c10, b.place _⟩

theorem getD_app {l : List Int} {a : Int} {i n : Nat} (hl : l.length = n) : (l ++ [a]).getD i 0 = if i = n then a else l.getD i 0 := by
  simp only [List.getD_eq_getElem?_getD]
  by_cases h : i = n
  · rw [if_pos h, List.getElem?_append_right (by omega), h, hl]
    simp
  · rw [if_neg h]
    by_cases h1 : i < n
    · rw [List.getElem?_append_left (by omega)]
    · rw [List.getElem?_eq_none (by simp; omega), List.getElem?_eq_none (by omega)]

theorem runS_told {b : Int} (hb : b = 0 ∨ b = 1) (l : List Int) : ∀ n, BInv (runS l b n) ∧ (runS l b n).base = b ∧ (runS l b n).lv.length = n ∧ (runS l b n).cl.length = n ∧
    ∀ i, i < n → b ≤ (runS l b n).lv.getD i 0 ∧ (runS l b n).lv.getD i 0 ≤ 125 ∧ outS ((runS l b n).cl.getD i 0) = outS (l.getD i 0) ∧ (l.getD i 0 = 10 → (runS l b n).lv.getD i 0 = b)
  | 0 => ⟨⟨by simp [runS, St.init], fun e he => by simp [runS, St.init] at he; subst he; simp [runS, St.init], by simp [runS, St.init], by simp [runS, St.init]⟩, rfl, rfl, rfl, fun i hi => by omega⟩
  | n + 1 => by
    obtain ⟨h1, h2, h3, h4, h5⟩ := runS_told hb l n
    rw [runS_succ]
    obtain ⟨⟨⟨x, y, g1, g2, g3, g4, g5, g6⟩, g7⟩, g8⟩ := step_told (runS_inv hb l n) h1 l n
    rw [h2] at g3 g6 g7
    refine ⟨g8, g7, by rw [g1]; simp [h3], by rw [g2]; simp [h4], fun i hi => ?_⟩
    rw [g1, g2, getD_app h3, getD_app h4]
    by_cases hin : i = n
    · subst hin
      simp only [if_true]
      exact ⟨g3, g4, g5, g6⟩
    · simp only [hin, if_false]
      exact h5 i (by omega)

/-- Nothing that turns levels. -/
def plainK (c : Int) : Bool := !outS c && (!opens c && c != 22)

/-- Without what turns levels all stay. -/
theorem runS_plain {b : Int} (hb : b = 0 ∨ b = 1) (l : List Int) : ∀ n, (∀ i, i < n → plainK (l.getD i 0) = true) → (runS l b n).st = [(b, -1, false)] ∧ (runS l b n).base = b ∧
    ∀ i, i < n → (runS l b n).lv.getD i 0 = b ∧ (runS l b n).cl.getD i 0 = if l.getD i 0 < 0 ∨ 23 ≤ l.getD i 0 then 0 else l.getD i 0
  | 0, _ => ⟨rfl, rfl, fun i hi => by omega⟩
  | n + 1, h => by
    obtain ⟨h1, h2, h3⟩ := runS_plain hb l n fun i hi => h i (by omega)
    obtain ⟨_, _, k3, k4, _⟩ := runS_told hb l n
    rw [runS_succ]
    have hp := h n (by omega)
    have key : ∃ y, (runS l b n).step l n = { (runS l b n).tell b y with li := ((runS l b n).step l n).li, le := ((runS l b n).step l n).le, v := ((runS l b n).step l n).v, most := ((runS l b n).step l n).most } ∧ y = if l.getD n 0 < 0 ∨ 23 ≤ l.getD n 0 then 0 else l.getD n 0 := by
      unfold St.step
      simp only []
      generalize l.getD n 0 = c at *
      generalize runS l b n = s at *
      unfold plainK outS at hp
      simp only [Bool.and_eq_true, Bool.not_eq_true', Bool.or_eq_false_iff, beq_eq_false_iff_ne, bne_iff_ne] at hp
      obtain ⟨⟨⟨⟨⟨⟨p9, p14⟩, p15⟩, p16⟩, p17⟩, p18⟩, po, p22⟩ := hp
      have ht : s.top = (b, -1, false) := by unfold St.top; rw [h1]; rfl
      have hpl : ∀ c', s.place c' = s.tell b c' := fun c' => by unfold St.place; rw [ht]; rfl
      simp only [p9, p14, p15, p16, p17, p18, p22, po, Bool.false_eq_true, if_false]
      by_cases c10 : c = 10
      · simp only [c10, if_true]
        refine ⟨10, ?_, by rfl⟩
        simp only [St.tell, St.reset, h1, h2]
      · simp only [c10, if_false]
        by_cases hw : c < 0 ∨ 23 ≤ c
        · simp only [hw, if_true, hpl]
          exact ⟨0, rfl, rfl⟩
        · simp only [hw, if_false, hpl]
          exact ⟨c, rfl, rfl⟩
    obtain ⟨y, g1, g2⟩ := key
    generalize hs' : (runS l b n).step l n = s' at *
    have e1 : s'.st = (runS l b n).st := by rw [g1]; rfl
    have e2 : s'.base = (runS l b n).base := by rw [g1]; rfl
    have e3 : s'.lv = (runS l b n).lv ++ [b] := by rw [g1]; rfl
    have e4 : s'.cl = (runS l b n).cl ++ [y] := by rw [g1]; rfl
    refine ⟨e1.trans h1, e2.trans h2, fun i hi => ?_⟩
    rw [e3, e4, getD_app k3, getD_app k4]
    by_cases hin : i = n
    · subst hin
      simp only [if_true]
      exact ⟨trivial, g2⟩
    · simp only [hin, if_false]
      exact h3 i (by omega)
end Go.Sx
