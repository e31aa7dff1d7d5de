import Derived.Test.YtjmdfkcgglidaaaDoorSxW7
set_option linter.unusedVariables false
set_option linter.unusedSimpArgs false
namespace Go.Sx

theorem f44_eq {k m : Nat} {s : St} (h : SInv k m s) (hk : k ≤ 99000) (hm : m ≤ 99000) {l : List Int} (hl : l.length ≤ 100000) (i c : Int) : G.f44F (i, c, rt l s) = some (rt l ((s.place c).iso (isoS l i))) := by
  have hp := h.place c
  have ht := hp.lev _ (top_mem hp)
  have hlen := hp.len
  have hv := isos_le (s.place c).st
  have hvn := hp.vn
  have hli := hp.li1
  have hli0 := hp.li0
  have e48 := f48_eq h (by omega) (by omega) c l
  have e57 := fun e => f57_eq e l { s.place c with v := (s.place c).v + 1 } (by simp only; omega)
  have e58 := fun n st x y z a b d => f58_eq (s.place c) st x y z a b d n
  simp only [rt] at e48 e57
  unfold G.f44F
  simp only [rt, e48, Option.bind_some, f47_top hp (by omega), f21_eq hl, f29_eq _ _ ht.1 ht.2, e58]
  unfold St.iso
  by_cases hf : (s.place c).fits (nextS (s.place c).top.1 (isoS l i))
  · rw [if_pos hf, if_pos (by rw [decide_eq_true_eq]; exact hf), wrap_i64 (by omega) (by omega)]
    simp only [e57, Option.bind_some]
    rfl
  · rw [if_neg hf, if_neg (by rw [decide_eq_true_eq]; exact hf), wrap_i64 (by omega) (by omega)]

def popTo : List Ent → List Ent
  | [] => []
  | e :: r => if e.2.2 = true then e :: r else popTo r

theorem popTo_spec : ∀ (st : List Ent), 0 < isos st → ∃ e r, popTo st = e :: r ∧ popIso st = r ∧ r.length ≤ st.length
  | [], h => by simp [isos] at h
  | e :: r, h => by
    unfold popTo popIso
    cases he : e.2.2 with
    | true => exact ⟨e, r, by simp, by simp, by simp⟩
    | false =>
      have hi : isos (e :: r) = isos r := by show (if e.2.2 = true then 1 else 0) + isos r = _; rw [he]; simp
      rw [hi] at h
      obtain ⟨e', r', h1, h2, h3⟩ := popTo_spec r h
      exact ⟨e', r', by simpa using h1, by simpa using h2, by simp; omega⟩

theorem f47_cons (e : Ent) (r : List Ent) (h : r.length ≤ 1000000) (a b c d f : Int) (x y z : List Int) : G.f47F (a, (e :: r).reverse, b, c, d, f, x, y, z) = some e := by
  unfold G.f47F
  simp only [last_rev e r h]
  rw [if_pos (by simp; omega), Int.toNat_natCast, getD_rev]

theorem popTo_loop (l : List Int) : ∀ (st : List Ent) (a b c d f : Int) (lv cl : List Int), 0 < isos st → st.length ≤ 1000000 →
    iter (fun (s1 : Int × Int × Int × Int × Int × List Int × List Ent × List Int × List Int) =>
      Option.bind (G.f47F (s1.1, s1.snd.snd.snd.snd.snd.snd.1, s1.snd.1, s1.snd.snd.1, s1.snd.snd.snd.1, s1.snd.snd.snd.snd.1, s1.snd.snd.snd.snd.snd.snd.snd.1, s1.snd.snd.snd.snd.snd.snd.snd.2, s1.snd.snd.snd.snd.snd.1))
        fun (v2 : Ent) =>
        if (!v2.snd.snd) = true then
          Option.bind (G.f59F (s1.1, s1.snd.1, s1.snd.snd.1, s1.snd.snd.snd.1, s1.snd.snd.snd.snd.1, s1.snd.snd.snd.snd.snd.1, s1.snd.snd.snd.snd.snd.snd.1, s1.snd.snd.snd.snd.snd.snd.snd.1, s1.snd.snd.snd.snd.snd.snd.snd.2))
            fun (v3 : Int × Int × Int × Int × Int × List Int × List Ent × List Int × List Int) =>
            some (Sum.inl (v3.1, v3.snd.1, v3.snd.snd.1, v3.snd.snd.snd.1, v3.snd.snd.snd.snd.1, v3.snd.snd.snd.snd.snd.1, v3.snd.snd.snd.snd.snd.snd.1, v3.snd.snd.snd.snd.snd.snd.snd.1, v3.snd.snd.snd.snd.snd.snd.snd.2))
        else
          some (Sum.inr (s1.1, s1.snd.1, s1.snd.snd.1, s1.snd.snd.snd.1, s1.snd.snd.snd.snd.1, s1.snd.snd.snd.snd.snd.1, s1.snd.snd.snd.snd.snd.snd.1, s1.snd.snd.snd.snd.snd.snd.snd.1, s1.snd.snd.snd.snd.snd.snd.snd.2)))
      (a, b, c, d, f, l, st.reverse, lv, cl) = some (a, b, c, d, f, l, (popTo st).reverse, lv, cl)
  | [], a, b, c, d, f, lv, cl, h, _ => by simp [isos] at h
  | e :: r, a, b, c, d, f, lv, cl, h, hl => by
    have h47 := f47_cons e r (by simp at hl; omega)
    have h59 := f59_eq e r l ⟨a, b, c, d, f, e :: r, lv, cl⟩ rfl (by simp at hl; omega)
    simp only [rt] at h59
    cases he : e.2.2 with
    | true =>
      rw [iter_inr (e := (a, b, c, d, f, l, (e :: r).reverse, lv, cl)) (by simp only [h47, Option.bind_some, he]; rfl)]
      unfold popTo
      rw [if_pos he]
    | false =>
      rw [iter_inl (s' := (a, b, c, d, f, l, r.reverse, lv, cl)) (by simp only [h47, Option.bind_some, he, Bool.not_false, if_true, h59])]
      rw [popTo_loop l r a b c d f lv cl (by unfold isos at h; rw [he] at h; simpa using h) (by simp at hl; omega)]
      conv => rhs; unfold popTo
      rw [if_neg (by rw [he]; simp)]

theorem f45_eq {k m : Nat} {s : St} (h : SInv k m s) (hk : k ≤ 99000) (hm : m ≤ 99000) (c : Int) (l : List Int) : G.f45F (c, rt l s) = some (rt l (s.fin.place c)) := by
  have hlen := h.len
  have hvn := h.vn
  have hv := isos_le s.st
  have e48 := f48_eq h.fin (by omega) (by omega) c l
  unfold G.f45F
  simp only [rt] at e48 ⊢
  by_cases h1 : s.li > 0
  · rw [if_pos (by rw [decide_eq_true_eq]; exact h1), wrap_i64 (by omega) (by have := h.li1; omega)]
    have hf : s.fin = { s with li := s.li - 1 } := by unfold St.fin; rw [if_pos h1]
    rw [hf] at e48 ⊢
    simp only [e48, Option.bind_some]
  · rw [if_neg (by rw [decide_eq_true_eq]; exact h1)]
    by_cases h2 : s.v > 0
    · rw [if_pos (by rw [decide_eq_true_eq]; exact h2), popTo_loop l s.st _ _ _ _ _ _ _ (by omega) (by omega)]
      obtain ⟨e, r, p1, p2, p3⟩ := popTo_spec s.st (by omega)
      have hf : s.fin = { s with le := 0, v := s.v - 1, st := r } := by unfold St.fin; rw [if_neg h1, if_pos h2, p2]
      rw [hf] at e48 ⊢
      have e59 := f59_eq e r l { s with le := 0, st := e :: r } rfl (by omega)
      simp only [rt] at e59
      simp only [p1, Option.bind_some, e59]
      rw [wrap_i64 (by omega) (by omega)]
      simp only [e48, Option.bind_some]
    · rw [if_neg (by rw [decide_eq_true_eq]; exact h2)]
      have hf : s.fin = s := by unfold St.fin; rw [if_neg h1, if_neg h2]
      rw [hf] at e48 ⊢
      simp only [e48, Option.bind_some]

theorem f46_eq {k m : Nat} {s : St} (h : SInv k m s) (hk : k ≤ 99000) (hm : m ≤ 99000) (l : List Int) : G.f46F (rt l s) = some (rt l (s.tell s.top.1 18).back) := by
  have hlen := h.len
  have h1 := h.lv
  have h2 := h.cl
  have hb : (s.tell s.top.1 18).back = if 0 < s.li then s.tell s.top.1 18 else if 0 < s.le then { s.tell s.top.1 18 with le := s.le - 1 } else if 1 < s.st.length ∧ s.top.2.2 = false then { s.tell s.top.1 18 with st := s.st.tail } else s.tell s.top.1 18 := rfl
  rw [hb]
  unfold G.f46F
  simp only [rt, f47_top h (show k ≤ 100000 by omega), Option.bind_some]
  rw [if_pos (by unfold roomOk; simp; omega), if_pos (by unfold roomOk; simp; omega)]
  by_cases c1 : s.li > 0
  · rw [if_pos (by rw [decide_eq_true_eq]; exact c1), if_pos c1]
    rfl
  · rw [if_neg (by rw [decide_eq_true_eq]; exact c1), if_neg c1]
    by_cases c2 : s.le > 0
    · rw [if_pos (by rw [decide_eq_true_eq]; exact c2), if_pos c2, wrap_i64 (by omega) (by have := h.le1; omega)]
      rfl
    · rw [if_neg (by rw [decide_eq_true_eq]; exact c2), if_neg c2]
      cases ho : s.top.2.2 with
      | true =>
        simp only [Bool.not_true, Bool.false_eq_true, if_false, Option.bind_some]
        rw [if_neg (by simp)]
        rfl
      | false =>
        simp only [Bool.not_false, if_true, Option.bind_some]
        by_cases c3 : 1 < s.st.length
        · rw [if_pos (by rw [decide_eq_true_eq, List.length_reverse]; omega), if_pos (by simp [c3])]
          obtain ⟨e, r, hs⟩ := h.ne
          have e59 := f59_eq e r l { s with lv := s.lv ++ [s.top.1], cl := s.cl ++ [18] } hs (by rw [hs] at hlen; simp at hlen; omega)
          simp only [rt] at e59
          simp only [e59, Option.bind_some, St.tell]
          rw [hs]
          rfl
        · rw [if_neg (by rw [decide_eq_true_eq, List.length_reverse]; omega), if_neg (fun hh => c3 hh.1)]
          rfl

theorem f36_eq {l : List Int} (hl : l.length ≤ 98000) (n : Int) : G.f36F (l, n) = some (rt l (runS l (baseOf n) l.length)) := by
  unfold G.f36F
  have e0 : (if (n != (0 : Int)) = true then some ((1 : Int), (0 : Int), (0 : Int), (0 : Int), (0 : Int), l, ([] : List Ent), ([] : List Int), ([] : List Int)) else some ((0 : Int), (0 : Int), (0 : Int), (0 : Int), (0 : Int), l, [], [], [])) = some (rt l ⟨baseOf n, 0, 0, 0, 0, [], [], []⟩) := by
    unfold baseOf
    by_cases h : n = 0
    · rw [if_neg (by simpa using h), if_pos h]; rfl
    · rw [if_pos (by simpa using h), if_neg h]; rfl
  simp only []
  rw [e0]
  have e42 := f42_eq l ⟨baseOf n, 0, 0, 0, 0, [], [], []⟩
  simp only [rt] at e42
  simp only [Option.bind_some, rt, e42]
  have hinit : (St.mk (baseOf n) 0 0 0 0 [] [] []).reset = runS l (baseOf n) 0 := rfl
  rw [hinit]
  suffices h : ∃ e, iter _ _ = some e ∧ e = rt l (runS l (baseOf n) l.length) by
    obtain ⟨e, h1, rfl⟩ := h
    rw [h1]
    rfl
  refine iter_rule (I := fun s => ∃ i : Nat, i ≤ l.length ∧ s = ((i : Int), rt l (runS l (baseOf n) i))) (fun s => (l.length - s.1).toNat) ?_ _ ⟨0, Nat.zero_le _, rfl⟩
  rintro _ ⟨i, hi, rfl⟩
  dsimp only
  by_cases h : i < l.length
  · have hb : (0 : Int) ≤ i ∧ (i : Int) < l.length := ⟨by omega, by omega⟩
    rw [if_pos (by rw [decide_eq_true_eq]; omega)]
    have hS := runS_inv (baseOf_or n) l i
    have hwr : IntKind.i64.wrap ((i : Int) + 1) = ((i + 1 : Nat) : Int) := by rw [wrap_i64 (by omega) (by omega)]; rfl
    simp only [if_pos hb, Int.toNat_natCast, hwr]
    refine .inl ⟨((i + 1 : Nat), rt l (runS l (baseOf n) (i + 1))), ?_, ⟨i + 1, h, rfl⟩, by simp only []; omega⟩
    rw [runS_succ]
    generalize runS l (baseOf n) i = s at *
    have h1 := hS.lv
    have h2 := hS.cl
    have e43 := fun c hc => f43_eq hS (by omega) (by omega) c hc l
    have e44 := fun c => f44_eq hS (show i ≤ 99000 by omega) (by omega) (show l.length ≤ 100000 by omega) i c
    have e45 := fun c => f45_eq hS (show i ≤ 99000 by omega) (by omega) c l
    have e46 := f46_eq hS (show i ≤ 99000 by omega) (by omega) l
    have e48 := fun c => f48_eq hS (by omega) (by omega) c l
    have e42' := f42_eq l s
    have e47 := f47_top hS (show i ≤ 100000 by omega)
    simp only [rt] at e43 e44 e45 e46 e48 e42'
    unfold St.step
    simp only [rt]
    generalize l.getD i 0 = c
    obtain ⟨b, hb1, hb2⟩ := f31_eq c
    by_cases c14 : c = 14
    · subst c14
      have e43' := e43 14 (.inl rfl)
      simp only [Int.reduceEq, reduceIte, or_self] at e43'
      simp only [Int.reduceBEq, Int.reduceEq, reduceIte, Option.bind_some, e43', Bool.false_eq_true]
    by_cases c16 : c = 16
    · subst c16
      have e43' := e43 16 (.inr (.inr (.inl rfl)))
      simp only [Int.reduceEq, reduceIte, or_false, true_or] at e43'
      simp only [Int.reduceBEq, Int.reduceEq, reduceIte, Option.bind_some, e43', Bool.false_eq_true]
    by_cases c15 : c = 15
    · subst c15
      have e43' := e43 15 (.inr (.inl rfl))
      simp only [Int.reduceEq, reduceIte, or_self] at e43'
      simp only [Int.reduceBEq, Int.reduceEq, reduceIte, Option.bind_some, e43', Bool.false_eq_true]
    by_cases c17 : c = 17
    · subst c17
      have e43' := e43 17 (.inr (.inr (.inr rfl)))
      simp only [Int.reduceEq, reduceIte, or_true, false_or] at e43'
      simp only [Int.reduceBEq, Int.reduceEq, reduceIte, Option.bind_some, e43', Bool.false_eq_true]
    have f (n : Int) (hn : c ≠ n) : (c == n) = false := by simpa using hn
    simp only [f 14 c14, f 16 c16, f 15 c15, f 17 c17, c14, c16, c15, c17, Bool.false_eq_true, if_false, Option.bind_some, f22_eq]
    cases ho : opens c with
    | true =>
      have c18 : c ≠ 18 := by intro e; subst e; simp [opens] at ho
      have c9 : c ≠ 9 := by intro e; subst e; simp [opens] at ho
      simp only [if_true, e44, Option.bind_some, c18, c9, if_false]
    | false =>
      simp only [Bool.false_eq_true, if_false]
      by_cases c22 : c = 22
      · subst c22
        simp only [Int.reduceBEq, Int.reduceEq, reduceIte, Option.bind_some, e45]
      by_cases c18 : c = 18
      · subst c18
        simp only [Int.reduceBEq, Int.reduceEq, reduceIte, Option.bind_some, e46, Bool.false_eq_true]
      by_cases c9 : c = 9
      · subst c9
        simp only [Int.reduceBEq, Int.reduceEq, reduceIte, Option.bind_some, e47, Bool.false_eq_true]
        rw [if_pos (by unfold roomOk; simp; omega), if_pos (by unfold roomOk; simp; omega)]
        rfl
      by_cases c10 : c = 10
      · subst c10
        simp only [Int.reduceBEq, Int.reduceEq, reduceIte, Option.bind_some, e42', Bool.false_eq_true]
        rw [if_pos (by unfold roomOk; simp [St.reset]; omega), if_pos (by unfold roomOk; simp [St.reset]; omega)]
        rfl
      simp only [f 22 c22, f 18 c18, f 9 c9, f 10 c10, c22, c18, c9, c10, Bool.false_eq_true, if_false, hb1, Option.bind_some, hb2]
      by_cases hw : c < 0 ∨ 23 ≤ c
      · simp only [hw, decide_true, if_true, e48, Option.bind_some]
      · simp only [hw, decide_false, Bool.false_eq_true, if_false, e48, Option.bind_some]
  · have : i = l.length := by omega
    subst this
    rw [if_neg (by rw [decide_eq_true_eq]; omega)]
    exact .inr ⟨_, rfl, rfl⟩

theorem f25_eq {l : List Int} (hl : l.length ≤ 98000) (n : Int) : G.f25F (l, n) = some ((runS l (baseOf n) l.length).lv, (runS l (baseOf n) l.length).cl) := by
  unfold G.f25F
  simp only [f36_eq hl, Option.bind_some]

theorem f27_eq {l : List Int} (hl : l.length ≤ 98000) (n : Int) : G.f27F (l, n) = some (runS l (baseOf n) l.length).most := by
  unfold G.f27F
  simp only [f36_eq hl, Option.bind_some]

theorem next_same (level dir : Int) : ∃ n, G.f28F (level, dir) = some n ∧ G.f29F (level, dir) = some n := by
  by_cases h0 : level < 0
  · exact ⟨_, f28_none _ _ (.inl h0), f29_none _ _ (.inl h0)⟩
  · by_cases h1 : 125 < level
    · exact ⟨_, f28_none _ _ (.inr h1), f29_none _ _ (.inr h1)⟩
    · exact ⟨_, f28_eq _ _ (by omega) (by omega), f29_eq _ _ (by omega) (by omega)⟩

theorem explicitAnswers_pure (x : List Int × List Int) (h : wfTup [.sl (.int .i64), .arr 2 (.int .i64)] x) : G.f7F x = some true := by
  obtain ⟨l, two⟩ := x
  unfold G.f7F
  rw [aliveE]
  simp only [Option.bind_some, Bool.not_true, Bool.false_eq_true, if_false]
  by_cases hlen : (l.length : Int) > 500
  · rw [if_pos (by rw [decide_eq_true_eq]; exact hlen)]
  · rw [if_neg (by rw [decide_eq_true_eq]; exact hlen)]
    have hl : l.length ≤ 98000 := by omega
    have e0 : (0 : Int) ≤ 0 ∧ (0 : Int) < ((2 : Nat) : Int) := by decide
    have e1 : (0 : Int) ≤ 1 ∧ (1 : Int) < ((2 : Nat) : Int) := by decide
    have hi := runS_inv (baseOf_or (two.getD 0 0)) l l.length
    have h1 := hi.lv
    have h2 := hi.cl
    obtain ⟨n, n1, n2⟩ := next_same (two.getD 1 0) (two.getD 0 0)
    simp only [if_pos e0, if_pos e1, f24_eq (show l.length ≤ 99000 by omega), f25_eq hl, Option.bind_some, f13_eq _ _ (show (runS l (baseOf (two.getD 0 0)) l.length).lv.length ≤ 9223372036854775807 by omega),
      f13_eq _ _ (show (runS l (baseOf (two.getD 0 0)) l.length).cl.length ≤ 9223372036854775807 by omega), decide_true, if_true, f26_eq (show l.length ≤ 99000 by omega), f27_eq hl, beq_self_eq_true, n1, n2]
end Go.Sx
