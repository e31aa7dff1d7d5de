import Derived.Test.YtjmdfkcgglidaaaDoorSxWB
set_option linter.unusedVariables false
set_option linter.unusedSimpArgs false
namespace Go.Sx

/-- How deep one is. -/
def dlt (c : Int) : Int := if opens c = true then 1 else if c = 22 then -1 else 0
def deep (W : List Int) : Nat → Int
  | 0 => 0
  | n + 1 => deep W n + dlt (W.getD n 0)

theorem isos_app : ∀ (T R : List Ent), isos (T ++ R) = isos T + isos R
  | [], R => by simp [isos]
  | e :: T, R => by
    show (if e.2.2 = true then 1 else 0) + isos (T ++ R) = (if e.2.2 = true then 1 else 0) + isos T + isos R
    rw [isos_app T R]; omega

theorem popIso_app (R : List Ent) : ∀ (T : List Ent), 0 < isos T → ∃ T', popIso (T ++ R) = T' ++ R ∧ isos T' + 1 = isos T
  | [], h => by simp [isos] at h
  | e :: T, h => by
    show ∃ T', (if e.2.2 = true then T ++ R else popIso (T ++ R)) = T' ++ R ∧ isos T' + 1 = (if e.2.2 = true then 1 else 0) + isos T
    have h' : 0 < (if e.2.2 = true then 1 else 0) + isos T := h
    by_cases he : e.2.2 = true
    · rw [if_pos he, if_pos he]
      exact ⟨T, rfl, by omega⟩
    · rw [if_neg he] at h' ⊢
      rw [if_neg he]
      obtain ⟨T', h1, h2⟩ := popIso_app R T (by omega)
      exact ⟨T', h1, by omega⟩

theorem popIso_none (e : Ent) (R : List Ent) (he : e.2.2 = true) : ∀ (T : List Ent), isos T = 0 → popIso (T ++ e :: R) = R
  | [], _ => by show (if e.2.2 = true then R else popIso R) = R; rw [if_pos he]
  | x :: T, h => by
    have h' : (if x.2.2 = true then 1 else 0) + isos T = 0 := h
    show (if x.2.2 = true then T ++ e :: R else popIso (T ++ e :: R)) = R
    by_cases hx : x.2.2 = true
    · rw [if_pos hx] at h'; omega
    · rw [if_neg hx]
      rw [if_neg hx] at h'
      exact popIso_none e R he T (by omega)

/-- Within an isolate. -/
def WInv (b n1 : Int) (s : St) (d : Int) : Prop := s.base = b ∧ ∃ T, s.st = T ++ [(n1, -1, true), (b, -1, false)] ∧ d = isos T + s.li

theorem WInv.stepC {b n1 d : Int} {k m : Nat} {s : St} (h : SInv k m s) (w : WInv b n1 s d) {c iso : Int} (h10 : c ≠ 10) (hd : 0 ≤ d + dlt c) : WInv b n1 (s.stepC c iso) (d + dlt c) := by
  obtain ⟨hb, T, hT, hdd⟩ := w
  have hli := h.li0
  have d0 : opens c = false → c ≠ 22 → d + dlt c = d := fun h1 h2 => by unfold dlt; rw [if_neg (by rw [h1]; simp), if_neg h2]; omega
  have emb : ∀ (s' : St) dd o, s'.base = b → s'.st = T ++ [(n1, -1, true), (b, -1, false)] → s'.li = s.li → WInv b n1 (s'.embed dd o) d := by
    intro s' dd o h1 h2 h3
    unfold St.embed
    split
    · exact ⟨h1, (nextS s'.top.1 dd, o, false) :: T, by simp [St.push, h2], by rw [hdd]; show _ = ((0 + isos T : Nat) : Int) + s'.li; rw [h3]; omega⟩
    · split
      · exact ⟨h1, T, h2, by rw [hdd]; show _ = (isos T : Int) + s'.li; rw [h3]⟩
      · exact ⟨h1, T, h2, by rw [hdd, h3]⟩
  unfold St.stepC
  by_cases c14 : c = 14
  · rw [if_pos c14, d0 (by rw [c14]; rfl) (by omega)]; exact emb (s.tell _ _) _ _ hb hT rfl
  rw [if_neg c14]
  by_cases c16 : c = 16
  · rw [if_pos c16, d0 (by rw [c16]; rfl) (by omega)]; exact emb (s.tell _ _) _ _ hb hT rfl
  rw [if_neg c16]
  by_cases c15 : c = 15
  · rw [if_pos c15, d0 (by rw [c15]; rfl) (by omega)]; exact emb (s.tell _ _) _ _ hb hT rfl
  rw [if_neg c15]
  by_cases c17 : c = 17
  · rw [if_pos c17, d0 (by rw [c17]; rfl) (by omega)]; exact emb (s.tell _ _) _ _ hb hT rfl
  rw [if_neg c17]
  by_cases c18 : c = 18
  · rw [if_pos c18, d0 (by rw [c18]; rfl) (by omega)]
    have e : (s.tell s.top.1 c).back = if 0 < s.li then s.tell s.top.1 c else if 0 < s.le then { s.tell s.top.1 c with le := s.le - 1 } else if 1 < s.st.length ∧ s.top.2.2 = false then { s.tell s.top.1 c with st := s.st.tail } else s.tell s.top.1 c := rfl
    rw [e]
    split
    · exact ⟨hb, T, hT, hdd⟩
    · split
      · exact ⟨hb, T, hT, hdd⟩
      · split
        · rename_i hc
          cases T with
          | nil =>
            have : s.top = (n1, -1, true) := by unfold St.top; rw [hT]; rfl
            rw [this] at hc
            cases hc.2
          | cons e T =>
            have ht : s.top = e := by unfold St.top; rw [hT]; rfl
            rw [ht] at hc
            refine ⟨hb, T, by simp only [hT]; rfl, ?_⟩
            have hi : isos (e :: T) = isos T := by show (if e.2.2 = true then 1 else 0) + isos T = _; rw [hc.2]; simp
            rw [hdd, hi]
            rfl
        · exact ⟨hb, T, hT, hdd⟩
  rw [if_neg c18]
  by_cases c9 : c = 9
  · rw [if_pos c9, d0 (by rw [c9]; rfl) (by omega)]; exact ⟨hb, T, hT, hdd⟩
  rw [if_neg c9]
  by_cases ho : opens c = true
  · rw [if_pos ho]
    have hdl : dlt c = 1 := by unfold dlt; rw [if_pos ho]
    rw [hdl]
    unfold St.iso
    split
    · exact ⟨hb, (nextS (s.place c).top.1 iso, -1, true) :: T, by show _ :: s.st = _; rw [hT]; rfl, by rw [hdd]; show _ = ((1 + isos T : Nat) : Int) + s.li; omega⟩
    · exact ⟨hb, T, hT, by rw [hdd]; show _ = (isos T : Int) + (s.li + 1); omega⟩
  rw [if_neg ho]
  by_cases c22 : c = 22
  · rw [if_pos c22]
    have hdl : dlt c = -1 := by unfold dlt; rw [if_neg ho, if_pos c22]
    rw [hdl] at hd ⊢
    unfold St.fin
    split
    · exact ⟨hb, T, hT, by rw [hdd]; show _ = (isos T : Int) + (s.li - 1); omega⟩
    · have hl0 : s.li = 0 := by omega
      obtain ⟨T', p1, p2⟩ := popIso_app [(n1, -1, true), (b, -1, false)] T (by omega)
      have hv : s.v = ((isos T + 1 : Nat) : Int) := by rw [h.vn, hT, isos_app]; rfl
      rw [if_pos (by omega)]
      exact ⟨hb, T', by show popIso s.st = _; rw [hT, p1], by rw [hdd]; show _ = (isos T' : Int) + s.li; omega⟩
  rw [if_neg c22, if_neg h10, d0 (by simpa using ho) c22]
  split <;> exact ⟨hb, T, hT, hdd⟩

theorem getD_app1 (A S : List Int) {i : Nat} (h : i < A.length) : (A ++ S).getD i 0 = A.getD i 0 := by
  simp only [List.getD_eq_getElem?_getD]
  rw [List.getElem?_append_left h]

/-- From an isolate's beginning to its end. -/
theorem within_ok {b : Int} (hb : b = 0 ∨ b = 1) (W S : List Int) (h0 : ∀ i, i ≤ W.length → 0 ≤ deep W i) (h10 : ∀ i, i < W.length → W.getD i 0 ≠ 10) :
    ∃ n1, ∀ i, i ≤ W.length → WInv b n1 (runS ((19 :: W) ++ S) b (1 + i)) (deep W i) := by
  refine ⟨nextS b 0, fun i => ?_⟩
  induction i with
  | zero =>
    intro _
    have e : runS ((19 :: W) ++ S) b 1 = (runS ((19 :: W) ++ S) b 0).step ((19 :: W) ++ S) 0 := runS_succ _ _ 0
    rw [e, step_eq]
    have hi : isoS ((19 :: W) ++ S) ((0 : Nat) : Int) = 0 := by
      unfold isoS
      simp [opens]
      omega
    rw [show ((19 :: W) ++ S).getD 0 0 = 19 from rfl, hi]
    have hf : nextS b 0 ≤ 125 := by unfold nextS; rw [if_neg (by omega)]; omega
    have e2 : (runS ((19 :: W) ++ S) b 0).stepC 19 0 = ((St.init b).place 19).iso 0 := rfl
    have e3 : ((St.init b).place 19).iso 0 = { ((St.init b).place 19).push (nextS b 0, -1, true) with v := 1 } := by
      unfold St.iso
      rw [if_pos (show ((St.init b).place 19).fits (nextS ((St.init b).place 19).top.1 0) from ⟨hf, rfl, rfl⟩)]
      rfl
    rw [e2, e3]
    exact ⟨rfl, [], rfl, rfl⟩
  | succ i ih =>
    intro hi
    have hlt : i < W.length := by omega
    rw [show 1 + (i + 1) = 1 + i + 1 by omega, runS_succ, step_eq]
    have hg : ((19 :: W) ++ S).getD (1 + i) 0 = W.getD i 0 := by
      rw [getD_app1 _ _ (by simp; omega)]
      simp [List.getD_eq_getElem?_getD, show 1 + i = i + 1 by omega]
    rw [hg]
    have := h0 (i + 1) hi
    exact (ih (by omega)).stepC (runS_inv hb _ _) (h10 i hlt) this

/-- Behind an isolate. -/
theorem after_iso {b n1 : Int} {k m : Nat} {s : St} (h : SInv k m s) (w : WInv b n1 s 0) (iso : Int) : (s.stepC 22 iso).core = ⟨b, 0, 0, 0, 0, [(b, -1, false)], [], []⟩ ∧ (s.stepC 22 iso).lv = s.lv ++ [b] ∧ (s.stepC 22 iso).cl = s.cl ++ [22] := by
  obtain ⟨hb, T, hT, hd⟩ := w
  have hli := h.li0
  have hl0 : s.li = 0 := by omega
  have hi : isos T = 0 := by omega
  have hv : s.v = ((isos T + 1 : Nat) : Int) := by rw [h.vn, hT, isos_app]; rfl
  have hf : s.fin = { s with le := 0, v := s.v - 1, st := [(b, -1, false)] } := by
    unfold St.fin
    rw [if_neg (by omega), if_pos (by omega), hT, popIso_none _ _ rfl T hi]
  have e : s.stepC 22 iso = s.fin.place 22 := rfl
  rw [e, hf]
  have hv0 : s.v - 1 = 0 := by omega
  refine ⟨?_, rfl, rfl⟩
  show St.mk s.base s.li 0 (s.v - 1) 0 [(b, -1, false)] [] [] = _
  rw [hb, hl0, hv0]

theorem isolates_ok {b : Int} (hb : b = 0 ∨ b = 1) (W L : List Int) (h0 : ∀ i, i ≤ W.length → 0 ≤ deep W i) (h10 : ∀ i, i < W.length → W.getD i 0 ≠ 10) (hz : deep W W.length = 0) :
    ∃ x y, (runS ((19 :: W) ++ (22 :: L)) b (W.length + 2 + L.length)).lv.drop (W.length + 1) = x ∧ (runS (19 :: 22 :: L) b (2 + L.length)).lv.drop 1 = x ∧
      (runS ((19 :: W) ++ (22 :: L)) b (W.length + 2 + L.length)).cl.drop (W.length + 1) = y ∧ (runS (19 :: 22 :: L) b (2 + L.length)).cl.drop 1 = y := by
  obtain ⟨n1, hw⟩ := within_ok hb W (22 :: L) h0 h10
  obtain ⟨n2, hw'⟩ := within_ok hb [] (22 :: L) (fun i hi => by simp at hi; subst hi; exact Int.le_refl 0) (fun i hi => by simp at hi)
  have w1 := hw W.length (Nat.le_refl _)
  rw [hz] at w1
  have w2 := hw' 0 (Nat.le_refl _)
  have a1 := after_iso (runS_inv hb _ _) w1 (isoS ((19 :: W) ++ (22 :: L)) ((1 + W.length : Nat) : Int))
  have a2 := after_iso (runS_inv hb _ _) w2 (isoS ((19 :: []) ++ (22 :: L)) ((1 + 0 : Nat) : Int))
  have g1 : ((19 :: W) ++ (22 :: L)).getD (1 + W.length) 0 = 22 := by
    have := getD_app2 (19 :: W) (22 :: L) 0
    simp only [List.length_cons, Nat.add_zero] at this
    rw [show 1 + W.length = W.length + 1 by omega, this]
    rfl
  have s1 : runS ((19 :: W) ++ (22 :: L)) b (W.length + 2) = (runS ((19 :: W) ++ (22 :: L)) b (1 + W.length)).stepC 22 (isoS ((19 :: W) ++ (22 :: L)) ((1 + W.length : Nat) : Int)) := by
    rw [show W.length + 2 = 1 + W.length + 1 by omega, runS_succ, step_eq, g1]
  have s2 : runS ((19 :: []) ++ (22 :: L)) b 2 = (runS ((19 :: []) ++ (22 :: L)) b (1 + 0)).stepC 22 (isoS ((19 :: []) ++ (22 :: L)) ((1 + 0 : Nat) : Int)) := by
    rw [show 2 = 1 + 0 + 1 from rfl, runS_succ, step_eq]
    rfl
  rw [← s1] at a1
  rw [← s2] at a2
  have l1 : (19 :: W) ++ (22 :: L) = (19 :: W ++ [22]) ++ L := by simp
  have l2 : (19 :: []) ++ (22 :: L) = [19, 22] ++ L := rfl
  have hc : (runS ((19 :: W ++ [22]) ++ L) b (19 :: W ++ [22] : List Int).length).core = (runS ([19, 22] ++ L) b ([19, 22] : List Int).length).core := by
    rw [← l1, ← l2, show ((19 :: W ++ [22] : List Int)).length = W.length + 2 by simp, show ([19, 22] : List Int).length = 2 from rfl, a1.1, a2.1]
  obtain ⟨_, x, y, k1, k2, k3, k4⟩ := suffix_same (19 :: W ++ [22]) [19, 22] L b hc L.length (Nat.le_refl _)
  rw [← l1, show ((19 :: W ++ [22] : List Int)).length = W.length + 2 by simp] at k1 k3
  rw [← l2, show ([19, 22] : List Int).length = 2 from rfl] at k2 k4
  obtain ⟨_, _, t3, t4, _⟩ := runS_told hb ((19 :: W) ++ (22 :: L)) (1 + W.length)
  obtain ⟨_, _, u3, u4, _⟩ := runS_told hb ((19 :: []) ++ (22 :: L)) (1 + 0)
  refine ⟨[b] ++ x, [22] ++ y, ?_, ?_, ?_, ?_⟩
  · rw [k1, a1.2.1, List.append_assoc, List.drop_left' (by omega)]
  · show (runS ((19 :: []) ++ (22 :: L)) b (2 + L.length)).lv.drop 1 = _
    rw [k2, a2.2.1, List.append_assoc, List.drop_left' (by omega)]
  · rw [k3, a1.2.2, List.append_assoc, List.drop_left' (by omega)]
  · show (runS ((19 :: []) ++ (22 :: L)) b (2 + L.length)).cl.drop 1 = _
    rw [k4, a2.2.2, List.append_assoc, List.drop_left' (by omega)]

theorem deep_le (W : List Int) : ∀ n, deep W n ≤ n ∧ -(n : Int) ≤ deep W n
  | 0 => ⟨Int.le_refl 0, Int.le_refl 0⟩
  | n + 1 => by
    have := deep_le W n
    unfold deep dlt
    split
    · omega
    · split <;> omega

theorem explicitIsolates_pure (x : List Int × List Int × Bool) (h : wfTup [.sl (.int .i64), .sl (.int .i64), .bool] x) : G.f9F x = some true := by
  obtain ⟨l, W, right⟩ := x
  unfold G.f9F
  rw [aliveE]
  simp only [Option.bind_some, Bool.not_true, Bool.false_eq_true, if_false]
  by_cases hlen : (l.length : Int) > 200
  · rw [if_pos (by rw [decide_eq_true_eq]; exact hlen)]
    rfl
  · rw [if_neg (by rw [decide_eq_true_eq]; exact hlen)]
    simp only [Option.bind_some]
    by_cases hlw : (W.length : Int) > 200
    · rw [if_pos (by rw [decide_eq_true_eq]; exact hlw)]
    · rw [if_neg (by rw [decide_eq_true_eq]; exact hlw)]
      obtain ⟨n, hn, hnn, hbase⟩ : ∃ n : Int, (if right = true then some (1 : Int) else some 0) = some n ∧ (n = 0 ∨ n = 1) ∧ baseOf n = n := by
        cases right
        · exact ⟨0, rfl, .inl rfl, rfl⟩
        · exact ⟨1, rfl, .inr rfl, rfl⟩
      rw [hn]
      simp only [Option.bind_some]
      suffices hh : ∃ r, Option.bind _ _ = some r ∧ r = true by
        obtain ⟨r, h1, rfl⟩ := hh
        exact h1
      refine bind_ex (iter_rule (I := fun st => ∃ i : Nat, st = (deep W i, (i : Int)) ∧ i ≤ W.length ∧ (∀ j, j ≤ i → 0 ≤ deep W j) ∧ ∀ j, j < i → W.getD j 0 ≠ 10)
        (Q := fun e => e = Sum.inr true ∨ (e = Sum.inl (deep W W.length) ∧ (∀ j, j ≤ W.length → 0 ≤ deep W j) ∧ ∀ j, j < W.length → W.getD j 0 ≠ 10)) (fun st => ((W.length : Int) - st.2).toNat) ?_ _
        ⟨0, rfl, Nat.zero_le _, fun j hj => by have : j = 0 := by omega
                                               subst this; exact Int.le_refl 0, fun j hj => by omega⟩) ?_
      · rintro _ ⟨i, rfl, hi, hp, hq⟩
        have hd := deep_le W i
        simp only []
        by_cases hil : i < W.length
        · have hb : (0 : Int) ≤ i ∧ (i : Int) < W.length := ⟨by omega, by omega⟩
          have hwr : IntKind.i64.wrap ((i : Int) + 1) = ((i + 1 : Nat) : Int) := by rw [wrap_i64 (by omega) (by omega)]; rfl
          rw [if_pos (by rw [decide_eq_true_eq]; omega)]
          simp only [if_pos hb, Int.toNat_natCast, f22_eq, Option.bind_some, hwr]
          have e1 : (if opens (W.getD i 0) = true then some (IntKind.i64.wrap (deep W i + 1)) else some (deep W i)) = some (deep W i + if opens (W.getD i 0) = true then 1 else 0) := by
            split
            · rw [wrap_i64 (by omega) (by omega)]
            · rw [Int.add_zero]
          rw [e1]
          simp only [Option.bind_some]
          have e2 : (if (W.getD i 0 == (22 : Int)) = true then some (IntKind.i64.wrap ((deep W i + if opens (W.getD i 0) = true then 1 else 0) - 1)) else some (deep W i + if opens (W.getD i 0) = true then 1 else 0)) = some (deep W (i + 1)) := by
            show _ = some (deep W i + dlt (W.getD i 0))
            unfold dlt
            by_cases h22 : W.getD i 0 = 22
            · have ho : opens (W.getD i 0) = false := by rw [h22]; rfl
              rw [if_pos (by rw [beq_iff_eq]; exact h22), ho]
              simp only [Bool.false_eq_true, if_false, h22, if_true]
              rw [wrap_i64 (by omega) (by omega)]
              congr 1; omega
            · rw [if_neg (by rw [beq_iff_eq]; exact h22)]
              split
              · rfl
              · first | rfl | rw [if_neg h22]
          rw [e2]
          simp only [Option.bind_some]
          by_cases hneg : deep W (i + 1) < 0
          · rw [if_pos (by rw [decide_eq_true_eq]; exact hneg)]
            simp only [Option.bind_some, if_true]
            exact .inr ⟨_, rfl, .inl rfl⟩
          · rw [if_neg (by rw [decide_eq_true_eq]; exact hneg)]
            simp only [Option.bind_some]
            by_cases h10 : W.getD i 0 = 10
            · rw [if_pos (by rw [beq_iff_eq]; exact h10)]
              exact .inr ⟨_, rfl, .inl rfl⟩
            · rw [if_neg (by rw [beq_iff_eq]; exact h10)]
              refine .inl ⟨_, rfl, ⟨i + 1, rfl, hil, fun j hj => ?_, fun j hj => ?_⟩, by simp only []; omega⟩
              · by_cases hji : j = i + 1
                · subst hji; omega
                · exact hp j (by omega)
              · by_cases hji : j = i
                · subst hji; exact h10
                · exact hq j (by omega)
        · have : i = W.length := by omega
          subst this
          rw [if_neg (by rw [decide_eq_true_eq]; omega)]
          exact .inr ⟨_, rfl, .inr ⟨rfl, hp, hq⟩⟩
      · rintro _ (rfl | ⟨rfl, hp, hq⟩)
        · exact ⟨true, rfl, rfl⟩
        · simp only [Sum.elim_inl]
          by_cases hz : deep W W.length = 0
          · rw [if_neg (by rw [bne_iff_ne]; exact fun hne => hne hz)]
            rw [if_pos (by unfold roomOk; simp), if_pos (by unfold roomOk; simp; omega), if_pos (by unfold roomOk; simp; omega), if_pos (by unfold roomOk; simp; omega)]
            have hF : ([] ++ [(19 : Int)] ++ W ++ ([(22 : Int)] ++ l)) = (19 :: W) ++ (22 :: l) := by simp
            have hF2 : ([(19 : Int), 22] ++ l) = 19 :: 22 :: l := rfl
            have hl1 : ((19 :: W) ++ (22 :: l)).length = W.length + 2 + l.length := by simp; omega
            have hl2 : (19 :: 22 :: l : List Int).length = 2 + l.length := by simp; omega
            rw [hF, hF2, f24_eq (by omega), f24_eq (by omega), hbase, hl1, hl2]
            simp only [Option.bind_some]
            rw [if_pos (by unfold roomOk; simp; omega)]
            obtain ⟨x, y, k1, k2, k3, k4⟩ := isolates_ok hnn W l hp hq hz
            obtain ⟨_, _, t3, t4, _⟩ := runS_told hnn ((19 :: W) ++ (22 :: l)) (W.length + 2 + l.length)
            obtain ⟨_, _, u3, u4, _⟩ := runS_told hnn (19 :: 22 :: l) (2 + l.length)
            generalize runS ((19 :: W) ++ (22 :: l)) n (W.length + 2 + l.length) = s at *
            generalize runS (19 :: 22 :: l) n (2 + l.length) = t at *
            have hx : x.length ≤ 9223372036854775807 := by rw [← k2, List.length_drop]; omega
            have hy : y.length ≤ 9223372036854775807 := by rw [← k4, List.length_drop]; omega
            rw [wrap_i64 (show -9223372036854775808 ≤ (W.length : Int) + 2 by omega) (by omega), wrap_i64 (show -9223372036854775808 ≤ (W.length : Int) + 2 + l.length by omega) (by omega), wrap_i64 (show -9223372036854775808 ≤ 2 + (l.length : Int) by omega) (by omega),
              wrap_i64 (show -9223372036854775808 ≤ (W.length : Int) + 1 by omega) (by omega)]
            rw [if_pos (by rw [beq_iff_eq]; omega), if_pos (by rw [beq_iff_eq]; omega), if_pos (by omega), if_pos (by omega), show ((W.length : Int) + 1).toNat = W.length + 1 by omega, show (1 : Int).toNat = 1 from rfl, k1, k2, f13_eq x x hx]
            simp only [decide_true, Option.bind_some, if_true]
            rw [if_pos (by omega), if_pos (by omega), k3, k4, f13_eq y y hy]
            simp
          · rw [if_pos (by rw [bne_iff_ne]; exact hz)]
            exact ⟨true, rfl, rfl⟩
end Go.Sx
