/- Seq: an isolate ends at the level it began at. -/
import Derived.Test.YtjmdfkcgglidaaaSxSqC
set_option linter.unusedVariables false
set_option linter.unusedSimpArgs false
namespace Go.Sx

def St.stepC (c iso : Int) (s : St) : St :=
  if c = 14 then (s.tell s.top.1 c).embed 0 (-1)
  else if c = 16 then (s.tell s.top.1 c).embed 1 (-1)
  else if c = 15 then (s.tell s.top.1 c).embed 0 0
  else if c = 17 then (s.tell s.top.1 c).embed 1 1
  else if c = 18 then (s.tell s.top.1 c).back
  else if c = 9 then s.tell s.top.1 c
  else if opens c = true then (s.place c).iso iso
  else if c = 22 then s.fin.place c
  else if c = 10 then s.reset.tell s.base c
  else if c < 0 ∨ 23 ≤ c then s.place 0
  else s.place c

theorem step_eq (l : List Int) (s : St) (i : Nat) : s.step l i = s.stepC (l.getD i 0) (isoS l i) := rfl

theorem isos_app : ∀ (T R : List Ent), isos (T ++ R) = isos T + isos R
  | [], R => by simp [isos]
  | e :: T, R => by
    show (if e.2.2 = true then 1 else 0) + isos (T ++ R) = (if e.2.2 = true then 1 else 0) + isos T + isos R
    rw [isos_app T R]; omega

theorem popIso_app (R : List Ent) : ∀ (T : List Ent), 0 < isos T → ∃ T', popIso (T ++ R) = T' ++ R ∧ isos T' + 1 = isos T
  | [], h => by simp [isos] at h
  | e :: T, h => by
    show ∃ T', (if e.2.2 = true then T ++ R else popIso (T ++ R)) = T' ++ R ∧ isos T' + 1 = (if e.2.2 = true then 1 else 0) + isos T
    have h' : 0 < (if e.2.2 = true then 1 else 0) + isos T := h
    by_cases he : e.2.2 = true
    · rw [if_pos he, if_pos he]
      exact ⟨T, rfl, by omega⟩
    · rw [if_neg he] at h' ⊢
      rw [if_neg he]
      obtain ⟨T', h1, h2⟩ := popIso_app R T (by omega)
      exact ⟨T', h1, by omega⟩

theorem popIso_none (e : Ent) (R : List Ent) (he : e.2.2 = true) : ∀ (T : List Ent), isos T = 0 → popIso (T ++ e :: R) = R
  | [], _ => by show (if e.2.2 = true then R else popIso R) = R; rw [if_pos he]
  | x :: T, h => by
    have h' : (if x.2.2 = true then 1 else 0) + isos T = 0 := h
    show (if x.2.2 = true then T ++ e :: R else popIso (T ++ e :: R)) = R
    by_cases hx : x.2.2 = true
    · rw [if_pos hx] at h'; omega
    · rw [if_neg hx]
      rw [if_neg hx] at h'
      exact popIso_none e R he T (by omega)

/-- Within an isolate that began above a stack, so deep. -/
inductive UInv (R : List Ent) (s : St) (d : Nat) : Prop
  | fit (T : List Ent) (e : Ent) (he : e.2.2 = true) (hs : s.st = T ++ e :: R) (hd : (d : Int) = isos T + s.li + 1)
  | over (hs : s.st = R) (hd : (d : Int) ≤ s.li)

def nextD (c : Int) (d : Nat) : Nat := if opens c = true then d + 1 else if c = 22 then d - 1 else d

theorem UInv.stepC {R : List Ent} {s : St} {d k m : Nat} (h : SInv k m s) (u : UInv R s d) (h1 : 1 ≤ d) {c : Int} (iso : Int) (h10 : c ≠ 10) (hp : c = 22 → 2 ≤ d) : UInv R (s.stepC c iso) (nextD c d) := by
  have hli := h.li0
  have d0 : opens c = false → c ≠ 22 → nextD c d = d := fun h1 h2 => by unfold nextD; rw [if_neg (by rw [h1]; simp), if_neg h2]
  have same : ∀ s' : St, s'.st = s.st → s'.li = s.li → UInv R s' d := by
    intro s' e1 e2
    rcases u with ⟨T, e, he, hs, hd⟩ | ⟨hs, hd⟩
    · exact .fit T e he (e1.trans hs) (by rw [e2]; exact hd)
    · exact .over (e1.trans hs) (by rw [e2]; exact hd)
  have emb : ∀ (s' : St) dd o, s'.st = s.st → s'.li = s.li → UInv R (s'.embed dd o) d := by
    intro s' dd o h2 h3
    unfold St.embed
    split
    · rename_i hf
      rcases u with ⟨T, e, he, hs, hd⟩ | ⟨hs, hd⟩
      · exact .fit ((nextS s'.top.1 dd, o, false) :: T) e he (by show _ :: s'.st = _; rw [h2, hs]; rfl) (by show _ = ((0 + isos T : Nat) : Int) + s'.li + 1; rw [h3]; omega)
      · have := hf.2.1
        omega
    · split
      · exact same _ h2 h3
      · exact same _ h2 h3
  unfold St.stepC
  by_cases c14 : c = 14
  · rw [if_pos c14, d0 (by rw [c14]; rfl) (by omega)]; exact emb (s.tell _ _) _ _ rfl rfl
  rw [if_neg c14]
  by_cases c16 : c = 16
  · rw [if_pos c16, d0 (by rw [c16]; rfl) (by omega)]; exact emb (s.tell _ _) _ _ rfl rfl
  rw [if_neg c16]
  by_cases c15 : c = 15
  · rw [if_pos c15, d0 (by rw [c15]; rfl) (by omega)]; exact emb (s.tell _ _) _ _ rfl rfl
  rw [if_neg c15]
  by_cases c17 : c = 17
  · rw [if_pos c17, d0 (by rw [c17]; rfl) (by omega)]; exact emb (s.tell _ _) _ _ rfl rfl
  rw [if_neg c17]
  by_cases c18 : c = 18
  · rw [if_pos c18, d0 (by rw [c18]; rfl) (by omega)]
    have e : (s.tell s.top.1 c).back = if 0 < s.li then s.tell s.top.1 c else if 0 < s.le then { s.tell s.top.1 c with le := s.le - 1 } else if 1 < s.st.length ∧ s.top.2.2 = false then { s.tell s.top.1 c with st := s.st.tail } else s.tell s.top.1 c := rfl
    rw [e]
    split
    · exact same _ rfl rfl
    · split
      · exact same _ rfl rfl
      · split
        · rename_i hl _ hc
          rcases u with ⟨T, e, he, hs, hd⟩ | ⟨hs, hd⟩
          · cases T with
            | nil =>
              have : s.top = e := by unfold St.top; rw [hs]; rfl
              rw [this, he] at hc
              cases hc.2
            | cons x T =>
              have ht : s.top = x := by unfold St.top; rw [hs]; rfl
              rw [ht] at hc
              have hi : isos (x :: T) = isos T := by show (if x.2.2 = true then 1 else 0) + isos T = _; rw [hc.2]; simp
              exact .fit T e he (by simp only [hs]; rfl) (by rw [hd, hi]; rfl)
          · omega
        · exact same _ rfl rfl
  rw [if_neg c18]
  by_cases c9 : c = 9
  · rw [if_pos c9, d0 (by rw [c9]; rfl) (by omega)]; exact same _ rfl rfl
  rw [if_neg c9]
  by_cases ho : opens c = true
  · rw [if_pos ho]
    have hdl : nextD c d = d + 1 := by unfold nextD; rw [if_pos ho]
    rw [hdl]
    unfold St.iso
    split
    · rename_i hf
      rcases u with ⟨T, e, he, hs, hd⟩ | ⟨hs, hd⟩
      · exact .fit ((nextS (s.place c).top.1 iso, -1, true) :: T) e he (by show _ :: s.st = _; rw [hs]; rfl) (by show _ = ((1 + isos T : Nat) : Int) + s.li + 1; omega)
      · have : s.li = 0 := hf.2.1
        omega
    · rcases u with ⟨T, e, he, hs, hd⟩ | ⟨hs, hd⟩
      · exact .fit T e he hs (by show _ = (isos T : Int) + (s.li + 1) + 1; omega)
      · exact .over hs (by show _ ≤ s.li + 1; omega)
  rw [if_neg ho]
  by_cases c22 : c = 22
  · rw [if_pos c22]
    have hd2 := hp c22
    have hdl : nextD c d = d - 1 := by unfold nextD; rw [if_neg ho, if_pos c22]
    rw [hdl]
    have hst : ∀ s' : St, (s'.place c).st = s'.st ∧ (s'.place c).li = s'.li := fun s' => ⟨rfl, rfl⟩
    unfold St.fin
    split
    · rcases u with ⟨T, e, he, hs, hd⟩ | ⟨hs, hd⟩
      · exact .fit T e he hs (by show _ = (isos T : Int) + (s.li - 1) + 1; omega)
      · exact .over hs (by show _ ≤ s.li - 1; omega)
    · rcases u with ⟨T, e, he, hs, hd⟩ | ⟨hs, hd⟩
      · have hl0 : s.li = 0 := by omega
        obtain ⟨T', p1, p2⟩ := popIso_app (e :: R) T (by omega)
        have hv : s.v = ((isos T + isos (e :: R) : Nat) : Int) := by rw [h.vn, hs, isos_app]
        have hie : 1 ≤ isos (e :: R) := by show 1 ≤ (if e.2.2 = true then 1 else 0) + isos R; rw [he]; simp
        rw [if_pos (by omega)]
        exact .fit T' e he (by show popIso s.st = _; rw [hs, p1]) (by show _ = (isos T' : Int) + s.li + 1; omega)
      · omega
  rw [if_neg c22, if_neg h10, d0 (by simpa using ho) c22]
  split <;> exact same _ rfl rfl

theorem UInv.last {R : List Ent} {s : St} {k m : Nat} (h : SInv k m s) (u : UInv R s 1) (iso : Int) : (s.stepC 22 iso).lv = s.lv ++ [(R.headD (0, 0, false)).1] := by
  have hli := h.li0
  have e : s.stepC 22 iso = s.fin.place 22 := rfl
  rw [e]
  have hf : s.fin.st = R ∧ s.fin.lv = s.lv := by
    unfold St.fin
    rcases u with ⟨T, e, he, hs, hd⟩ | ⟨hs, hd⟩
    · have hl0 : s.li = 0 := by omega
      have hT : isos T = 0 := by omega
      have hie : 1 ≤ isos (e :: R) := by show 1 ≤ (if e.2.2 = true then 1 else 0) + isos R; rw [he]; simp
      have hv : s.v = ((isos T + isos (e :: R) : Nat) : Int) := by rw [h.vn, hs, isos_app]
      rw [if_neg (by omega), if_pos (by omega)]
      exact ⟨by show popIso s.st = _; rw [hs, popIso_none e R he T hT], rfl⟩
    · rw [if_pos (by omega)]
      exact ⟨hs, rfl⟩
  show s.fin.lv ++ [s.fin.top.1] = _
  unfold St.top
  rw [hf.1, hf.2]

theorem UInv.first {s : St} {k m : Nat} (h : SInv k m s) {c : Int} (hc : opens c = true) (iso : Int) : UInv s.st (s.stepC c iso) 1 := by
  have hli := h.li0
  have e : s.stepC c iso = (s.place c).iso iso := by
    have hcs : c = 19 ∨ c = 20 ∨ c = 21 := by
      unfold opens at hc
      simpa [or_assoc] using hc
    rcases hcs with rfl | rfl | rfl <;> rfl
  rw [e]
  unfold St.iso
  split
  · rename_i hf
    have : s.li = 0 := hf.2.1
    exact .fit [] (nextS (s.place c).top.1 iso, -1, true) rfl rfl (by show (1 : Int) = ((0 : Nat) : Int) + s.li + 1; omega)
  · exact .over rfl (by show (1 : Int) ≤ s.li + 1; omega)

theorem scan_lv {b : Int} (hb : b = 0 ∨ b = 1) (l : List Int) (R : List Ent) (p : Nat) : ∀ (n k d : Nat), n = l.length - k → 1 ≤ d → UInv R (runS l b k) d → scan (l.drop k) d k = (p : Int) →
    (runS l b (p + 1)).lv.getD p 0 = (R.headD (0, 0, false)).1 := by
  intro n
  induction n with
  | zero =>
    intro k d hn _ _ hs
    rw [List.drop_of_length_le (by omega)] at hs
    simp [scan] at hs
  | succ n ih =>
    intro k d hn hd hu hs
    have hk : k < l.length := by omega
    have hi := runS_inv hb l k
    rw [drop_cons hk] at hs
    unfold scan at hs
    have hg : l.getD k 0 = l[k] := getD_at 0 hk
    have hsucc : runS l b (k + 1) = (runS l b k).stepC l[k] (isoS l k) := by rw [runS_succ, step_eq, hg]
    split at hs
    · omega
    rename_i h10
    split at hs
    · rename_i ho
      have := hu.stepC hi hd (isoS l k) h10 (fun e => by rw [e] at ho; simp [opens] at ho)
      rw [← hsucc] at this
      rw [show nextD l[k] d = d + 1 by unfold nextD; rw [if_pos ho]] at this
      exact ih (k + 1) (d + 1) (by omega) (by omega) this hs
    rename_i ho
    split at hs
    · rename_i h22
      split at hs
      · rename_i hd1
        subst hd1
        have hkp : k = p := by omega
        subst hkp
        have := hu.last hi (isoS l k)
        rw [hsucc, h22, this]
        obtain ⟨_, _, hlen, _, _⟩ := runS_told hb l k
        rw [getD_app hlen, if_pos rfl]
      · rename_i hd1
        have := hu.stepC hi hd (isoS l k) h10 (fun _ => by omega)
        rw [← hsucc] at this
        rw [show nextD l[k] d = d - 1 by unfold nextD; rw [if_neg ho, if_pos h22]] at this
        exact ih (k + 1) (d - 1) (by omega) (by omega) this hs
    · rename_i h22
      have := hu.stepC hi hd (isoS l k) h10 (fun e => absurd e h22)
      rw [← hsucc] at this
      rw [show nextD l[k] d = d by unfold nextD; rw [if_neg ho, if_neg h22]] at this
      exact ih (k + 1) d (by omega) hd this hs

theorem step_lv1 {b : Int} (hb : b = 0 ∨ b = 1) (l : List Int) (n : Nat) : (runS l b (n + 1)).lv.take n = (runS l b n).lv := by
  obtain ⟨h1, h2, h3, h4, h5⟩ := runS_told hb l n
  obtain ⟨⟨⟨x, y, g1, g2, g3, g4, g5, g6⟩, g7⟩, g8⟩ := step_told (runS_inv hb l n) h1 l n
  rw [runS_succ, g1, List.take_left' h3]

theorem runS_lv {b : Int} (hb : b = 0 ∨ b = 1) (l : List Int) (k : Nat) : ∀ n, k ≤ n → (runS l b n).lv.take k = (runS l b k).lv := by
  intro n
  induction n with
  | zero =>
    intro hk
    have : k = 0 := by omega
    subst this
    rfl
  | succ n ih =>
    intro hk
    by_cases hkn : k = n + 1
    · subst hkn
      obtain ⟨_, _, hlen, _, _⟩ := runS_told hb l (n + 1)
      rw [List.take_of_length_le (by omega)]
    · have h1 := ih (by omega)
      have h2 := step_lv1 hb l n
      rw [← h1, ← h2, List.take_take, Nat.min_eq_left (by omega)]

theorem runS_lv_get {b : Int} (hb : b = 0 ∨ b = 1) (l : List Int) {i n : Nat} (hi : i < n) : (runS l b n).lv.getD i 0 = (runS l b (i + 1)).lv.getD i 0 := by
  have h := runS_lv hb l (i + 1) n hi
  rw [← h]
  simp only [List.getD_eq_getElem?_getD]
  rw [List.getElem?_take_of_lt (by omega)]

/-- An isolate ends at the level it began at. -/
theorem iso_level {b : Int} (hb : b = 0 ∨ b = 1) (l : List Int) {j p : Nat} (hj : j < l.length) (ho : opens (l.getD j 0) = true) (he : endOf l j = p) : (runS l b l.length).lv.getD p 0 = (runS l b l.length).lv.getD j 0 := by
  have hgt := endOf_gt l j
  have hi := runS_inv hb l j
  have hu : UInv (runS l b j).st (runS l b (j + 1)) 1 := by
    rw [runS_succ, step_eq]
    exact UInv.first hi ho _
  have h1 := scan_lv hb l _ p (l.length - (j + 1)) (j + 1) 1 rfl (Nat.le_refl _) hu he
  rw [runS_lv_get hb l (show p < l.length by omega), h1, runS_lv_get hb l hj]
  obtain ⟨_, _, hlen, _, _⟩ := runS_told hb l j
  have h2 : (runS l b (j + 1)).lv = (runS l b j).lv ++ [(runS l b j).top.1] := by
    rw [runS_succ, step_eq]
    have e : (runS l b j).stepC (l.getD j 0) (isoS l j) = ((runS l b j).place (l.getD j 0)).iso (isoS l j) := by
      have hcs : l.getD j 0 = 19 ∨ l.getD j 0 = 20 ∨ l.getD j 0 = 21 := by
        unfold opens at ho
        simpa [or_assoc] using ho
      generalize l.getD j 0 = c at hcs
      rcases hcs with rfl | rfl | rfl <;> rfl
    rw [e, (lv_iso _ _).1]
    rfl
  rw [h2, getD_app hlen, if_pos rfl]
  rfl
end Go.Sx
