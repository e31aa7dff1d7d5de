import Derived.Test.YtjmdfkcgglidaaaDoorSxW1
set_option linter.unusedVariables false
set_option linter.unusedSimpArgs false
namespace Go.Sx

theorem f51_top {k m : Nat} {s : St} (h : SInv k m s) (hk : k ≤ 100000) (a b c d f : Int) (lv cl : List Int) : G.f51F (a, s.st.reverse, b, c, d, f, lv, cl) = some s.top := by
  obtain ⟨e, r, hs⟩ := h.ne
  have hl := h.len
  rw [hs] at hl
  unfold St.top
  rw [hs]
  exact f51_eq e r (by simp at hl; omega) a b c d f lv cl

theorem top_mem {k m : Nat} {s : St} (h : SInv k m s) : s.top ∈ s.st := by
  obtain ⟨e, r, hs⟩ := h.ne
  unfold St.top
  rw [hs]
  simp

theorem f52_eq {k m : Nat} {s : St} (h : SInv k m s) (hk : k ≤ 100000) (dir over : Int) : G.f52F (dir, over, pt s) = some (pt (s.embed dir over)) := by
  have hl := h.len
  have ht := h.lev _ (top_mem h)
  have h60 := f60_eq (nextS s.top.1 dir, over, false) s h.li0 h.le0 (by omega)
  simp only [pt] at h60
  unfold G.f52F
  simp only [pt, f51_top h hk, Option.bind_some, f28_eq _ dir ht.1 ht.2, h60]
  unfold St.embed
  by_cases hf : s.fits (nextS s.top.1 dir)
  · simp only [if_pos hf]
    rfl
  · simp only [if_neg hf]
    by_cases h0 : s.li = 0
    · simp only [h0, if_true, beq_self_eq_true, Bool.not_false, Option.bind_some]
      rw [wrap_i64 (by have := h.le0; omega) (by have := h.le1; omega)]
    · simp only [h0, if_false, show (s.li == (0 : Int)) = false by simpa using h0, Bool.not_false, if_true, Option.bind_some, Bool.false_eq_true]

theorem f55_eq {k m : Nat} {s : St} (h : SInv k m s) (hk : k ≤ 100000) (dir : Int) : G.f55F (dir, pt s) = some (pt (s.iso dir)) := by
  have hl := h.len
  have ht := h.lev _ (top_mem h)
  have h60 := f60_eq (nextS s.top.1 dir, -1, true) s h.li0 h.le0 (by omega)
  simp only [pt] at h60
  have hv := isos_le s.st
  have hvn := h.vn
  unfold G.f55F
  simp only [pt, f51_top h hk, Option.bind_some, f28_eq _ dir ht.1 ht.2, h60]
  unfold St.iso
  by_cases hf : s.fits (nextS s.top.1 dir)
  · simp only [if_pos hf]
    rw [if_pos trivial, wrap_i64 (by simp only [St.push]; omega) (by simp only [St.push]; omega)]
    rfl
  · simp only [if_neg hf, Bool.false_eq_true, if_false]
    rw [wrap_i64 (by have := h.li0; omega) (by have := h.li1; omega)]

theorem f54_eq {k m : Nat} {s : St} (h : SInv k m s) (hk : k ≤ 100000) (hm : m ≤ 100000) (c : Int) : G.f54F (c, pt s) = some (pt (s.place c)) := by
  have h1 := h.lv
  have h2 := h.cl
  unfold G.f54F
  simp only [pt, f51_top h hk, Option.bind_some]
  unfold St.place
  by_cases ho : s.top.2.1 = -1
  · rw [if_neg (by simpa using ho), if_neg (by simpa using ho)]
    have := f50_eq s.top.1 c s (by omega) (by omega)
    simp only [pt] at this
    rw [this]
    rfl
  · rw [if_pos (by simpa using ho), if_pos ho]
    have := f50_eq s.top.1 s.top.2.1 s (by omega) (by omega)
    simp only [pt] at this
    rw [this]
    rfl

theorem f53_eq {k m : Nat} {s : St} (h : SInv k m s) (hk : k ≤ 100000) : G.f53F (pt s) = some (pt s.back) := by
  have hl := h.len
  unfold G.f53F
  simp only [pt]
  by_cases h1 : s.li > 0
  · rw [if_pos (by rw [decide_eq_true_eq]; exact h1)]
    unfold St.back
    rw [if_pos h1]
  · rw [if_neg (by rw [decide_eq_true_eq]; exact h1)]
    by_cases h2 : s.le > 0
    · rw [if_pos (by rw [decide_eq_true_eq]; exact h2), wrap_i64 (by omega) (by have := h.le1; omega)]
      unfold St.back
      rw [if_neg h1, if_pos h2]
    · rw [if_neg (by rw [decide_eq_true_eq]; exact h2)]
      unfold St.back
      simp only [if_neg h1, if_neg h2]
      by_cases h3 : 1 < s.st.length
      · rw [if_pos (by rw [decide_eq_true_eq, List.length_reverse]; omega)]
        simp only [f51_top h hk, Option.bind_some]
        cases ho : s.top.2.2 with
        | true =>
          rw [if_neg (show ¬ (1 < s.st.length ∧ true = false) by simp)]
          simp
        | false =>
          rw [if_pos (show 1 < s.st.length ∧ false = false from ⟨h3, rfl⟩)]
          obtain ⟨e, r, hs⟩ := h.ne
          have h61 := f61_eq e r s hs (by rw [hs] at hl; simp at hl; omega)
          simp only [pt] at h61
          simp only [Bool.not_false, if_true, h61, Option.bind_some]
          rw [hs]
          rfl
      · rw [if_neg (by rw [decide_eq_true_eq, List.length_reverse]; omega)]
        simp only [h3, false_and, if_false, Option.bind_some, Bool.false_eq_true]

theorem popIso_loop : ∀ (st : List Ent) (a b c d f : Int) (lv cl : List Int), 0 < isos st → st.length ≤ 1000000 →
    iter (fun (s1 : Int × Int × Int × Int × Int × List Ent × List Int × List Int) =>
      Option.bind (G.f61F (s1.1, s1.snd.1, s1.snd.snd.1, s1.snd.snd.snd.1, s1.snd.snd.snd.snd.1, s1.snd.snd.snd.snd.snd.1, s1.snd.snd.snd.snd.snd.snd.1, s1.snd.snd.snd.snd.snd.snd.2))
        fun (v2 : Ent × Int × Int × Int × Int × Int × List Ent × List Int × List Int) =>
        if (!v2.fst.snd.snd) = true then
          some (Sum.inl (v2.snd.1, v2.snd.snd.1, v2.snd.snd.snd.1, v2.snd.snd.snd.snd.1, v2.snd.snd.snd.snd.snd.1, v2.snd.snd.snd.snd.snd.snd.1, v2.snd.snd.snd.snd.snd.snd.snd.1, v2.snd.snd.snd.snd.snd.snd.snd.2))
        else
          some (Sum.inr (v2.snd.1, v2.snd.snd.1, v2.snd.snd.snd.1, v2.snd.snd.snd.snd.1, v2.snd.snd.snd.snd.snd.1, v2.snd.snd.snd.snd.snd.snd.1, v2.snd.snd.snd.snd.snd.snd.snd.1, v2.snd.snd.snd.snd.snd.snd.snd.2)))
      (a, b, c, d, f, st.reverse, lv, cl) = some (a, b, c, d, f, (popIso st).reverse, lv, cl)
  | [], a, b, c, d, f, lv, cl, h, _ => by simp [isos] at h
  | e :: r, a, b, c, d, f, lv, cl, h, hl => by
    have h61 := f61_eq e r ⟨a, b, c, d, f, e :: r, lv, cl⟩ rfl (by simp at hl; omega)
    simp only [pt] at h61
    cases he : e.2.2 with
    | true =>
      rw [iter_inr (e := (a, b, c, d, f, r.reverse, lv, cl)) (by simp only [h61, Option.bind_some, he]; rfl)]
      unfold popIso
      rw [if_pos he]
    | false =>
      rw [iter_inl (s' := (a, b, c, d, f, r.reverse, lv, cl)) (by simp only [h61, Option.bind_some, he]; rfl)]
      rw [popIso_loop r a b c d f lv cl (by unfold isos at h; rw [he] at h; simpa using h) (by simp at hl; omega)]
      conv => rhs; unfold popIso
      rw [if_neg (by rw [he]; simp)]

theorem f56_eq {k m : Nat} {s : St} (h : SInv k m s) (hk : k ≤ 100000) : G.f56F (pt s) = some (pt s.fin) := by
  have hl := h.len
  have hvn := h.vn
  have hv := isos_le s.st
  unfold G.f56F
  simp only [pt]
  by_cases h1 : s.li > 0
  · rw [if_pos (by rw [decide_eq_true_eq]; exact h1), wrap_i64 (by omega) (by have := h.li1; omega)]
    unfold St.fin
    rw [if_pos h1]
  · rw [if_neg (by rw [decide_eq_true_eq]; exact h1)]
    by_cases h2 : s.v > 0
    · rw [if_pos (by rw [decide_eq_true_eq]; exact h2), wrap_i64 (by omega) (by omega), popIso_loop _ _ _ _ _ _ _ _ (by omega) (by omega)]
      unfold St.fin
      rw [if_neg h1, if_pos h2]
      rfl
    · rw [if_neg (by rw [decide_eq_true_eq]; exact h2)]
      unfold St.fin
      rw [if_neg h1, if_neg h2]
end Go.Sx
