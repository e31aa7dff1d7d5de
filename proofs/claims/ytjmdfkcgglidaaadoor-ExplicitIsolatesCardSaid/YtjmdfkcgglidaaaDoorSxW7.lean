import Derived.Test.YtjmdfkcgglidaaaDoorSxW6
set_option linter.unusedVariables false
set_option linter.unusedSimpArgs false
namespace Go.Sx

theorem f47_top {k m : Nat} {s : St} (h : SInv k m s) (hk : k ≤ 100000) (a b c d f : Int) (x y z : List Int) : G.f47F (a, s.st.reverse, b, c, d, f, x, y, z) = some s.top := by
  obtain ⟨e, r, hs⟩ := h.ne
  have hl := h.len
  rw [hs] at hl
  have hr : r.length ≤ 1000000 := by simp at hl; omega
  unfold St.top G.f47F
  rw [hs]
  simp only [last_rev e r hr]
  rw [if_pos (by simp; omega), Int.toNat_natCast, getD_rev]
  rfl

theorem f57_eq (e : Ent) (l : List Int) (s : St) (h : s.st.length ≤ 1000000) : G.f57F (e, rt l s) = some (rt l (s.push e)) := by
  unfold G.f57F
  simp only [rt]
  rw [if_pos (by unfold roomOk; simp; omega), if_pos (by unfold roomOk; simp; omega)]
  simp [St.push, Int.max_def]
  omega

theorem f42_eq (l : List Int) (s : St) : G.f42F (rt l s) = some (rt l s.reset) := by
  have h57 := f57_eq (s.base, -1, false) l { s with st := [] } (by simp)
  simp only [rt, List.reverse_nil] at h57
  unfold G.f42F
  simp only [rt, h57, Option.bind_some]
  simp [St.push, St.reset]

theorem f59_eq (e : Ent) (r : List Ent) (l : List Int) (s : St) (hs : s.st = e :: r) (h : r.length ≤ 1000000) : G.f59F (rt l s) = some (rt l { s with st := r }) := by
  unfold G.f59F
  simp only [rt, hs, last_rev e r h]
  rw [if_pos (by simp; omega), Int.toNat_natCast, take_rev]

theorem f29_eq (level dir : Int) (h0 : 0 ≤ level) (h1 : level ≤ 125) : G.f29F (level, dir) = some (nextS level dir) := by
  unfold G.f29F nextS
  simp only []
  rw [if_neg (by rw [decide_eq_true_eq]; omega)]
  simp only [Option.bind_some]
  rw [if_neg (by rw [decide_eq_true_eq]; omega), wrap_i64 (by omega) (by omega)]
  have key : ∀ odd : Int, odd = 0 ∨ odd = 1 → iter (fun (s3 : Int) => if (Int.tmod s3 2 != odd) = true then some (Sum.inl (IntKind.i64.wrap (s3 + 1))) else some (Sum.inr s3)) (level + 1) =
      some (if (level + 1) % 2 = odd then level + 1 else level + 2) := by
    intro odd ho
    by_cases hm : (level + 1) % 2 = odd
    · rw [iter_inr (e := level + 1) (by rw [Int.tmod_eq_emod_of_nonneg (by omega), if_neg (by rw [bne_iff_ne]; exact fun h => h hm)]), if_pos hm]
    · rw [iter_inl (s' := level + 2) (by rw [Int.tmod_eq_emod_of_nonneg (by omega), if_pos (by rw [bne_iff_ne]; exact hm), wrap_i64 (by omega) (by omega)]; congr 2; omega),
        iter_inr (e := level + 2) (by rw [Int.tmod_eq_emod_of_nonneg (by omega), if_neg (by rw [bne_iff_ne]; omega)]), if_neg hm]
  by_cases hd : dir = 1
  · rw [if_pos (by rw [beq_iff_eq]; exact hd), if_pos hd]
    simp only [Option.bind_some, key 1 (.inr rfl)]
    congr 1
    split <;> omega
  · rw [if_neg (by rw [beq_iff_eq]; exact hd), if_neg hd]
    simp only [Option.bind_some, key 0 (.inl rfl)]
    congr 1
    split <;> omega

theorem f29_none (level dir : Int) (h : level < 0 ∨ 125 < level) : G.f29F (level, dir) = some (-1) := by
  unfold G.f29F
  simp only []
  by_cases h0 : level < 0
  · rw [if_pos (by rw [decide_eq_true_eq]; exact h0)]; rfl
  · rw [if_neg (by rw [decide_eq_true_eq]; exact h0)]
    simp only [Option.bind_some]
    rw [if_pos (by rw [decide_eq_true_eq]; omega)]

theorem f58_eq (s : St) (st : List Ent) (x y z : List Int) (a b c n : Int) : G.f58F ((a, st, s.li, s.le, b, c, x, y, z), n) = some (decide (s.fits n)) := by
  unfold G.f58F St.fits
  simp only []
  by_cases h1 : n ≤ 125
  · rw [if_pos (by rw [decide_eq_true_eq]; exact h1)]
    by_cases h2 : s.li = 0
    · rw [if_pos (by rw [beq_iff_eq]; exact h2)]
      by_cases h3 : s.le = 0
      · simp [h1, h2, h3]
      · simp [h1, h2, h3]
    · rw [if_neg (by rw [beq_iff_eq]; exact h2)]
      simp [h2]
  · rw [if_neg (by rw [decide_eq_true_eq]; exact h1)]
    simp [h1]

theorem f48_eq {k m : Nat} {s : St} (h : SInv k m s) (hk : k ≤ 100000) (hm : m ≤ 100000) (c : Int) (l : List Int) : G.f48F (c, rt l s) = some (rt l (s.place c)) := by
  have h1 := h.lv
  have h2 := h.cl
  have ho := h.ov _ (top_mem h)
  unfold G.f48F
  simp only [rt, f47_top h hk, Option.bind_some]
  rw [if_pos (by unfold roomOk; simp; omega)]
  by_cases hc : s.top.2.1 ≥ 0
  · rw [if_pos (by rw [decide_eq_true_eq]; exact hc)]
    simp only [Option.bind_some]
    rw [if_pos (by unfold roomOk; simp; omega)]
    simp only [St.place, St.tell]
    rw [if_pos (by omega)]
  · rw [if_neg (by rw [decide_eq_true_eq]; exact hc)]
    simp only [Option.bind_some]
    rw [if_pos (by unfold roomOk; simp; omega)]
    simp only [St.place, St.tell]
    rw [if_neg (by omega)]

theorem f43_eq {k m : Nat} {s : St} (h : SInv k m s) (hk : k ≤ 100000) (hm : m ≤ 100000) (c : Int) (hc : c = 14 ∨ c = 15 ∨ c = 16 ∨ c = 17) (l : List Int) :
    G.f43F (c, rt l s) = some (rt l ((s.tell s.top.1 c).embed (if c = 16 ∨ c = 17 then 1 else 0) (if c = 15 then 0 else if c = 17 then 1 else -1))) := by
  have h1 := h.lv
  have h2 := h.cl
  have hl := h.len
  have ht := h.lev _ (top_mem h)
  have hle := h.le1
  have hle0 := h.le0
  unfold G.f43F
  simp only [rt, f47_top h hk, Option.bind_some]
  rw [if_pos (by unfold roomOk; simp; omega), if_pos (by unfold roomOk; simp; omega)]
  have e57 : ∀ e, G.f57F (e, rt l (s.tell s.top.1 c)) = some (rt l ((s.tell s.top.1 c).push e)) := fun e => f57_eq e l _ (by simp only [St.tell]; omega)
  simp only [rt, St.tell] at e57
  have e58 := fun n => f58_eq s s.st.reverse (s.lv ++ [s.top.1]) (s.cl ++ [c]) l s.base s.v s.most n
  have emb : ∀ dir over, (s.tell s.top.1 c).embed dir over = if s.fits (nextS s.top.1 dir) then (s.tell s.top.1 c).push (nextS s.top.1 dir, over, false) else if s.li = 0 then { s.tell s.top.1 c with le := s.le + 1 } else s.tell s.top.1 c := fun _ _ => rfl
  rcases hc with rfl | rfl | rfl | rfl
  all_goals
    simp only [Int.reduceBEq, Int.reduceEq, reduceIte, Option.bind_some, Bool.false_eq_true, f47_top h hk, f29_eq _ _ ht.1 ht.2, e58, or_true, true_or, or_self]
    rw [emb]
    have hwr := wrap_i64 (show -9223372036854775808 ≤ s.le + 1 by omega) (show s.le + 1 ≤ 9223372036854775807 by omega)
    have hbe : (s.li == (0 : Int)) = decide (s.li = 0) := rfl
    by_cases h0 : s.li = 0
    · by_cases hf : s.fits (nextS s.top.1 0) <;> by_cases hf1 : s.fits (nextS s.top.1 1) <;>
        simp only [hf, hf1, decide_true, decide_false, if_true, if_false, e57, Option.bind_some, Bool.false_eq_true, St.tell, if_pos h0, hbe, decide_eq_true h0, hwr] <;> rfl
    · by_cases hf : s.fits (nextS s.top.1 0) <;> by_cases hf1 : s.fits (nextS s.top.1 1) <;>
        simp only [hf, hf1, decide_true, decide_false, if_true, if_false, e57, Option.bind_some, Bool.false_eq_true, St.tell, if_neg h0, hbe, decide_eq_false h0, hwr] <;> rfl
end Go.Sx
