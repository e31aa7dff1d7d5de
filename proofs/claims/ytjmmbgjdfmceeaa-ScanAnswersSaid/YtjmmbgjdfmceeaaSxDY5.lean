/- Sim, plain: what is reached, the program's and the reference's. -/
import Derived.Test.YtjmmbgjdfmceeaaSxDY4
set_option linter.unusedVariables false
set_option linter.unusedSimpArgs false
namespace Go.Sx
theorem mkd_repl (n : Nat) (j : Int) : mkd (List.replicate n false) j = false := by
  unfold mkd
  simp only [List.getD_eq_getElem?_getD, List.getElem?_replicate]
  split <;> rfl
structure Marks (p : List Inst) (st sp : Bool) (A : List Int) (m : List Bool) : Prop where
  len : m.length = p.length
  iff : ∀ j, 0 ≤ j → (mkd m j = true ↔ Rch p st sp (· ∈ A) j)
theorem marks_of {p : List Inst} {st sp : Bool} {A : List Int} {m : List Bool} (hl : p.length ≤ m.length) (hA : ∀ a ∈ A, 0 ≤ a → a < p.length → mkd m a = true) (hr : ∀ j, 0 ≤ j → mkd m j = true → Rch p st sp (· ∈ A) j)
    (hc : ∀ j k, 0 ≤ j → mkd m j = true → Edg p st sp j k → mkd m k = true) (hp : rightS p = true) : ∀ j, 0 ≤ j → (mkd m j = true ↔ Rch p st sp (· ∈ A) j) := by
  intro j hj
  refine ⟨hr j hj, fun h => ?_⟩
  clear hj
  induction h with
  | base h1 h2 h3 => exact hA _ h1 h2 h3
  | step h1 h2 ih => exact hc _ _ (Rch_in hp h1).1 ih h2
theorem s43_ok {p : List Inst} {st sp : Bool} {A : List Int} (hp : rightS p = true) (hA : A.length ≤ 100000) : ∃ m, D.f43F (p, A, st, sp) = some (p, st, sp, (m.count true : Int), m) ∧ Marks p st sp A m := by
  obtain ⟨hn, hpos, _, _⟩ := rightS_all hp
  unfold D.f43F
  dsimp only
  rw [if_pos ⟨by omega, Int.le_refl _, by unfold roomOk; simp; omega⟩]
  suffices hh : ∃ r, Option.bind _ _ = some r ∧ ∃ m : List Bool, r = (p, st, sp, (m.count true : Int), m) ∧ Marks p st sp A m by
    obtain ⟨r, h1, m, rfl, h2⟩ := hh
    exact ⟨m, h1, h2⟩
  refine bind_ex (iter_rule (I := fun (s : Int × List Inst × Bool × Bool × Int × List Bool) => ∃ (i : Nat) (m : List Bool), s = ((i : Int), p, st, sp, (m.count true : Int), m) ∧ i ≤ A.length ∧ m.length = p.length ∧ (∀ a ∈ A.take i, 0 ≤ a → a < p.length → mkd m a = true) ∧ (∀ j, 0 ≤ j → mkd m j = true → Rch p st sp (· ∈ A) j) ∧ (∀ j k, 0 ≤ j → mkd m j = true → Edg p st sp j k → mkd m k = true))
    (Q := fun (e : List Inst × Bool × Bool × Int × List Bool) => ∃ m : List Bool, e = (p, st, sp, (m.count true : Int), m) ∧ Marks p st sp A m) (fun s => ((A.length : Int) - s.1).toNat) ?_ _
    ⟨0, List.replicate p.length false, by simp [List.count_replicate], Nat.zero_le _, by simp, fun a ha => (by simp at ha), fun j _ h => (by rw [mkd_repl] at h; cases h), fun j k _ h => (by rw [mkd_repl] at h; cases h)⟩) ?_
  · rintro _ ⟨i, m, rfl, hi, hl, h1, h2, h3⟩
    dsimp only
    by_cases hil : i < A.length
    · rw [if_pos (by rw [decide_eq_true_eq]; omega), if_pos (by omega), Int.toNat_natCast, getD_lt _ _ hil, wrap_i64 (by omega) (by omega)]
      obtain ⟨m2, q1, q2⟩ := add_ok (st := st) (sp := sp) hp (m.length - m.count true) D.fuel A[i] m hl (Nat.le_refl _) (by rw [hl]; unfold D.fuel; omega)
      have q1' : D.f72F (A[i], p, st, sp, (m.count true : Int), m) = some (p, st, sp, (m2.count true : Int), m2) := q1
      rw [q1']
      simp only [Option.bind_some]
      refine .inl ⟨_, rfl, ⟨i + 1, m2, rfl, hil, q2.len, fun a ha ha0 han => ?_, fun j hj hjm => ?_, fun j k hj hjm hjk => ?_⟩, by show ((A.length : Int) - ((i : Int) + 1)).toNat < ((A.length : Int) - (i : Int)).toNat; omega⟩
      · rw [List.take_succ_eq_append_getElem hil] at ha
        rcases List.mem_append.1 ha with ha | ha
        · exact q2.mono a ha0 (h1 a ha ha0 han)
        · simp at ha; subst ha; exact q2.self ha0 han
      · rcases q2.rch j hj hjm with h | h
        · exact h2 j hj h
        · exact h.sub fun a ha h0 hn => by subst ha; exact .base (List.getElem_mem hil) h0 hn
      · cases hb : mkd m j with
        | true => exact q2.mono k (Edg_in hp hjk).1 (h3 j k hj hb hjk)
        | false => exact q2.closed j k hj hjm hb hjk
    · rw [if_neg (by rw [decide_eq_true_eq]; omega)]
      rw [List.take_of_length_le (by omega)] at h1
      exact .inr ⟨_, rfl, m, rfl, hl, marks_of (by omega) h1 h2 h3 hp⟩
  · rintro _ ⟨m, rfl, h⟩
    exact ⟨_, rfl, m, rfl, h⟩
theorem s17_ok {p : List Inst} {st sp : Bool} {A : List Int} (hp : rightS p = true) (hA : A.length ≤ 100000) : ∃ m, D.f17F (p, A, st, sp) = some (risingS m) ∧ Marks p st sp A m := by
  obtain ⟨hn, _⟩ := rightS_all hp
  obtain ⟨m, h1, h2⟩ := s43_ok (st := st) (sp := sp) hp hA
  refine ⟨m, ?_, h2⟩
  unfold D.f17F
  dsimp only
  rw [s42_eq _ (by omega), hp]
  simp only [Option.bind_some, Bool.not_true, Bool.false_eq_true, if_false, h1]
  rw [s15_eq _ _ _ _ _ (by rw [h2.len]; omega)]
  rfl
def twoT (x : Inst) (st sp : Bool) (i : Int) : Int × Int := if x.1 = 2 then (x.2.2.1, x.2.2.2) else if x.1 = 3 then (x.2.2.1, i) else if (x.1 = 4 ∧ st = true) ∨ (x.1 = 5 ∧ sp = true) then (i + 1, i) else (i, i)
theorem twoT_tgt {x : Inst} {st sp : Bool} {i k : Int} (h : k ∈ tgt x st sp i) : k = (twoT x st sp i).1 ∨ k = (twoT x st sp i).2 := by
  unfold tgt at h
  unfold twoT
  split at h
  · rename_i e; rw [if_pos e]; simpa using h
  · rename_i e
    rw [if_neg e]
    split at h
    · rename_i e; rw [if_pos e]; exact .inl (by simpa using h)
    · rename_i e
      rw [if_neg e]
      split at h
      · rename_i e; rw [if_pos e]; exact .inl (by simpa using h)
      · simp at h
theorem twoT_edge {p : List Inst} {st sp : Bool} {i : Int} (h0 : 0 ≤ i) (h1 : i < p.length) : (Edg p st sp i (twoT (p.getD i.toNat dI) st sp i).1 ∨ (twoT (p.getD i.toNat dI) st sp i).1 = i) ∧ (Edg p st sp i (twoT (p.getD i.toNat dI) st sp i).2 ∨ (twoT (p.getD i.toNat dI) st sp i).2 = i) := by
  unfold Edg tgt twoT
  split
  · exact ⟨.inl ⟨h0, h1, by simp⟩, .inl ⟨h0, h1, by simp⟩⟩
  · split
    · exact ⟨.inl ⟨h0, h1, by simp⟩, .inr rfl⟩
    · split
      · exact ⟨.inl ⟨h0, h1, by simp⟩, .inr rfl⟩
      · exact ⟨.inr rfl, .inr rfl⟩
theorem s18_ok {p : List Inst} {st sp : Bool} {A : List Int} (hp : rightS p = true) (hA : A.length ≤ 100000) : ∃ m, D.f18F (p, A, st, sp) = some (risingS m) ∧ Marks p st sp A m := by
  obtain ⟨hn, hpos, _, _⟩ := rightS_all hp
  unfold D.f18F
  dsimp only
  rw [s26_eq _ (by omega), hp]
  simp only [Option.bind_some, Bool.not_true, Bool.false_eq_true, if_false]
  rw [wrap_i64 (by omega) (by omega), show (((p.length : Nat) : Int) + 1).toNat = p.length + 1 by omega, if_pos ⟨by omega, Int.le_refl _, by unfold roomOk; simp; omega⟩]
  suffices hh : ∃ r, Option.bind _ _ = some r ∧ ∃ m : List Bool, r = risingS m ∧ Marks p st sp A m by
    obtain ⟨r, h1, m, rfl, h2⟩ := hh
    exact ⟨m, h1, h2⟩
  -- the first ones
  refine bind_ex (iter_rule (I := fun (s : Int × List Bool) => ∃ (i : Nat) (m : List Bool), s = ((i : Int), m) ∧ i ≤ A.length ∧ m.length = p.length + 1 ∧ (∀ a ∈ A.take i, 0 ≤ a → a < p.length → mkd m a = true) ∧ (∀ j, 0 ≤ j → mkd m j = true → Rch p st sp (· ∈ A) j))
    (Q := fun (m : List Bool) => m.length = p.length + 1 ∧ (∀ a ∈ A, 0 ≤ a → a < p.length → mkd m a = true) ∧ (∀ j, 0 ≤ j → mkd m j = true → Rch p st sp (· ∈ A) j)) (fun s => ((A.length : Int) - s.1).toNat) ?_ _
    ⟨0, List.replicate (p.length + 1) false, rfl, Nat.zero_le _, by simp, fun a ha => (by simp at ha), fun j _ h => by rw [mkd_repl] at h; cases h⟩) ?_
  · rintro _ ⟨i, m, rfl, hi, hl, h1, h2⟩
    dsimp only
    by_cases hil : i < A.length
    · have hm : ((A.length : Int) - ((i : Int) + 1)).toNat < ((A.length : Int) - (i : Int)).toNat := by omega
      rw [if_pos (by rw [decide_eq_true_eq]; omega), if_pos (by omega), Int.toNat_natCast, getD_lt _ _ hil, wrap_i64 (by omega) (by omega)]
      by_cases hv : 0 ≤ A[i] ∧ A[i] < p.length
      · rw [if_pos (by rw [decide_eq_true_eq]; exact hv.1), if_pos (by omega), decide_eq_true hv.2]
        simp only [Option.bind_some, if_true]
        rw [if_pos (by omega), if_pos (by omega)]
        refine .inl ⟨_, rfl, ⟨i + 1, _, rfl, hil, by rw [List.length_set, hl], fun a ha ha0 han => ?_, fun j hj hjm => ?_⟩, hm⟩
        · rw [mkd_set hv.1 (by omega) ha0]
          split
          · rfl
          · rename_i e
            rw [List.take_succ_eq_append_getElem hil] at ha
            rcases List.mem_append.1 ha with ha | ha
            · exact h1 a ha ha0 han
            · simp at ha; exact absurd ha e
        · rw [mkd_set hv.1 (by omega) hj] at hjm
          split at hjm
          · rename_i e; subst e; exact .base (List.getElem_mem hil) hv.1 hv.2
          · exact h2 j hj hjm
      · have hh : (if decide (A[i] ≥ 0) = true then (if (0 : Int) ≤ (i : Int) ∧ (i : Int) < (A.length : Int) then some (decide (A[i] < (p.length : Int)), m) else none) else some (false, m)) = some (false, m) := by
          by_cases h0 : 0 ≤ A[i]
          · rw [if_pos (by rw [decide_eq_true_eq]; exact h0), if_pos (by omega), decide_eq_false (by omega)]
          · rw [if_neg (by rw [decide_eq_true_eq]; exact h0)]
        rw [hh]
        simp only [Option.bind_some, Bool.false_eq_true, if_false]
        refine .inl ⟨_, rfl, ⟨i + 1, _, rfl, hil, hl, fun a ha ha0 han => ?_, h2⟩, hm⟩
        rw [List.take_succ_eq_append_getElem hil] at ha
        rcases List.mem_append.1 ha with ha | ha
        · exact h1 a ha ha0 han
        · simp at ha; subst ha; exact absurd ⟨ha0, han⟩ hv
    · rw [if_neg (by rw [decide_eq_true_eq]; omega)]
      rw [List.take_of_length_le (by omega)] at h1
      exact .inr ⟨_, rfl, hl, h1, h2⟩
  rintro m0 ⟨hl0, ha0, hr0⟩
  -- over and over
  refine bind_ex (iter_rule (I := fun (s : Bool × List Bool) => s.2.length = p.length + 1 ∧ (∀ a ∈ A, 0 ≤ a → a < p.length → mkd s.2 a = true) ∧ (∀ j, 0 ≤ j → mkd s.2 j = true → Rch p st sp (· ∈ A) j) ∧ (s.1 = false → ∀ j k, 0 ≤ j → mkd s.2 j = true → Edg p st sp j k → mkd s.2 k = true))
    (Q := fun (m : List Bool) => m.length = p.length + 1 ∧ (∀ a ∈ A, 0 ≤ a → a < p.length → mkd m a = true) ∧ (∀ j, 0 ≤ j → mkd m j = true → Rch p st sp (· ∈ A) j) ∧ (∀ j k, 0 ≤ j → mkd m j = true → Edg p st sp j k → mkd m k = true))
    (fun s => (s.2.length - s.2.count true) + (if s.1 = true then 1 else 0)) ?_ _ ⟨hl0, ha0, hr0, fun h => by cases h⟩) ?_
  · rintro ⟨more, m⟩ ⟨hl, ha, hr, hc⟩
    dsimp only at hl ha hr hc ⊢
    cases more with
    | false =>
      rw [if_neg (by simp)]
      exact .inr ⟨_, rfl, hl, ha, hr, hc rfl⟩
    | true =>
      rw [if_pos rfl]
      refine stp_bind (R := fun (e : Bool × List Bool) => e.2.length = p.length + 1 ∧ (∀ a ∈ A, 0 ≤ a → a < p.length → mkd e.2 a = true) ∧ (∀ j, 0 ≤ j → mkd e.2 j = true → Rch p st sp (· ∈ A) j) ∧ (e.1 = false → ∀ j k, 0 ≤ j → mkd e.2 j = true → Edg p st sp j k → mkd e.2 k = true) ∧ m.count true ≤ e.2.count true ∧ (e.1 = true → m.count true < e.2.count true))
        (iter_rule (I := fun (s : Bool × Int × List Bool) => ∃ (b : Bool) (i : Nat) (m' : List Bool), s = (b, (i : Int), m') ∧ i ≤ p.length ∧ m'.length = p.length + 1 ∧ (∀ a ∈ A, 0 ≤ a → a < p.length → mkd m' a = true) ∧ (∀ j, 0 ≤ j → mkd m' j = true → Rch p st sp (· ∈ A) j) ∧ m.count true ≤ m'.count true ∧ (b = true → m.count true < m'.count true) ∧ (b = false → ∀ j k : Int, 0 ≤ j → j < (i : Int) → mkd m' j = true → Edg p st sp j k → mkd m' k = true))
          (fun s => ((p.length : Int) - s.2.1).toNat) ?_ _ ⟨false, 0, m, rfl, Nat.zero_le _, hl, ha, hr, Nat.le_refl _, fun h => (by cases h), fun _ j k h1 h2 => (by omega)⟩) ?_
      · rintro _ ⟨b, i, m', rfl, hi, hl', ha', hr', hc1, hc2, hc3⟩
        dsimp only
        by_cases hil' : p.length ≤ i
        · rw [if_neg (by rw [decide_eq_true_eq]; omega)]
          refine .inr ⟨_, rfl, hl', ha', hr', fun hb j k hj hjm hjk => hc3 hb j k hj ?_ hjm hjk, hc1, hc2⟩
          have := hjk.2.1
          omega
        have hil : i < p.length := by omega
        have hm : ((p.length : Int) - ((i : Int) + 1)).toNat < ((p.length : Int) - (i : Int)).toNat := by omega
        rw [if_pos (by rw [decide_eq_true_eq]; omega), if_pos (by omega), Int.toNat_natCast, wrap_i64 (by omega) (by omega)]
        cases hmi : m'.getD i false with
        | false =>
          rw [if_pos (by simp)]
          refine .inl ⟨_, rfl, ⟨b, i + 1, m', rfl, hil, hl', ha', hr', hc1, hc2, fun hb j k hj hji hjm hjk => ?_⟩, hm⟩
          by_cases e : j = i
          · subst e
            unfold mkd at hjm
            rw [Int.toNat_natCast, hmi] at hjm
            cases hjm
          · exact hc3 hb j k hj (by omega) hjm hjk
        | true =>
        rw [if_neg (by simp), if_pos (by omega)]
        have hmi' : mkd m' (i : Int) = true := by unfold mkd; rw [Int.toNat_natCast]; exact hmi
        have hri := hr' (i : Int) (by omega) hmi'
        obtain ⟨hE1, hE2⟩ := twoT_edge (st := st) (sp := sp) (i := (i : Int)) (p := p) (by omega) (by omega)
        have hT : ∀ k, Edg p st sp i k → k = (twoT (p.getD i dI) st sp i).1 ∨ k = (twoT (p.getD i dI) st sp i).2 := fun k hk => by
          have := twoT_tgt hk.2.2
          rw [Int.toNat_natCast] at this
          exact this
        rw [Int.toNat_natCast] at hE1 hE2
        have hab : ∀ (R : Type) (k : Int × Int × List Bool → Option R), Option.bind (if ((p.getD i dI).1 == (2 : Int)) = true then
              (if (0 : Int) ≤ (i : Int) ∧ (i : Int) < (p.length : Int) then (if (0 : Int) ≤ (i : Int) ∧ (i : Int) < (p.length : Int) then some ((p.getD i dI).2.2.1, (p.getD i dI).2.2.2, m') else none) else none)
            else (if (0 : Int) ≤ (i : Int) ∧ (i : Int) < (p.length : Int) then (if ((p.getD i dI).1 == (3 : Int)) = true then (if (0 : Int) ≤ (i : Int) ∧ (i : Int) < (p.length : Int) then some ((p.getD i dI).2.2.1, (i : Int), m') else none)
              else Option.bind (Option.bind (if (0 : Int) ≤ (i : Int) ∧ (i : Int) < (p.length : Int) then (if ((p.getD i dI).1 == (4 : Int)) = true then some (st, m') else some (false, m')) else none)
                fun (v5 : Bool × List Bool) => if v5.1 = true then some (true, v5.2) else (if (0 : Int) ≤ (i : Int) ∧ (i : Int) < (p.length : Int) then (if ((p.getD i dI).1 == (5 : Int)) = true then some (sp, v5.2) else some (false, v5.2)) else none))
                fun (v5 : Bool × List Bool) => if v5.1 = true then some ((i : Int) + 1, (i : Int), v5.2) else some ((i : Int), (i : Int), v5.2)) else none)) k = k ((twoT (p.getD i dI) st sp i).1, (twoT (p.getD i dI) st sp i).2, m') := by
          intro R k
          have hv : (0 : Int) ≤ (i : Int) ∧ (i : Int) < (p.length : Int) := by omega
          simp only [if_pos hv]
          generalize p.getD i dI = x
          obtain ⟨op, rs, to, alt⟩ := x
          unfold twoT
          dsimp only
          by_cases c2 : op = 2
          · subst c2; rfl
          by_cases c3 : op = 3
          · subst c3; rfl
          rw [if_neg (by rw [beq_iff_eq]; exact c2), if_neg (by rw [beq_iff_eq]; exact c3), if_neg c2, if_neg c3]
          by_cases c4 : op = 4
          · subst c4
            cases st with
            | true => rfl
            | false => rfl
          rw [if_neg (by rw [beq_iff_eq]; exact c4)]
          by_cases c5 : op = 5
          · subst c5
            cases sp with
            | true => rfl
            | false => rfl
          simp only [Option.bind_some, Bool.false_eq_true, if_false]
          rw [if_neg (by rw [beq_iff_eq]; exact c5), if_neg (by omega)]
          rfl
        rw [hab]
        dsimp only
        generalize twoT (p.getD i dI) st sp i = ab at *
        obtain ⟨a, b'⟩ := ab
        dsimp only at hE1 hE2 hT ⊢
        have hva : 0 ≤ a ∧ a < p.length := by rcases hE1 with h | h; exact Edg_in hp h; omega
        have hvb : 0 ≤ b' ∧ b' < p.length := by rcases hE2 with h | h; exact Edg_in hp h; omega
        have hra : Rch p st sp (· ∈ A) a := by rcases hE1 with h | h; exact .step hri h; rw [h]; exact hri
        have hrb : Rch p st sp (· ∈ A) b' := by rcases hE2 with h | h; exact .step hri h; rw [h]; exact hri
        have hmore : (if b = true then some (true, m') else (if (0 : Int) ≤ a ∧ a < (m'.length : Int) then (if (!m'.getD a.toNat false) = true then some (true, m') else (if (0 : Int) ≤ b' ∧ b' < (m'.length : Int) then some (!m'.getD b'.toNat false, m') else none)) else none)) = some (b || !mkd m' a || !mkd m' b', m') := by
          cases b with
          | true => rfl
          | false =>
            rw [if_neg (by simp), if_pos (by omega)]
            cases hx : mkd m' a with
            | false => unfold mkd at hx; rw [hx]; rfl
            | true =>
              unfold mkd at hx
              rw [hx, if_neg (by simp), if_pos (by omega)]
              rfl
        rw [hmore]
        simp only [Option.bind_some]
        rw [if_pos (by omega), List.length_set, if_pos (by omega)]
        -- the marks behind
        have hl1 : (m'.set a.toNat true).length = m'.length := List.length_set
        have hset : ∀ j, 0 ≤ j → mkd ((m'.set a.toNat true).set b'.toNat true) j = if j = b' then true else if j = a then true else mkd m' j := fun j hj => by
          rw [mkd_set hvb.1 (by rw [hl1]; omega) hj]
          split
          · rfl
          · rw [mkd_set hva.1 (by omega) hj]
        have hsub : ∀ j, 0 ≤ j → mkd m' j = true → mkd ((m'.set a.toNat true).set b'.toNat true) j = true := fun j hj h => by
          rw [hset j hj, h]; split; rfl; split <;> rfl
        have hcm : m'.count true ≤ ((m'.set a.toNat true).set b'.toNat true).count true := count_mono (by simp) fun j hj => by
          have := hsub (j : Int) (by omega)
          unfold mkd at this
          rw [Int.toNat_natCast] at this
          exact this hj
        refine .inl ⟨_, rfl, ⟨_, i + 1, _, rfl, hil, by simp [hl'], fun x hx h0 hn => hsub x h0 (ha' x hx h0 hn), fun j hj hjm => ?_, by omega, fun hb => ?_, fun hb j k hj hji hjm hjk => ?_⟩, hm⟩
        · rw [hset j hj] at hjm
          split at hjm
          · rename_i e; rw [e]; exact hrb
          · split at hjm
            · rename_i e; rw [e]; exact hra
            · exact hr' j hj hjm
        · cases b with
          | true => have := hc2 rfl; omega
          | false =>
            have h1 : ∀ x : Int, 0 ≤ x → x < p.length → mkd m' x = false → mkd ((m'.set a.toNat true).set b'.toNat true) x = true → m'.count true < ((m'.set a.toNat true).set b'.toNat true).count true := fun x h0 hn hx1 hx2 => by
              have k1 := count_set_true h0 (by omega) hx1
              have k2 : (m'.set x.toNat true).count true ≤ ((m'.set a.toNat true).set b'.toNat true).count true := count_mono (by simp) fun j hj => by
                have q : mkd (m'.set x.toNat true) (j : Int) = true := by unfold mkd; rw [Int.toNat_natCast]; exact hj
                rw [mkd_set h0 (by omega) (by omega)] at q
                have q2 : mkd ((m'.set a.toNat true).set b'.toNat true) (j : Int) = true := by
                  split at q
                  · rename_i e; rw [e]; exact hx2
                  · exact hsub _ (by omega) q
                unfold mkd at q2
                rw [Int.toNat_natCast] at q2
                exact q2
              omega
            cases hx : mkd m' a with
            | false => have := h1 a hva.1 hva.2 hx (by rw [hset a hva.1]; split; rfl; rw [if_pos rfl]); omega
            | true =>
              cases hy : mkd m' b' with
              | false => have := h1 b' hvb.1 hvb.2 hy (by rw [hset b' hvb.1, if_pos rfl]); omega
              | true => rw [hx, hy] at hb; cases hb
        · have hb3 : b = false ∧ mkd m' a = true ∧ mkd m' b' = true := by
            cases b <;> cases h1 : mkd m' a <;> cases h2 : mkd m' b' <;> rw [h1, h2] at hb <;> first | exact ⟨rfl, rfl, rfl⟩ | cases hb
          have hjm' : mkd m' j = true := by
            rw [hset j hj] at hjm
            split at hjm
            · rename_i e; rw [e]; exact hb3.2.2
            · split at hjm
              · rename_i e; rw [e]; exact hb3.2.1
              · exact hjm
          by_cases e : j = i
          · subst e
            rcases hT k hjk with h | h
            · rw [h]; exact hsub _ hva.1 hb3.2.1
            · rw [h]; exact hsub _ hvb.1 hb3.2.2
          · exact hsub k (Edg_in hp hjk).1 (hc3 hb3.1 j k hj (by omega) hjm' hjk)
      · rintro ⟨b, m'⟩ ⟨k1, k2, k3, k4, k5, k6⟩
        refine .inl ⟨_, rfl, ⟨k1, k2, k3, k4⟩, ?_⟩
        dsimp only at k1 k4 k5 k6 ⊢
        have hle : m'.count true ≤ m'.length := List.count_le_length
        cases b with
        | false => simp; omega
        | true => have := k6 rfl; simp; omega
  rintro m ⟨hl, ha, hr, hc⟩
  have hl' : (m.take p.length).length = p.length := by simp [hl]
  rw [if_pos (by omega), Int.toNat_natCast, s45_eq _ (by omega)]
  refine ⟨_, rfl, _, rfl, hl', fun j hj => ?_⟩
  rw [← marks_of (by omega) ha hr hc hp j hj]
  by_cases hjn : j < p.length
  · have e : mkd (m.take p.length) j = mkd m j := by
      unfold mkd
      simp only [List.getD_eq_getElem?_getD, List.getElem?_take]
      rw [if_pos (by omega)]
    rw [e]
  · constructor
    · intro h
      have := mkd_lt hj h
      omega
    · intro h
      have := Rch_in hp (hr j hj h)
      omega
end Go.Sx
