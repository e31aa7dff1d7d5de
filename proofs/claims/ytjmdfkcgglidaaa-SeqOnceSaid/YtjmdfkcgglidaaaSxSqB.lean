/- Seq: 'SeqRuns'. -/
import Derived.Test.YtjmdfkcgglidaaaSxSqA
set_option linter.unusedVariables false
set_option linter.unusedSimpArgs false
namespace Go.Sx

/-- A loop from a number to another. -/
theorem iter_between {E : Type} (a b : Int) (hab : a ≤ b) (e : E) (f : Int → Option (Int ⊕ E)) (h : ∀ i, a ≤ i → i < b → f i = some (.inl (i + 1))) (he : f b = some (.inr e)) : iter f a = some e := by
  refine some_of (iter_rule (I := fun s => a ≤ s ∧ s ≤ b) (Q := fun r => r = e) (fun s => (b - s).toNat) ?_ _ ⟨Int.le_refl _, hab⟩)
  rintro s ⟨h1, h2⟩
  by_cases hs : s < b
  · exact .inl ⟨_, h s h1 hs, ⟨by omega, by omega⟩, by omega⟩
  · have : s = b := by omega
    subst this
    exact .inr ⟨_, he, rfl⟩

theorem RF.in_run {c : List Int} {R : List (List Int)} (h : RF c R) {k : Nat} (hk : k < R.length) {p : Int} (hp : p ∈ R.getD k []) : fstR R k ≤ p ∧ p ≤ lstR R k := by
  obtain ⟨h1, h2, h3⟩ := h.run hk
  have hasc := (List.pairwise_flatten.1 h.asc).1 _ h1
  obtain ⟨m, hm, rfl⟩ := List.mem_iff_getElem.1 hp
  unfold fstR lstR
  rw [getD_at 0 h3, getD_at 0 (by omega)]
  constructor
  · by_cases h0 : m = 0
    · subst h0; omega
    · have := List.pairwise_iff_getElem.1 hasc 0 m h3 hm (by omega)
      omega
  · by_cases h0 : m = (R.getD k []).length - 1
    · subst h0; omega
    · have := List.pairwise_iff_getElem.1 hasc m ((R.getD k []).length - 1) hm (by omega) (by omega)
      omega

theorem run_of {c v : List Int} {p : Int} (hp : p ∈ seenS c) : ∃ j, j < (runsS c v).length ∧ p ∈ (runsS c v).getD j [] := by
  have h := (runsL_ok (brkS c v) (seenS c)).all
  have h2 : p ∈ (runsS c v).flatten := by unfold runsS; rw [h]; exact hp
  obtain ⟨r, h3, h4⟩ := List.mem_flatten.1 h2
  obtain ⟨j, hj, rfl⟩ := List.mem_iff_getElem.1 h3
  exact ⟨j, hj, by rw [getD_at [] hj]; exact h4⟩

/-- The end of the run ahead. -/
def prevE (R : List (List Int)) : Nat → Int
  | 0 => -1
  | k + 1 => lstR R k

theorem seen_of {c : List Int} {i : Int} (h0 : 0 ≤ i) (h1 : i < c.length) (ho : outC (c.getD i.toNat 0) = false) : i ∈ seenS c :=
  sN_mem.2 ⟨i.toNat, by omega, by omega, ho⟩

theorem prevE_lt {c : List Int} {R : List (List Int)} (h : RF c R) {k : Nat} (hk : k < R.length) : -1 ≤ prevE R k ∧ prevE R k < fstR R k := by
  obtain ⟨j, hj, _⟩ := seen_mem (h.fst_seen hk)
  cases k with
  | zero => exact ⟨Int.le_refl _, by show (-1 : Int) < _; omega⟩
  | succ k =>
    obtain ⟨j2, hj2, _⟩ := seen_mem (h.lst_seen (k := k) (by omega))
    exact ⟨by show -1 ≤ lstR R k; omega, h.lst_lt (by omega) hk⟩

theorem gap_out {c v : List Int} {k : Nat} (hk : k < (runsS c v).length) {i : Int} (h1 : prevE (runsS c v) k < i) (h2 : i < fstR (runsS c v) k) : outC (c.getD i.toNat 0) = true := by
  have hR := runsS_rf c v
  have hp := prevE_lt hR hk
  obtain ⟨j0, hj0, hj1, _⟩ := seen_mem (hR.fst_seen hk)
  cases ho : outC (c.getD i.toNat 0) with
  | true => rfl
  | false =>
    obtain ⟨j, hj, hm⟩ := run_of (v := v) (seen_of (by omega) (by omega) ho)
    have hb := hR.in_run hj hm
    rcases Nat.lt_or_ge j k with hjk | hjk
    · cases k with
      | zero => omega
      | succ k =>
        have : lstR (runsS c v) j ≤ lstR (runsS c v) k := by
          rcases Nat.lt_or_ge j k with h3 | h3
          · have := hR.lst_lt h3 (show k < _ by omega)
            have := hR.fst_le (show k < _ by omega)
            omega
          · have : j = k := by omega
            subst this; omega
        have : prevE (runsS c v) (k + 1) = lstR (runsS c v) k := rfl
        omega
    · rcases Nat.lt_or_ge k j with h3 | h3
      · have := hR.lst_lt h3 hj
        have := hR.fst_le hk
        omega
      · have : j = k := by omega
        subst this; omega

theorem in_ok {c v : List Int} {k : Nat} (hk : k < (runsS c v).length) {i : Int} (h1 : fstR (runsS c v) k ≤ i) (h2 : i ≤ lstR (runsS c v) k) (ho : outC (c.getD i.toNat 0) = false) :
    v.getD i.toNat 0 = v.getD (fstR (runsS c v) k).toNat 0 ∧ (c.getD i.toNat 0 = 10 → i = lstR (runsS c v) k) := by
  have hR := runsS_rf c v
  obtain ⟨j0, hj0, hj1, _⟩ := seen_mem (hR.fst_seen hk)
  obtain ⟨j2, hj2, hj3, _⟩ := seen_mem (hR.lst_seen hk)
  obtain ⟨j, hj, hm⟩ := run_of (v := v) (seen_of (by omega) (by omega) ho)
  have hb := hR.in_run hj hm
  have hjk : j = k := by
    rcases Nat.lt_trichotomy j k with h3 | h3 | h3
    · have := hR.lst_lt h3 hk; omega
    · exact h3
    · have := hR.lst_lt h3 hj; omega
  subst hjk
  obtain ⟨g1, g2, g3⟩ := hR.run hj
  have hw := (runsL_ok (brkS c v) (seenS c)).within _ g1
  obtain ⟨m, hml, rfl⟩ := List.mem_iff_getElem.1 hm
  unfold fstR lstR
  constructor
  · have : ∀ m (hm : m < ((runsS c v).getD j []).length), v.getD (((runsS c v).getD j [])[m]).toNat 0 = v.getD (((runsS c v).getD j []).getD 0 0).toNat 0 := by
      intro m
      induction m with
      | zero => intro hm; rw [getD_at 0 hm]
      | succ m ih =>
        intro hm
        have := hw m _ _ (List.getElem?_eq_getElem (by omega)) (List.getElem?_eq_getElem hm)
        unfold brkS at this
        simp only [Bool.or_eq_false_iff] at this
        have h5 := this.1
        simp only [bne_eq_false_iff_eq] at h5
        rw [h5, ih (by omega)]
    exact this m hml
  · intro h10
    rw [getD_at 0 (by omega)]
    by_cases hl : m + 1 < ((runsS c v).getD j []).length
    · have := hw m _ _ (List.getElem?_eq_getElem hml) (List.getElem?_eq_getElem hl)
      unfold brkS at this
      simp only [Bool.or_eq_false_iff] at this
      rw [h10] at this
      exact absurd this.2 (by decide)
    · have : m = ((runsS c v).getD j []).length - 1 := by omega
      subst this; rfl

theorem ends_get {R : List (List Int)} {k : Nat} (hk : k < R.length) : (endsS R).getD k (List.replicate 2 0) = [fstR R k, lstR R k] := by
  unfold endsS
  rw [getD_at _ (by simpa using hk)]
  simp only [List.getElem_map]
  unfold fstR lstR
  rw [getD_at [] hk]

theorem seqRuns_pure (x : List Int × List Int) (h : wfTup [.sl (.int .i64), .sl (.int .i64)] x) : Q.f5F x = some true := by
  obtain ⟨c, v⟩ := x
  unfold Q.f5F
  rw [aliveQ]
  simp only [Option.bind_some, Bool.not_true, Bool.false_eq_true, if_false, decide_eq_true_eq]
  by_cases hc : (c.length : Int) > 300
  · rw [if_pos hc]; rfl
  rw [if_neg hc]
  simp only [Option.bind_some, decide_eq_true_eq]
  by_cases hv : (v.length : Int) > 300
  · rw [if_pos hv]
  rw [if_neg hv, f11_eq (by omega)]
  simp only [Option.bind_some]
  by_cases hcv : c.length = v.length
  rotate_left
  · rw [if_neg hcv, if_pos (by simpa using fun e : (c.length : Int) = v.length => hcv (by omega))]
    rfl
  rw [if_pos hcv, if_neg (by simp; omega)]
  have hR := runsS_rf c v
  have hbt := (runsL_ok (brkS c v) (seenS c)).between
  have hcount := hR.count
  have hel : (endsS (runsS c v)).length = (runsS c v).length := by simp [endsS]
  refine some_of (bind_ex (Q := fun e => e = .inl ()) (iter_rule (I := fun (s : Int × Int) => ∃ k : Nat, k ≤ (runsS c v).length ∧ s = (prevE (runsS c v) k, (k : Int))) (fun s => ((runsS c v).length - s.2).toNat) ?_ _ ⟨0, Nat.zero_le _, rfl⟩) fun e he => ⟨true, by rw [he]; rfl, rfl⟩)
  rintro _ ⟨k, hk, rfl⟩
  by_cases hkl : k < (runsS c v).length
  rotate_left
  · have : k = (runsS c v).length := by omega
    right
    dsimp only
    rw [if_neg (by rw [hel]; omega)]
    exact ⟨_, rfl, rfl⟩
  left
  have hw : IntKind.i64.wrap ((k : Int) + 1) = ((k + 1 : Nat) : Int) := by rw [wrap_i64 (by omega) (by omega)]; omega
  have hpe := prevE_lt hR hkl
  have hfl := hR.fst_le hkl
  obtain ⟨jf, hjf, hjf1, hjf2⟩ := seen_mem (hR.fst_seen hkl)
  obtain ⟨jl, hjl, hjl1, hjl2⟩ := seen_mem (hR.lst_seen hkl)
  have hgap : ∀ i, prevE (runsS c v) k < i → i < fstR (runsS c v) k → outC (c.getD i.toNat 0) = true := fun i => gap_out hkl
  have hin : ∀ i, fstR (runsS c v) k ≤ i → i ≤ lstR (runsS c v) k → outC (c.getD i.toNat 0) = false → _ := fun i => in_ok hkl
  have hbtk : 0 < k → (v.getD (prevE (runsS c v) k).toNat 0 == v.getD (fstR (runsS c v) k).toNat 0) = true → c.getD (prevE (runsS c v) k).toNat 0 = 10 := by
    intro hk0 he
    obtain ⟨m, rfl⟩ : ∃ m, k = m + 1 := ⟨k - 1, by omega⟩
    have hm : m < (runsS c v).length := by omega
    obtain ⟨a1, a2, a3⟩ := hR.run hm
    obtain ⟨b1, b2, b3⟩ := hR.run hkl
    have e1 : ((runsS c v).getD m []).getLast? = some (lstR (runsS c v) m) := by
      unfold lstR
      rw [getD_at 0 (by omega), List.getLast?_eq_getElem?, List.getElem?_eq_getElem (by omega)]
    have e2 : ((runsS c v).getD (m + 1) []).head? = some (fstR (runsS c v) (m + 1)) := by
      unfold fstR
      rw [getD_at 0 b3, List.head?_eq_getElem?, List.getElem?_eq_getElem b3]
    have h1 : (runsS c v)[m]? = some ((runsS c v).getD m []) := by rw [getD_at [] hm]; exact List.getElem?_eq_getElem hm
    have h2 : (runsS c v)[m + 1]? = some ((runsS c v).getD (m + 1) []) := by rw [getD_at [] hkl]; exact List.getElem?_eq_getElem hkl
    have := hbt m _ _ _ _ h1 h2 e1 e2
    unfold brkS at this
    have he' : (v.getD (lstR (runsS c v) m).toNat 0 == v.getD (fstR (runsS c v) (m + 1)).toNat 0) = true := he
    rw [beq_iff_eq] at he'
    rw [he', bne_self_eq_false, Bool.false_or, beq_iff_eq] at this
    exact this
  have hprev : 0 < k → 0 ≤ prevE (runsS c v) k := by
    intro hk0
    obtain ⟨m, rfl⟩ : ∃ m, k = m + 1 := ⟨k - 1, by omega⟩
    obtain ⟨j2, hj2, _⟩ := seen_mem (hR.lst_seen (k := m) (by omega))
    show 0 ≤ lstR (runsS c v) m
    omega
  have hnext : prevE (runsS c v) (k + 1) = lstR (runsS c v) k := rfl
  have hg := ends_get hkl
  rw [hjf] at hgap hin hbtk hpe hfl hg
  rw [hjl] at hin hfl hg hnext
  simp only [Int.toNat_natCast] at hin hbtk
  generalize prevE (runsS c v) k = p at *
  generalize hE : endsS (runsS c v) = E at *
  have g0 : (0 : Int) ≤ 0 ∧ (0 : Int) < ((2 : Nat) : Int) := by decide
  have g1 : (0 : Int) ≤ 1 ∧ (1 : Int) < ((2 : Nat) : Int) := by decide
  have t0 : [(jf : Int), (jl : Int)].getD (Int.toNat 0) 0 = jf := rfl
  have t1 : [(jf : Int), (jl : Int)].getD (Int.toNat 1) 0 = jl := rfl
  dsimp only
  rw [if_pos (by omega), if_pos (by omega), if_pos g0, if_pos (by omega), if_pos g1]
  simp only [Int.toNat_natCast, hg, t0, t1, f17_eq, hw]
  rw [if_neg (by omega), if_neg (by omega), if_neg (by omega), if_pos (by omega)]
  simp only [Option.bind_some, hjf2, hjl2, Bool.false_eq_true, if_false]
  rw [if_pos (by omega)]
  simp only [Option.bind_some, Bool.false_eq_true, if_false]
  rw [wrap_i64 (by omega) (by omega), iter_between (p + 1) jf (by omega) (.inl ()) _ ?_ ?_]
  · simp only [Option.bind_some, Sum.elim_inl]
    rw [iter_between jf ((jl : Int) + 1) (by omega) (.inl ()) _ ?_ ?_]
    · simp only [Option.bind_some, Sum.elim_inl]
      refine ⟨(jl, ((k + 1 : Nat) : Int)), ?_, ⟨k + 1, hkl, by rw [hnext]⟩, by simp; omega⟩
      by_cases hk0 : 0 < k
      · have := hprev hk0
        rw [if_pos (by omega), if_pos (by omega), if_pos (by omega)]
        cases hb : (v.getD p.toNat 0 == v.getD jf 0) with
        | false => rfl
        | true =>
          rw [if_pos rfl, if_pos (by omega), hbtk hk0 hb]; rfl
      · rw [if_neg (by omega)]
        rfl
    · intro i h1 h2
      have hi := hin i h1 (by omega)
      rw [if_pos (by omega), if_pos (by omega), wrap_i64 (by omega) (by omega)]
      cases ho : outC (c.getD i.toNat 0) with
      | true => rfl
      | false =>
        obtain ⟨e1, e2⟩ := hi ho
        simp only [Bool.not_false, if_true]
        rw [if_pos (by omega), if_pos (by omega), e1, if_neg (by simp), if_pos (by omega)]
        cases h10 : (c.getD i.toNat 0 == 10) with
        | false => rfl
        | true =>
          have := e2 (by simpa using h10)
          rw [this]; simp
    · rw [if_neg (by omega)]
  · intro i h1 h2
    rw [if_pos (by omega), if_pos (by omega), hgap i (by omega) (by omega), wrap_i64 (by omega) (by omega)]
    rfl
  · rw [if_neg (by omega)]
end Go.Sx
