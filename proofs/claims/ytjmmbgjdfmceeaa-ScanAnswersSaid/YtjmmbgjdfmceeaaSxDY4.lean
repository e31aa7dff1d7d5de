/- Sim, plain: what is reached. -/
import Derived.Test.YtjmmbgjdfmceeaaSxDY3
set_option linter.unusedVariables false
set_option linter.unusedSimpArgs false
namespace Go.Sx
def tgt (x : Inst) (st sp : Bool) (i : Int) : List Int := if x.1 = 2 then [x.2.2.1, x.2.2.2] else if x.1 = 3 then [x.2.2.1] else if (x.1 = 4 ∧ st = true) ∨ (x.1 = 5 ∧ sp = true) then [i + 1] else []
def Edg (p : List Inst) (st sp : Bool) (i j : Int) : Prop := 0 ≤ i ∧ i < p.length ∧ j ∈ tgt (p.getD i.toNat dI) st sp i
inductive Rch (p : List Inst) (st sp : Bool) (A : Int → Prop) : Int → Prop
  | base {i} : A i → 0 ≤ i → i < p.length → Rch p st sp A i
  | step {i j} : Rch p st sp A i → Edg p st sp i j → Rch p st sp A j
theorem rightS_all {p : List Inst} (h : rightS p = true) : p.length ≤ 1000 ∧ 0 < p.length ∧ (p.getD (p.length - 1) dI).1 = 0 ∧ ∀ x ∈ p, goodI p.length x = true := by
  unfold rightS at h
  simp only [Bool.and_eq_true, decide_eq_true_eq, List.all_eq_true] at h
  exact ⟨h.1.1.2, List.length_pos_iff.2 h.1.1.1, h.1.2, h.2⟩
theorem Edg_in {p : List Inst} {st sp : Bool} {i j : Int} (hp : rightS p = true) (h : Edg p st sp i j) : 0 ≤ j ∧ j < p.length := by
  obtain ⟨h1, h2, h3, h4⟩ := rightS_all hp
  obtain ⟨h5, h6, h7⟩ := h
  have hi : i.toNat < p.length := by omega
  have hg := h4 _ (List.getElem_mem hi)
  rw [← getD_lt p dI hi] at hg
  unfold tgt at h7
  unfold goodI inR at hg
  split at h7
  · rename_i e
    rw [if_pos e] at hg
    simp only [Bool.and_eq_true, decide_eq_true_eq] at hg
    simp only [List.mem_cons, List.not_mem_nil, or_false] at h7
    rcases h7 with rfl | rfl
    · exact hg.1
    · exact hg.2
  · rename_i e
    rw [if_neg e] at hg
    split at h7
    · rename_i e3
      rw [if_pos e3] at hg
      simp only [Bool.and_eq_true, decide_eq_true_eq] at hg
      simp only [List.mem_cons, List.not_mem_nil, or_false] at h7
      subst h7
      exact hg
    · split at h7
      · rename_i e4
        simp only [List.mem_cons, List.not_mem_nil, or_false] at h7
        subst h7
        have : i.toNat ≠ p.length - 1 := by
          intro e
          rw [← e] at h3
          rcases e4 with e4 | e4 <;> omega
        omega
      · simp at h7
theorem Rch_in {p : List Inst} {st sp : Bool} {A : Int → Prop} {j : Int} (hp : rightS p = true) (h : Rch p st sp A j) : 0 ≤ j ∧ j < p.length := by
  cases h with
  | base _ h1 h2 => exact ⟨h1, h2⟩
  | step _ h => exact Edg_in hp h
theorem Rch.sub {p : List Inst} {st sp : Bool} {A B : Int → Prop} {j : Int} (h : Rch p st sp A j) (hAB : ∀ i, A i → 0 ≤ i → i < p.length → Rch p st sp B i) : Rch p st sp B j := by
  induction h with
  | base h1 h2 h3 => exact hAB _ h1 h2 h3
  | step _ h ih => exact .step ih h
def mkd (m : List Bool) (j : Int) : Bool := m.getD j.toNat false
theorem mkd_set {m : List Bool} {i j : Int} (hi : 0 ≤ i) (hl : i < m.length) (hj : 0 ≤ j) : mkd (m.set i.toNat true) j = if j = i then true else mkd m j := by
  unfold mkd
  simp only [List.getD_eq_getElem?_getD, List.getElem?_set]
  by_cases h : j = i
  · subst h
    rw [if_pos rfl, if_pos rfl, if_pos (by omega)]
    rfl
  · rw [if_neg (by omega), if_neg h]
theorem mkd_lt {m : List Bool} {j : Int} (hj : 0 ≤ j) (h : mkd m j = true) : j < m.length := by
  unfold mkd at h
  by_cases hl : j.toNat < m.length
  · omega
  · rw [getD_ge _ _ (by omega)] at h; cases h
theorem count_set_true {m : List Bool} {i : Int} (hi : 0 ≤ i) (hl : i < m.length) (h : mkd m i = false) : (m.set i.toNat true).count true = m.count true + 1 := by
  have hl' : i.toNat < m.length := by omega
  rw [List.count_set hl']
  unfold mkd at h
  rw [getD_lt _ _ hl'] at h
  simp [h]
theorem count_mono : ∀ {a b : List Bool}, a.length = b.length → (∀ i : Nat, a.getD i false = true → b.getD i false = true) → a.count true ≤ b.count true
  | [], b, _, _ => by simp
  | x :: a, [], h, _ => by simp at h
  | x :: a, y :: b, h, hab => by
    have h1 := count_mono (a := a) (b := b) (by simpa using h) fun i hi => by simpa using hab (i + 1) (by simpa using hi)
    have h2 := hab 0
    simp only [List.count_cons]
    cases x with
    | false => simp; omega
    | true =>
      have : y = true := by simpa using h2 (by simp)
      subst this
      simp; omega
structure Part (p : List Inst) (st sp : Bool) (i : Int) (m : List Bool) (i' : Int) (m' : List Bool) : Prop where
  len : m'.length = p.length
  mono : ∀ j, 0 ≤ j → mkd m j = true → mkd m' j = true
  self : 0 ≤ i → i < p.length → mkd m' i = true ∨ i' = i
  rch : ∀ j, 0 ≤ j → mkd m' j = true → mkd m j = true ∨ Rch p st sp (· = i) j
  cur : 0 ≤ i' → i' < p.length → Rch p st sp (· = i) i'
  closed : ∀ j k, 0 ≤ j → mkd m' j = true → mkd m j = false → Edg p st sp j k → mkd m' k = true ∨ k = i'
structure Added (p : List Inst) (st sp : Bool) (i : Int) (m m' : List Bool) : Prop where
  len : m'.length = p.length
  mono : ∀ j, 0 ≤ j → mkd m j = true → mkd m' j = true
  self : 0 ≤ i → i < p.length → mkd m' i = true
  rch : ∀ j, 0 ≤ j → mkd m' j = true → mkd m j = true ∨ Rch p st sp (· = i) j
  closed : ∀ j k, 0 ≤ j → mkd m' j = true → mkd m j = false → Edg p st sp j k → mkd m' k = true
theorem Part.done {p : List Inst} {st sp : Bool} {i i' : Int} {m m' : List Bool} (hp : rightS p = true) (h : Part p st sp i m i' m') (hd : 0 ≤ i' → i' < p.length → mkd m' i' = true) : Added p st sp i m m' where
  len := h.len
  mono := h.mono
  self := fun h1 h2 => by
    rcases h.self h1 h2 with h3 | h3
    · exact h3
    · subst h3; exact hd h1 h2
  rch := h.rch
  closed := fun j k h1 h2 h3 h4 => by
    rcases h.closed j k h1 h2 h3 h4 with h5 | h5
    · exact h5
    · subst h5; exact hd (Edg_in hp h4).1 (Edg_in hp h4).2
theorem Part.next {p : List Inst} {st sp : Bool} {i i' i2 : Int} {m m' m2 : List Bool} (hp : rightS p = true) (h : Part p st sp i m i' m') (h0 : 0 ≤ i') (h1 : i' < p.length) (hm : mkd m' i' = false)
    (len2 : m2.length = p.length) (mono2 : ∀ j, 0 ≤ j → mkd (m'.set i'.toNat true) j = true → mkd m2 j = true) (rch2 : ∀ j, 0 ≤ j → mkd m2 j = true → mkd (m'.set i'.toNat true) j = true ∨ Rch p st sp (· = i) j)
    (closed2 : ∀ j k, 0 ≤ j → mkd m2 j = true → mkd (m'.set i'.toNat true) j = false → Edg p st sp j k → mkd m2 k = true) (edges : ∀ k, Edg p st sp i' k → mkd m2 k = true ∨ k = i2)
    (cur2 : 0 ≤ i2 → i2 < p.length → Rch p st sp (· = i) i2) : Part p st sp i m i2 m2 := by
  have hl : i' < (m'.length : Int) := by rw [h.len]; exact h1
  have m1 : ∀ j, 0 ≤ j → mkd m' j = true → mkd m2 j = true := fun j hj hjm => mono2 j hj (by rw [mkd_set h0 hl hj]; split <;> simp_all)
  have mi : mkd m2 i' = true := mono2 i' h0 (by rw [mkd_set h0 hl h0, if_pos rfl])
  refine ⟨len2, fun j hj hjm => m1 j hj (h.mono j hj hjm), fun k1 k2 => ?_, fun j hj hjm => ?_, cur2, fun j k hj hjm hjn hjk => ?_⟩
  · rcases h.self k1 k2 with k3 | k3
    · exact .inl (m1 _ k1 k3)
    · subst k3; exact .inl mi
  · rcases rch2 j hj hjm with k | k
    · rw [mkd_set h0 hl hj] at k
      split at k
      · rename_i e; subst e; exact .inr (h.cur h0 h1)
      · exact h.rch j hj k
    · exact .inr k
  · by_cases e : j = i'
    · subst e; exact edges k hjk
    · cases hj1 : mkd m' j with
      | true =>
        rcases h.closed j k hj hj1 hjn hjk with k1 | k1
        · exact .inl (m1 _ (Edg_in hp hjk).1 k1)
        · subst k1; exact .inl mi
      | false => exact .inl (closed2 j k hj hjm (by rw [mkd_set h0 hl hj, if_neg e, hj1]) hjk)
theorem add_ok {p : List Inst} {st sp : Bool} (hp : rightS p = true) : ∀ (u f : Nat) (i : Int) (m : List Bool), m.length = p.length → m.length - m.count true ≤ u → u < f →
    ∃ m', D.f72N f (i, p, st, sp, (m.count true : Int), m) = some (p, st, sp, (m'.count true : Int), m') ∧ Added p st sp i m m' := by
  intro u
  induction u using Nat.strongRecOn with
  | ind u ih =>
    intro f i m hlen hu hf
    obtain ⟨hn, hpos, _, _⟩ := rightS_all hp
    obtain ⟨f, rfl⟩ : ∃ f', f = f' + 1 := ⟨f - 1, by omega⟩
    show ∃ m', D.f72S (D.f72N f) (i, p, st, sp, (m.count true : Int), m) = some (p, st, sp, (m'.count true : Int), m') ∧ Added p st sp i m m'
    unfold D.f72S
    suffices hh : ∃ r, Option.bind _ _ = some r ∧ ∃ m', r = (p, st, sp, (m'.count true : Int), m') ∧ Added p st sp i m m' by
      obtain ⟨r, h1, m', rfl, h2⟩ := hh
      exact ⟨m', h1, h2⟩
    refine bind_ex (iter_rule (I := fun (s : Int × List Inst × Bool × Bool × Int × List Bool) => ∃ i' m', s = (i', p, st, sp, (m'.count true : Int), m') ∧ Part p st sp i m i' m' ∧ m.count true ≤ m'.count true)
      (Q := fun (e : List Inst × Bool × Bool × Int × List Bool) => ∃ m', e = (p, st, sp, (m'.count true : Int), m') ∧ Added p st sp i m m') (fun s => s.2.2.2.2.2.length - s.2.2.2.2.2.count true) ?_ _
      ⟨i, m, rfl, ⟨hlen, fun j _ h => h, fun _ _ => .inr rfl, fun j _ h => .inl h, fun h1 h2 => .base rfl h1 h2, fun j k _ h1 h2 => by rw [h1] at h2; cases h2⟩, Nat.le_refl _⟩) ?_
    rotate_left
    · rintro _ ⟨m', rfl, h⟩
      exact ⟨_, rfl, m', rfl, h⟩
    rintro _ ⟨i', m', rfl, hP, hc⟩
    have hl := hP.len
    dsimp only
    -- does it go on?
    rcases Classical.em (¬ (0 ≤ i' ∧ i' < p.length)) with hv | hv
    · have he : (if decide (i' ≥ 0) = true then if decide (i' < (p.length : Int)) = true then if (0 : Int) ≤ i' ∧ i' < (m'.length : Int) then some (!m'.getD i'.toNat false, p, st, sp, (m'.count true : Int), m') else none else some (false, p, st, sp, (m'.count true : Int), m') else some (false, p, st, sp, (m'.count true : Int), m')) = some (false, p, st, sp, (m'.count true : Int), m') := by
        by_cases h1 : 0 ≤ i'
        · rw [if_pos (by rw [decide_eq_true_eq]; exact h1), if_neg (by rw [decide_eq_true_eq]; omega)]
        · rw [if_neg (by rw [decide_eq_true_eq]; omega)]
      rw [he]
      simp only [Option.bind_some, Bool.false_eq_true, if_false]
      exact .inr ⟨_, rfl, m', rfl, hP.done hp fun h1 h2 => absurd ⟨h1, h2⟩ hv⟩
    have hv : 0 ≤ i' ∧ i' < p.length := Classical.not_not.1 hv
    rw [if_pos (by rw [decide_eq_true_eq]; exact hv.1), if_pos (by rw [decide_eq_true_eq]; exact hv.2), if_pos (by omega)]
    simp only [Option.bind_some]
    cases hm : mkd m' i' with
    | true =>
      have hm' : m'.getD i'.toNat false = true := hm
      rw [hm', if_neg (by simp)]
      exact .inr ⟨_, rfl, m', rfl, hP.done hp fun _ _ => hm⟩
    | false =>
    have hm' : m'.getD i'.toNat false = false := hm
    have hl' : i' < (m'.length : Int) := by omega
    have hcs := count_set_true hv.1 hl' hm
    have hcl : (m'.set i'.toNat true).count true ≤ (m'.set i'.toNat true).length := List.count_le_length
    rw [List.length_set] at hcl
    rw [hm', if_pos (by simp), if_pos (by omega), if_pos (by omega), wrap_i64 (by omega) (by omega), wrap_i64 (by omega) (by omega)]
    have hcI : ((m'.count true : Int) + 1) = ((m'.set i'.toNat true).count true : Int) := by omega
    rw [hcI]
    have hlen1 : (m'.set i'.toNat true).length = p.length := by rw [List.length_set, hl]
    have dec : m'.length - (m'.set i'.toNat true).count true < m'.length - m'.count true := by omega
    have same : ∀ i2, (∀ k, Edg p st sp i' k → mkd (m'.set i'.toNat true) k = true ∨ k = i2) → (0 ≤ i2 → i2 < p.length → Rch p st sp (· = i) i2) → Part p st sp i m i2 (m'.set i'.toNat true) := fun i2 e1 e2 =>
      hP.next hp hv.1 hv.2 hm hlen1 (fun j _ h => h) (fun j _ h => .inl h) (fun j k _ h1 h2 => by rw [h1] at h2; cases h2) e1 e2
    have hcur := hP.cur hv.1 hv.2
    by_cases c2 : (p.getD i'.toNat dI).1 = 2
    · rw [if_pos (by rw [beq_iff_eq]; exact c2)]
      obtain ⟨m2, q1, q2⟩ := ih ((m'.set i'.toNat true).length - (m'.set i'.toNat true).count true) (by rw [List.length_set]; omega) f (p.getD i'.toNat dI).2.2.1 (m'.set i'.toNat true) hlen1 (Nat.le_refl _) (by rw [List.length_set]; omega)
      rw [q1]
      simp only [Option.bind_some]
      have eto : Edg p st sp i' (p.getD i'.toNat dI).2.2.1 := ⟨hv.1, hv.2, by unfold tgt; rw [if_pos c2]; simp⟩
      have ealt : Edg p st sp i' (p.getD i'.toNat dI).2.2.2 := ⟨hv.1, hv.2, by unfold tgt; rw [if_pos c2]; simp⟩
      have hcm : (m'.set i'.toNat true).count true ≤ m2.count true := count_mono (by rw [hlen1, q2.len]) fun j hj => by
        have := q2.mono (j : Int) (by omega)
        unfold mkd at this
        rw [Int.toNat_natCast] at this
        exact this hj
      refine .inl ⟨_, rfl, ⟨_, m2, rfl, hP.next hp hv.1 hv.2 hm q2.len q2.mono (fun j hj h => ?_) q2.closed (fun k hk => ?_) (fun _ _ => .step hcur ealt), by omega⟩, ?_⟩
      · rcases q2.rch j hj h with h | h
        · exact .inl h
        · exact .inr (h.sub fun a ha _ _ => by subst ha; exact .step hcur eto)
      · obtain ⟨_, _, hk⟩ := hk
        unfold tgt at hk
        rw [if_pos c2] at hk
        simp only [List.mem_cons, List.not_mem_nil, or_false] at hk
        rcases hk with rfl | rfl
        · exact .inl (q2.self (Edg_in hp eto).1 (Edg_in hp eto).2)
        · exact .inr rfl
      · have := q2.len
        show m2.length - m2.count true < m'.length - m'.count true
        omega
    · rw [if_neg (by rw [beq_iff_eq]; exact c2)]
      have hlast : m'.length - (m'.set i'.toNat true).count true < m'.length - m'.count true := dec
      by_cases c3 : (p.getD i'.toNat dI).1 = 3
      · rw [if_pos (by rw [beq_iff_eq]; exact c3)]
        have eto : Edg p st sp i' (p.getD i'.toNat dI).2.2.1 := ⟨hv.1, hv.2, by unfold tgt; rw [if_neg c2, if_pos c3]; simp⟩
        refine .inl ⟨_, rfl, ⟨_, _, rfl, same _ (fun k hk => ?_) fun _ _ => .step hcur eto, by omega⟩, by show (m'.set i'.toNat true).length - _ < _; rw [List.length_set]; exact dec⟩
        obtain ⟨_, _, hk⟩ := hk
        unfold tgt at hk
        rw [if_neg c2, if_pos c3] at hk
        simp only [List.mem_cons, List.not_mem_nil, or_false] at hk
        exact .inr hk
      · rw [if_neg (by rw [beq_iff_eq]; exact c3)]
        by_cases c45 : ((p.getD i'.toNat dI).1 = 4 ∧ st = true) ∨ ((p.getD i'.toNat dI).1 = 5 ∧ sp = true)
        · have he : ∀ (A : Type) (y n2 : Option A), (if ((p.getD i'.toNat dI).1 == 4) = true then y else n2) = (if (p.getD i'.toNat dI).1 = 4 then y else n2) := fun A y n2 => by simp only [beq_iff_eq]
          have eto : Edg p st sp i' (i' + 1) := ⟨hv.1, hv.2, by unfold tgt; rw [if_neg c2, if_neg c3, if_pos c45]; simp⟩
          have hw : ∀ (R : Type) (k : Bool × List Inst × Bool × Bool × Int × List Bool → Option R), Option.bind (Option.bind (if ((p.getD i'.toNat dI).1 == 4) = true then some (st, p, st, sp, ((m'.set i'.toNat true).count true : Int), m'.set i'.toNat true, (p.getD i'.toNat dI).1, (p.getD i'.toNat dI).2.1, (p.getD i'.toNat dI).2.2.1, (p.getD i'.toNat dI).2.2.2)
              else some (false, p, st, sp, ((m'.set i'.toNat true).count true : Int), m'.set i'.toNat true, (p.getD i'.toNat dI).1, (p.getD i'.toNat dI).2.1, (p.getD i'.toNat dI).2.2.1, (p.getD i'.toNat dI).2.2.2)) fun (v3 : Bool × List Inst × Bool × Bool × Int × List Bool × Int × List (Int × Int) × Int × Int) =>
                if v3.1 = true then some (true, v3.2.1, v3.2.2.1, v3.2.2.2.1, v3.2.2.2.2.1, v3.2.2.2.2.2.1) else if (v3.2.2.2.2.2.2.1 == 5) = true then some (v3.2.2.2.1, v3.2.1, v3.2.2.1, v3.2.2.2.1, v3.2.2.2.2.1, v3.2.2.2.2.2.1) else some (false, v3.2.1, v3.2.2.1, v3.2.2.2.1, v3.2.2.2.2.1, v3.2.2.2.2.2.1)) k = k (true, p, st, sp, ((m'.set i'.toNat true).count true : Int), m'.set i'.toNat true) := by
            intro R k
            rcases c45 with ⟨c4, rfl⟩ | ⟨c5, rfl⟩
            · rw [if_pos (by rw [beq_iff_eq]; exact c4)]; rfl
            · rw [if_neg (by rw [beq_iff_eq, c5]; decide)]
              simp only [Option.bind_some, Bool.false_eq_true, if_false]
              rw [if_pos (by rw [beq_iff_eq]; exact c5)]
              rfl
          rw [hw]
          dsimp only
          rw [if_pos rfl]
          refine .inl ⟨_, rfl, ⟨_, _, rfl, same _ (fun k hk => ?_) fun _ _ => .step hcur eto, by omega⟩, by show (m'.set i'.toNat true).length - _ < _; rw [List.length_set]; exact dec⟩
          obtain ⟨_, _, hk⟩ := hk
          unfold tgt at hk
          rw [if_neg c2, if_neg c3, if_pos c45] at hk
          simp only [List.mem_cons, List.not_mem_nil, or_false] at hk
          exact .inr hk
        · have hw : ∀ (R : Type) (k : Bool × List Inst × Bool × Bool × Int × List Bool → Option R), Option.bind (Option.bind (if ((p.getD i'.toNat dI).1 == 4) = true then some (st, p, st, sp, ((m'.set i'.toNat true).count true : Int), m'.set i'.toNat true, (p.getD i'.toNat dI).1, (p.getD i'.toNat dI).2.1, (p.getD i'.toNat dI).2.2.1, (p.getD i'.toNat dI).2.2.2)
              else some (false, p, st, sp, ((m'.set i'.toNat true).count true : Int), m'.set i'.toNat true, (p.getD i'.toNat dI).1, (p.getD i'.toNat dI).2.1, (p.getD i'.toNat dI).2.2.1, (p.getD i'.toNat dI).2.2.2)) fun (v3 : Bool × List Inst × Bool × Bool × Int × List Bool × Int × List (Int × Int) × Int × Int) =>
                if v3.1 = true then some (true, v3.2.1, v3.2.2.1, v3.2.2.2.1, v3.2.2.2.2.1, v3.2.2.2.2.2.1) else if (v3.2.2.2.2.2.2.1 == 5) = true then some (v3.2.2.2.1, v3.2.1, v3.2.2.1, v3.2.2.2.1, v3.2.2.2.2.1, v3.2.2.2.2.2.1) else some (false, v3.2.1, v3.2.2.1, v3.2.2.2.1, v3.2.2.2.2.1, v3.2.2.2.2.2.1)) k = k (false, p, st, sp, ((m'.set i'.toNat true).count true : Int), m'.set i'.toNat true) := by
            intro R k
            by_cases c4 : (p.getD i'.toNat dI).1 = 4
            · have : st = false := by cases st with | false => rfl | true => exact absurd (.inl ⟨c4, rfl⟩) c45
              subst this
              rw [if_pos (by rw [beq_iff_eq]; exact c4)]
              simp only [Option.bind_some, Bool.false_eq_true, if_false]
              rw [if_neg (by rw [beq_iff_eq, c4]; decide)]
              rfl
            · rw [if_neg (by rw [beq_iff_eq]; exact c4)]
              simp only [Option.bind_some, Bool.false_eq_true, if_false]
              by_cases c5 : (p.getD i'.toNat dI).1 = 5
              · have : sp = false := by cases sp with | false => rfl | true => exact absurd (.inr ⟨c5, rfl⟩) c45
                subst this
                rw [if_pos (by rw [beq_iff_eq]; exact c5)]
                rfl
              · rw [if_neg (by rw [beq_iff_eq]; exact c5)]
                rfl
          rw [hw]
          dsimp only
          rw [if_neg (by simp)]
          refine .inl ⟨_, rfl, ⟨_, _, rfl, same _ (fun k hk => ?_) fun _ _ => hcur, by omega⟩, by show (m'.set i'.toNat true).length - _ < _; rw [List.length_set]; exact dec⟩
          obtain ⟨_, _, hk⟩ := hk
          unfold tgt at hk
          rw [if_neg c2, if_neg c3, if_neg c45] at hk
          simp at hk
end Go.Sx
