/- Scan: 'First', 'Cover', and the laws ScanCaches, ScanCovers, ScanFirsts. -/
import Derived.Test.YtjmmbgjdfmceeaaSxDj
set_option linter.unusedVariables false
set_option linter.unusedSimpArgs false
namespace Go.Sx
theorem d35_ok (p : List Inst) (l : List Int) (hl : p.length ≤ 9223372036854775807) : ∃ b, D.f35F (p, l) = some b ∧ (b = false → p.length ≤ 100 ∧ l.length ≤ 30) := by
  unfold D.f35F
  dsimp only
  obtain ⟨g, hg⟩ := s15_some p hl
  rw [hg]
  simp only [Option.bind_some]
  cases g with
  | true => exact ⟨_, rfl, fun h => by cases h⟩
  | false =>
    rw [if_neg (by decide)]
    by_cases h1 : (p.length : Int) > 100
    · rw [if_pos (by rw [decide_eq_true_eq]; exact h1)]
      exact ⟨_, rfl, fun h => by cases h⟩
    · rw [if_neg (by rw [decide_eq_true_eq]; exact h1)]
      refine ⟨_, rfl, fun h => ?_⟩
      rw [decide_eq_false_iff_not] at h
      omega
theorem AllI.len {p : List Inst} {l : List Int} {a : Nat} {r : List (Int × Int)} (h : AllI p l a r) (ha : a ≤ l.length + 1) : r.length ≤ l.length + 1 - a := by
  induction h with
  | nil _ => simp
  | @cons a k r h1 h2 h3 h4 h5 ih =>
    have hin := (lgS_in p l k).resolve_left (by omega)
    have := ih (by omega)
    rw [List.length_cons]
    omega
def remS (i : Int) (A : List (Int × Int)) : Int := (A.map fun s => max 0 (s.2 - max s.1 i)).sum
theorem AllI.from {p : List Inst} {l : List Int} {a : Nat} {r : List (Int × Int)} (h : AllI p l a r) : ∀ s ∈ r, (a : Int) ≤ s.1 ∧ s.1 ≤ s.2 ∧ s.2 ≤ l.length := by
  induction h with
  | nil _ => simp
  | @cons a k r h1 h2 h3 h4 h5 ih =>
    have hin := (lgS_in p l k).resolve_left (by omega)
    intro s hs
    rcases List.mem_cons.1 hs with rfl | hs
    · exact ⟨by omega, hin.1, hin.2⟩
    · have := ih s hs
      omega
def inS (i : Int) (A : List (Int × Int)) : Bool := A.any fun s => decide (s.1 ≤ i) && decide (i < s.2)
theorem remS_far {i : Int} {A : List (Int × Int)} (h : ∀ s ∈ A, i < s.1) : remS i A = remS (i + 1) A := by
  induction A with
  | nil => rfl
  | cons s A ih =>
    have h1 := h s (List.mem_cons_self ..)
    have h2 := ih fun t ht => h t (List.mem_cons_of_mem _ ht)
    unfold remS at h2 ⊢
    rw [List.map_cons, List.map_cons, List.sum_cons, List.sum_cons, h2]
    omega
theorem inS_far {i : Int} {A : List (Int × Int)} (h : ∀ s ∈ A, i < s.1) : inS i A = false := by
  unfold inS
  rw [List.any_eq_false]
  intro s hs
  have := h s hs
  simp
  omega
theorem remS_cons (i : Int) (s : Int × Int) (A : List (Int × Int)) : remS i (s :: A) = max 0 (s.2 - max s.1 i) + remS i A := by
  unfold remS
  rw [List.map_cons, List.sum_cons]
theorem remS_step {p : List Inst} {l : List Int} {a : Nat} {r : List (Int × Int)} (h : AllI p l a r) (i : Int) : remS i r = remS (i + 1) r + if inS i r = true then 1 else 0 := by
  induction h with
  | nil _ => rfl
  | @cons a k r h1 h2 h3 h4 h5 ih =>
    have hin := (lgS_in p l k).resolve_left (by omega)
    have hf := h5.from
    have hi : inS i (((k : Int), lgS p l k) :: r) = (decide ((k : Int) ≤ i) && decide (i < lgS p l k) || inS i r) := rfl
    rw [remS_cons, remS_cons, hi]
    by_cases hc : (k : Int) ≤ i ∧ i < lgS p l k
    · have hfar : ∀ s ∈ r, i < s.1 := fun s hs => by have := hf s hs; omega
      rw [inS_far hfar, remS_far hfar, decide_eq_true hc.1, decide_eq_true hc.2]
      simp only [Bool.and_self, Bool.or_false, if_true]
      omega
    · rw [show (decide ((k : Int) ≤ i) && decide (i < lgS p l k)) = false by rw [Bool.and_eq_false_iff, decide_eq_false_iff_not, decide_eq_false_iff_not]; omega, Bool.false_or, ih]
      dsimp only
      omega
theorem remS_end {A : List (Int × Int)} {i : Int} (h : ∀ s ∈ A, s.2 ≤ i) : remS i A = 0 := by
  induction A with
  | nil => rfl
  | cons s A ih =>
    have h1 := h s (List.mem_cons_self ..)
    rw [remS_cons, ih fun t ht => h t (List.mem_cons_of_mem _ ht)]
    omega
theorem d41_ok (A : List (Int × Int)) (hl : A.length ≤ 9223372036854775807) (i : Int) : ∃ r, D.f41F (A, i) = some r ∧ ((r = -1 ∧ inS i A = false) ∨ ∃ q : Nat, r = (q : Int) ∧ ∃ hq : q < A.length, A[q].1 ≤ i ∧ i < A[q].2 ∧ inS i A = true) := by
  unfold D.f41F D.s12F
  obtain ⟨r, h1, h2⟩ := idx_rule A (0, 0) (fun s => decide (s.1 ≤ i) && decide (i < s.2)) i D.f68F hl (fun x _ => by
    unfold D.f68F
    dsimp only
    by_cases h : x.1 ≤ i
    · rw [if_pos (by rw [decide_eq_true_eq]; exact h), decide_eq_true h, Bool.true_and]
    · rw [if_neg (by rw [decide_eq_true_eq]; exact h), decide_eq_false h, Bool.false_and])
  refine ⟨r.1, ?_, ?_⟩
  · refine Eq.trans (congrArg (fun o => Option.bind o fun (v1 : Int × Int) => some v1.1) h1) rfl
  · subst h2
    cases hx : A.findIdx? (fun s => decide (s.1 ≤ i) && decide (i < s.2)) with
    | none =>
      left
      rw [List.findIdx?_eq_none_iff] at hx
      refine ⟨rfl, ?_⟩
      unfold inS
      rw [List.any_eq_false]
      intro s hs
      simp [hx s hs]
    | some q =>
      right
      rw [List.findIdx?_eq_some_iff_getElem] at hx
      obtain ⟨hq, h3, _⟩ := hx
      rw [Bool.and_eq_true, decide_eq_true_eq, decide_eq_true_eq] at h3
      refine ⟨q, rfl, hq, h3.1, h3.2, ?_⟩
      unfold inS
      rw [List.any_eq_true]
      exact ⟨A[q], List.getElem_mem hq, by simp [h3]⟩
theorem sum_take {A : List (Int × Int)} {i : Nat} (h : i < A.length) (f : Int × Int → Int) : ((A.take (i + 1)).map f).sum = ((A.take i).map f).sum + f A[i] := by
  rw [List.take_succ_eq_append_getElem h, List.map_append, List.sum_append]
  simp
theorem scanCovers_core (p : List Inst) (l : List Int) (c : Int) (hl : p.length ≤ 9223372036854775807) (hr : ranged p) (hc : 0 ≤ c ∧ c ≤ 255) : D.f12F (p, l, c) = some true := by
  unfold D.f12F
  rw [d34_alive]
  simp only [Option.bind_some, Bool.not_true, Bool.false_eq_true, if_false]
  obtain ⟨g, hg, hg2⟩ := d35_ok p l hl
  rw [hg]
  simp only [Option.bind_some]
  cases g with
  | true => rfl
  | false =>
  obtain ⟨hp100, hll⟩ := hg2 rfl
  rw [if_neg (by decide), s26_any]
  simp only [Option.bind_some]
  cases hp : rightS p with
  | false => rfl
  | true =>
  rw [if_neg (by decide), wrap_i64 (x := c) (by omega) (by omega), wrap_i64 (x := 2 + c) (by omega) (by omega), d36_eq hp hr (by omega) hll]
  simp only [Option.bind_some]
  rw [if_neg (by decide)]
  have hA := allS_ok p l (l.length + 1) 0 (by omega)
  have hAl := hA.len (by omega)
  generalize (allS p l (l.length + 1) 0).1 = A at *
  have hf := hA.from
  have hsum : ∀ i : Nat, i ≤ A.length → 0 ≤ ((A.take i).map fun s => s.2 - s.1).sum ∧ ((A.take i).map fun s => s.2 - s.1).sum ≤ i * 30 := by
    intro i
    induction i with
    | zero => intro _; simp
    | succ i ih =>
      intro hi
      have h1 := ih (by omega)
      have h2 := hf A[i] (List.getElem_mem (by omega))
      rw [sum_take (by omega)]
      omega
  have hr0 : remS 0 A = (A.map fun s => s.2 - s.1).sum := by
    unfold remS
    congr 1
    apply List.map_congr_left
    intro s hs
    have := hf s hs
    omega
  refine ex_to ?_
  refine bind_ex (Q := fun e : Int => e = remS 0 A) (iter_rule (I := fun s : Int × Int => ∃ i : Nat, s = (((A.take i).map fun s => s.2 - s.1).sum, (i : Int)) ∧ i ≤ A.length) (fun s => ((A.length : Int) - s.2).toNat) ?_ _ ⟨0, rfl, Nat.zero_le _⟩) ?_
  · rintro _ ⟨i, rfl, hi⟩
    dsimp only
    by_cases hil : i < A.length
    · have h1 := hsum i hi
      have h2 := hf A[i] (List.getElem_mem hil)
      rw [if_pos (by rw [decide_eq_true_eq]; omega), if_pos (by omega), if_pos (by omega), Int.toNat_natCast, getD_lt A _ hil, wrap_i64 (x := (i : Int) + 1) (by omega) (by omega)]
      rw [wrap_i64 (x := ((A.take i).map fun s => s.2 - s.1).sum + A[i].2) (by omega) (by omega), wrap_i64 (by omega) (by omega)]
      refine .inl ⟨_, rfl, ⟨i + 1, ?_, hil⟩, by show ((A.length : Int) - ((i : Int) + 1)).toNat < ((A.length : Int) - (i : Int)).toNat; omega⟩
      rw [sum_take hil]
      refine Prod.ext ?_ rfl
      dsimp only
      omega
    · rw [if_neg (by rw [decide_eq_true_eq]; omega)]
      refine .inr ⟨_, rfl, ?_⟩
      rw [hr0, List.take_of_length_le (by omega)]
  rintro _ rfl
  have hb0 : remS 0 A ≤ 930 := by
    have := hsum A.length (Nat.le_refl _)
    rw [List.take_length, ← hr0] at this
    omega
  have hnn : ∀ i, 0 ≤ remS i A := by
    intro i
    clear hr0 hsum hb0 hf hAl hA
    induction A with
    | nil => exact Int.le_refl _
    | cons s A ih => rw [remS_cons]; omega
  have hle : ∀ i : Nat, remS i A ≤ remS 0 A := by
    intro i
    induction i with
    | zero => exact Int.le_refl _
    | succ i ih =>
      have := remS_step hA i
      have e : ((i + 1 : Nat) : Int) = (i : Int) + 1 := by omega
      rw [e]
      split at this <;> omega
  refine bind_ex (Q := fun e : Int ⊕ Bool => e = .inl 0) (iter_rule (I := fun s : Int × Int => ∃ i : Nat, s = (remS i A, (i : Int)) ∧ i ≤ l.length + 1) (fun s => ((l.length : Int) + 1 - s.2).toNat) ?_ _ ⟨0, rfl, Nat.zero_le _⟩) ?_
  · rintro _ ⟨i, rfl, hi⟩
    dsimp only
    by_cases hil : i ≤ l.length
    · rw [if_pos (by rw [decide_eq_true_eq]; omega)]
      obtain ⟨r, h1, h2⟩ := d41_ok A (by omega) (i : Int)
      rw [h1]
      simp only [Option.bind_some]
      have hst := remS_step hA (i : Int)
      have e : ((i + 1 : Nat) : Int) = (i : Int) + 1 := by omega
      have g1 := hle i
      have g2 := hnn i
      left
      rcases h2 with ⟨rfl, h3⟩ | ⟨q, rfl, hq, h3, h4, h5⟩
      · rw [if_neg (by rw [decide_eq_true_eq]; omega), if_neg (by decide)]
        simp only [Option.bind_some]
        rw [if_neg (by decide), if_neg (by decide), wrap_i64 (by omega) (by omega)]
        rw [h3, if_neg (by decide)] at hst
        refine ⟨_, rfl, ⟨i + 1, ?_, by omega⟩, by show ((l.length : Int) + 1 - ((i : Int) + 1)).toNat < ((l.length : Int) + 1 - (i : Int)).toNat; omega⟩
        rw [e, hst, Int.add_zero]
      · rw [if_neg (by rw [decide_eq_true_eq]; omega), if_pos (by rw [decide_eq_true_eq]; omega), if_pos (by omega), Int.toNat_natCast, getD_lt A _ hq, if_neg (by rw [decide_eq_true_eq]; omega), if_pos (by omega)]
        simp only [Option.bind_some]
        rw [h5, if_pos rfl] at hst
        rw [if_neg (by rw [decide_eq_true_eq]; omega), if_pos (by rw [decide_eq_true_eq]; omega), wrap_i64 (x := remS i A - 1) (by omega) (by omega), wrap_i64 (by omega) (by omega)]
        refine ⟨_, rfl, ⟨i + 1, ?_, by omega⟩, by show ((l.length : Int) + 1 - ((i : Int) + 1)).toNat < ((l.length : Int) + 1 - (i : Int)).toNat; omega⟩
        rw [e, hst, Int.add_sub_cancel]
    · rw [if_neg (by rw [decide_eq_true_eq]; omega)]
      refine .inr ⟨_, rfl, ?_⟩
      rw [remS_end]
      intro s hs
      have := hf s hs
      omega
  · rintro _ rfl
    refine ⟨_, ?_, rfl⟩
    show (if ((0 : Int) == 0) = true then Option.bind (D.f41F (A, -1)) _ else some false) = some true
    rw [if_pos (by decide)]
    obtain ⟨r, h1, h2⟩ := d41_ok A (by omega) (-1 : Int)
    rw [h1]
    rcases h2 with ⟨rfl, h3⟩ | ⟨q, rfl, hq, h3, h4, h5⟩
    · rfl
    · have := hf A[q] (List.getElem_mem hq)
      omega
theorem scanCovers_pure (x : List Inst × List Int × Int) (h : wfTup [.sl (.st (.pair (.int .i64) (.pair (.sl (.st (.pair (.int .i64) (.int .i64)))) (.pair (.int .i64) (.int .i64))))), .sl (.int .i64), .int .u8] x) : D.f12F x = some true := by
  obtain ⟨p, l, c⟩ := x
  refine scanCovers_core p l c h.1.1 (ranged_of h.1.2) ?_
  have : Ty.wf (.int .u8) c := h.2.2
  simpa [Ty.wf, IntKind.min, IntKind.max, IntKind.signed, IntKind.bits] using this
end Go.Sx
