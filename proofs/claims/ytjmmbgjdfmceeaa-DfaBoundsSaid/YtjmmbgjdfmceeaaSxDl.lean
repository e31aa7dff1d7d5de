/- Dfa: the laws DfaCaches and DfaBounds. -/
import Derived.Test.YtjmmbgjdfmceeaaSxDk
import Derived.Test.YtjmmbgjdfmceeaaSxT9c
set_option linter.unusedVariables false
set_option linter.unusedSimpArgs false
namespace Go.Sx
theorem findS_fl {most : Int} {S : List StD} {fl : Int} {A : List Int} {b : Bool} : (findS most S fl A b).2.1 = fl + (if (findS most S fl A b).2.2.2 = true then 1 else 0) := by
  unfold findS
  split
  · simp
  · split <;> simp
theorem nextS_again {p : List Inst} {most : Int} {S T : List StD} {fl to : Int} {i : Nat} (hi : i < S.length) {c : Int} (h : nextS p most S fl i c = (T, fl, to)) : nextS p most T fl i c = (T, fl, to) := by
  have key : ∀ (R : List StD) (t : Int), i < R.length → (R.getD i dSt).2.2.find? (fun e => e.1 == c) = none → nextS p most (R.set i (edgeS (R.getD i dSt) c t)) fl i c = (R.set i (edgeS (R.getD i dSt) c t), fl, t) := by
    intro R t hR hn
    have e1 : (R.set i (edgeS (R.getD i dSt) c t)).getD i dSt = edgeS (R.getD i dSt) c t := by
      rw [getD_lt _ _ (by rw [List.length_set]; exact hR), List.getElem_set_self]
    have e2 : (edgeS (R.getD i dSt) c t).2.2.find? (fun e => e.1 == c) = some (c, t) := by
      show ((R.getD i dSt).2.2 ++ [(c, t)]).find? _ = _
      rw [List.find?_append, hn]
      simp
    unfold nextS
    rw [e1, e2]
  have h0 := h
  unfold nextS at h
  cases hf : (S.getD i dSt).2.2.find? fun e => e.1 == c with
  | some e =>
    rw [hf] at h
    simp only [Prod.mk.injEq] at h
    obtain ⟨rfl, _, rfl⟩ := h
    exact h0
  | none =>
    rw [hf] at h
    dsimp only at h
    by_cases hb : behS p (S.getD i dSt) c = []
    · rw [if_pos hb] at h
      simp only [Prod.mk.injEq] at h
      obtain ⟨rfl, _, rfl⟩ := h
      exact key S _ hi hf
    · rw [if_neg hb] at h
      have hfl := findS_fl (most := most) (S := S) (fl := fl) (A := behS p (S.getD i dSt) c) (b := false)
      cases hw : (findS most S fl (behS p (S.getD i dSt) c) false).2.2.2 with
      | true =>
        rw [hw, if_pos rfl] at h
        simp only [Prod.mk.injEq] at h
        rw [hw, if_pos rfl] at hfl
        omega
      | false =>
        rw [hw, if_neg (by decide)] at h
        obtain ⟨X, hX⟩ := findS_keep hw
        simp only [Prod.mk.injEq] at h
        obtain ⟨h1, _, h3⟩ := h
        have hg : (findS most S fl (behS p (S.getD i dSt) c) false).1.getD i dSt = S.getD i dSt := by
          rw [hX, getD_lt _ _ (by rw [List.length_append]; omega), getD_lt _ _ hi, List.getElem_append_left hi]
        rw [← h1, ← h3]
        exact key _ _ (by rw [hX, List.length_append]; omega) (by rw [hg]; exact hf)
theorem dfaBounds_core (p : List Inst) (l two : List Int) (hl : p.length ≤ 9223372036854775807) (hr : ranged p) (h2 : ∀ i, ∃ n : Nat, two.getD i 0 = (n : Int) ∧ n ≤ 255) : D.f8F (p, l, two) = some true := by
  unfold D.f8F
  rw [d27_alive]
  simp only [Option.bind_some, Bool.not_true, Bool.false_eq_true, if_false]
  obtain ⟨g, hg⟩ := s15_some p hl
  rw [hg]
  simp only [Option.bind_some]
  cases g with
  | true => rfl
  | false =>
  rw [if_neg (by decide)]
  by_cases h60 : (p.length : Int) > 60
  · rw [if_pos (by rw [decide_eq_true_eq]; exact h60)]; rfl
  rw [if_neg (by rw [decide_eq_true_eq]; exact h60)]
  simp only [Option.bind_some]
  by_cases h12 : (l.length : Int) > 12
  · rw [if_pos (by rw [decide_eq_true_eq]; exact h12)]
  rw [if_neg (by rw [decide_eq_true_eq]; exact h12), if_pos (by decide)]
  obtain ⟨n0, e0, r0⟩ := h2 0
  have e0' : List.getD two (nat_lit 0) (0 : Int) = (n0 : Int) := e0
  obtain ⟨c0, hc0, hc0'⟩ : ∃ c : Int, IntKind.i64.wrap (2 + Int.tmod (IntKind.i64.wrap (n0 : Int)) 6) = c ∧ 2 ≤ c ∧ c ≤ 1000 := by
    rw [wrap_i64 (x := (n0 : Int)) (by omega) (by omega), Int.tmod_eq_emod_of_nonneg (by omega), wrap_i64 (by omega) (by omega)]
    exact ⟨_, rfl, by omega, by omega⟩
  rw [e0', hc0]
  cases hp : rightS p with
  | false =>
    rw [d28_eq (by omega) c0, hp, if_pos rfl]
    rfl
  | true =>
  obtain ⟨_, _, hp1000⟩ := rightS_last hp
  rw [d28_eq (by omega) c0, hp, if_neg (by decide), if_neg (by omega)]
  simp only [Option.bind_some]
  rw [if_neg (by decide), if_pos (by decide)]
  have hz := zero_ok hp
  have hS0 : Small ([] : List StD) 0 := ⟨by simp, fun s hs => by simp at hs, fun s hs => by simp at hs⟩
  rw [d31_eq hp hr hS0 (by omega) hc0' (by omega) (by simp; omega) (CacheI.nil p) hz]
  generalize (Int.tmod (List.getD two (nat_lit 1) 0) 2 == 0) = b
  obtain ⟨T, fl', j, w, f1, f2, f3, ⟨f4, _, _⟩, f7, f8, f9⟩ := findS_ok (CacheI.nil p) (by simp; omega : (([] : List StD).length : Int) ≤ c0) (by omega : 1 ≤ c0) 0 (b := b) hz
  have hfl' : 0 ≤ fl' ∧ fl' ≤ 1 := by
    cases w with
    | true => have := (f8 rfl).1; omega
    | false => have := (f9 rfl).1; omega
  have hST : Small T 0 := by
    have := hS0.find hc0'.2 (by simp; omega) 0 (A := [0]) (by simp) b
    rw [f1] at this; exact this
  rw [f1]
  simp only [Option.bind_some]
  refine ex_to ?_
  refine bind_ex (Q := fun e : PUnit ⊕ Bool => e = .inl ()) (iter_rule (I := fun s : Int × Int × List Inst × Int × List StD × Int => ∃ (i : Nat) (s' : Int) (S : List StD) (fl : Int), s = (s', (i : Int), p, c0, S, fl) ∧ i ≤ l.length ∧ CacheI p S ∧ (S.length : Int) ≤ c0 ∧ Small S i ∧ (0 ≤ fl ∧ fl ≤ 1 + i) ∧ s' < S.length)
    (fun s => ((l.length : Int) - s.2.1).toNat) ?_ _ ⟨0, (j : Int), T, fl', rfl, Nat.zero_le _, f2, f3, hST, by omega, by omega⟩) ?_
  rotate_left
  · rintro _ rfl
    exact ⟨_, rfl, rfl⟩
  rintro _ ⟨i, s, S, fl, rfl, hi, hC, hCl, hSm, hfl, hs⟩
  dsimp only
  by_cases hil : i < l.length
  rotate_left
  · rw [if_neg (by rw [decide_eq_true_eq]; omega)]
    simp only [Option.bind_some, Bool.false_eq_true, if_false]
    exact .inr ⟨_, rfl, rfl⟩
  rw [if_pos (by rw [decide_eq_true_eq]; omega)]
  simp only [Option.bind_some]
  by_cases hs0 : s ≥ 0
  rotate_left
  · rw [if_neg (by rw [decide_eq_true_eq]; exact hs0)]
    exact .inr ⟨_, rfl, rfl⟩
  obtain ⟨k, rfl⟩ := Int.eq_ofNat_of_zero_le hs0
  have hk : k < S.length := by omega
  rw [if_pos (by rw [decide_eq_true_eq]; exact hs0), if_pos (by omega), Int.toNat_natCast]
  generalize List.getD l i 0 = ch
  have hSm2 := hSm.next hp hc0'.2 hCl fl hk ch
  rw [d32_eq hp hr hSm (by omega) hc0' (by omega) hCl hC hk ch]
  obtain ⟨T2, fl2, to, t1, t2, t3, t4, t5, t6, t7⟩ := nextS_ok hp hC hCl (by omega : 1 ≤ c0) fl hk ch
  rw [t1] at hSm2 ⊢
  dsimp only at hSm2
  simp only [Option.bind_some]
  have hto : to < T2.length ∧ 0 < T2.length := by
    by_cases hb : behS p S[k] ch = []
    · have := t6 hb
      have hT2 : 0 < T2.length := by
        rcases t4 with h | h
        · have := t5 h; omega
        · -- emptied: a state is there
          exfalso
          unfold nextS at t1
          have hg : S.getD k dSt = S[k] := getD_lt _ _ hk
          rw [hg] at t1
          cases hf : S[k].2.2.find? fun e => e.1 == ch with
          | some e =>
            rw [hf] at t1
            simp only [Prod.mk.injEq] at t1
            omega
          | none =>
            rw [hf] at t1
            dsimp only at t1
            rw [if_pos hb] at t1
            simp only [Prod.mk.injEq] at t1
            omega
      omega
    · obtain ⟨q, rfl, hq, _⟩ := t7 hb
      omega
  rw [d30_true hp hr hSm2 (by omega) hc0' (by omega) t3 t2]
  simp only [Option.bind_some, Bool.not_true, Bool.false_eq_true, if_false]
  rw [if_neg (by rw [decide_eq_true_eq]; omega), if_neg (by rw [decide_eq_true_eq]; omega), if_neg (by rw [decide_eq_true_eq]; omega)]
  have hcond : (if (fl2 == fl) = true then some (decide ((T2.length : Int) < (S.length : Int)), p, c0, S, fl, p, c0, T2, fl2) else some (false, p, c0, S, fl, p, c0, T2, fl2)) = some (false, p, c0, S, fl, p, c0, T2, fl2) := by
    by_cases h : fl2 = fl
    · rw [if_pos (by rw [beq_iff_eq]; exact h), decide_eq_false (by have := t5 h; omega)]
    · rw [if_neg (by rw [beq_iff_eq]; exact h)]
  rw [hcond]
  simp only [Option.bind_some, Bool.false_eq_true, if_false]
  rw [if_pos (by omega), wrap_i64 (x := (T2.length : Int) - 1) (by omega) (by omega), minI_eq]
  obtain ⟨m, hm, hm2⟩ : ∃ m : Nat, min (k : Int) ((T2.length : Int) - 1) = (m : Int) ∧ m < T2.length := ⟨(min (k : Int) ((T2.length : Int) - 1)).toNat, by omega, by omega⟩
  rw [hm, d32_eq hp hr hSm2 (by omega) hc0' (by omega) t3 t2 hm2 ch]
  simp only [Option.bind_some]
  have hfin : ∀ z : Int × Int × List Inst × Int × List StD × Int, z = (to, ((i + 1 : Nat) : Int), p, c0, T2, fl2) →
      (∃ s', (some (Sum.inl z) : Option ((Int × Int × List Inst × Int × List StD × Int) ⊕ (PUnit ⊕ Bool))) = some (.inl s') ∧ (∃ (i : Nat) (s2 : Int) (S : List StD) (fl : Int), s' = (s2, (i : Int), p, c0, S, fl) ∧ i ≤ l.length ∧ CacheI p S ∧ (S.length : Int) ≤ c0 ∧ Small S i ∧ (0 ≤ fl ∧ fl ≤ 1 + i) ∧ s2 < S.length) ∧ ((l.length : Int) - s'.2.1).toNat < ((l.length : Int) - (i : Int)).toNat) := by
    rintro _ rfl
    exact ⟨_, rfl, ⟨i + 1, to, T2, fl2, rfl, hil, t2, t3, hSm2, by omega, hto.1⟩, by show ((l.length : Int) - ((i + 1 : Nat) : Int)).toNat < _; omega⟩
  by_cases h : fl2 = fl
  · subst h
    have hmk : m = k := by have := t5 rfl; omega
    subst hmk
    rw [nextS_again hk t1]
    rw [if_pos (by simp), if_neg (by simp), d33_self (by omega) hr hSm2 (by omega)]
    simp only [Option.bind_some, Bool.not_true, Bool.false_eq_true, if_false]
    rw [wrap_i64 (x := (i : Int) + 1) (by omega) (by omega)]
    exact .inl (hfin _ rfl)
  · rw [if_neg (by rw [beq_iff_eq]; exact h)]
    simp only [Option.bind_some, Bool.false_eq_true, if_false]
    rw [wrap_i64 (x := (i : Int) + 1) (by omega) (by omega)]
    exact .inl (hfin _ rfl)
theorem dfaBounds_pure (x : List Inst × List Int × List Int) (h : wfTup [.sl (.st (.pair (.int .i64) (.pair (.sl (.st (.pair (.int .i64) (.int .i64)))) (.pair (.int .i64) (.int .i64))))), .sl (.int .i64), .arr 2 (.int .u8)] x) : D.f8F x = some true := by
  obtain ⟨p, l, two⟩ := x
  refine dfaBounds_core p l two h.1.1 (ranged_of h.1.2) fun i => ?_
  by_cases hi : i < two.length
  · have := h.2.2.2 (two.getD i 0) (by rw [getD_lt _ _ hi]; exact List.getElem_mem hi)
    obtain ⟨g1, g2⟩ := this
    have e1 : IntKind.min .u8 = 0 := by decide
    have e2 : IntKind.max .u8 = 255 := by decide
    rw [e1] at g1
    rw [e2] at g2
    have g1' : (0 : Int) ≤ two.getD i 0 := g1
    have g2' : two.getD i 0 ≤ (255 : Int) := g2
    exact ⟨(two.getD i 0).toNat, by omega, by omega⟩
  · rw [List.getD_eq_getElem?_getD, List.getElem?_eq_none (by omega)]
    exact ⟨0, rfl, by omega⟩
end Go.Sx
