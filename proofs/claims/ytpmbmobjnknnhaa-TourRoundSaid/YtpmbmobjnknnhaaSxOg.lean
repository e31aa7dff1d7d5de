/- Tour: going round; the law TourRound. -/
import Derived.Test.YtpmbmobjnknnhaaSxOf
set_option linter.unusedVariables false
set_option linter.unusedSimpArgs false
namespace Go.Sx
theorem eqK {p q : Int × Int} (hp : inK p) (hq : inK q) : (fOrd (kOf q).1 (fOfInt p.1) .eq && fOrd (kOf q).2 (fOfInt p.2) .eq) = decide (q = p) := by
  obtain ⟨p1, p2⟩ := p
  obtain ⟨q1, q2⟩ := q
  unfold inK at hp hq
  dsimp only at hp hq
  unfold kOf
  dsimp only
  rw [fOrd_iv (IV_of (n := q1) (by omega)) (IV_of (n := p1) (by omega)), fOrd_iv (IV_of (n := q2) (by omega)) (IV_of (n := p2) (by omega)), Bool.eq_iff_iff, Bool.and_eq_true, beq_iff_eq, beq_iff_eq, Int.compare_eq_eq, Int.compare_eq_eq, decide_eq_true_eq, Prod.mk.injEq]
def rr (n r0 m : Nat) : Nat := if r0 + m < n then r0 + m else r0 + m - n
theorem tourRound_core (l : List (List Int)) (st : Int) (hw : ∀ e ∈ l, e.length = 2 ∧ ∀ v ∈ e, 0 ≤ v ∧ v ≤ 65535) (hs : 0 ≤ st ∧ st ≤ 255) : U.f4F (l, st) = some true := by
  unfold U.f4F
  rw [u6_alive]
  simp only [Option.bind_some, Bool.not_true, Bool.false_eq_true, if_false]
  by_cases hl60 : (l.length : Int) > 60
  · rw [if_pos (by rw [decide_eq_true_eq]; exact hl60)]
  rw [if_neg (by rw [decide_eq_true_eq]; exact hl60)]
  have hl : l.length ≤ 60 := by omega
  refine uex_to ?_
  refine bind_ex (Q := fun e : List (Nat × Nat) => ∃ ks : List (Int × Int), e = ks.map kOf ∧ ks.length ≤ 60 ∧ (∀ k ∈ ks, inK k) ∧ ks.Nodup) (iter_rule (I := fun s : Int × List (Nat × Nat) => ∃ (i : Nat) (ks : List (Int × Int)), s = ((i : Int), ks.map kOf) ∧ i ≤ l.length ∧ ks.length ≤ i ∧ (∀ k ∈ ks, inK k) ∧ ks.Nodup) (fun s => ((l.length : Int) - s.1).toNat) ?_ _ ⟨0, [], rfl, Nat.zero_le _, Nat.le_refl _, by simp, List.nodup_nil⟩) ?_
  · rintro _ ⟨i, ks, rfl, hi, hki, hk, hnd⟩
    dsimp only
    by_cases hil : i < l.length
    rotate_left
    · rw [if_neg (by rw [decide_eq_true_eq]; omega)]
      exact .inr ⟨_, rfl, ks, rfl, by omega, hk, hnd⟩
    have hb : 0 ≤ (i : Int) ∧ (i : Int) < l.length := by omega
    have z : (0 : Int) ≤ 0 ∧ (0 : Int) < ((2 : Nat) : Int) := by decide
    have z1 : (0 : Int) ≤ 1 ∧ (1 : Int) < ((2 : Nat) : Int) := by decide
    rw [if_pos (by rw [decide_eq_true_eq]; omega)]
    simp only [if_pos hb, if_pos z, if_pos z1]
    rw [Int.toNat_natCast, ugetD l _ hil]
    obtain ⟨he, hv⟩ := hw _ (List.getElem_mem hil)
    generalize l[i] = e at he hv ⊢
    obtain ⟨p1, p2, rfl⟩ : ∃ p1 p2, e = [p1, p2] := by
      match e, he with
      | [p1, p2], _ => exact ⟨p1, p2, rfl⟩
    have hp : inK (p1, p2) := by
      have h1 := hv p1 (by simp)
      have h2 := hv p2 (by simp)
      exact ⟨h1.1, h1.2, h2.1, h2.2⟩
    have g0 : [p1, p2].getD (Int.toNat 0) 0 = p1 := rfl
    have g1 : [p1, p2].getD (Int.toNat 1) 0 = p2 := rfl
    simp only [g0, g1]
    have hdown : ((l.length : Int) - ((i : Int) + 1)).toNat < ((l.length : Int) - (i : Int)).toNat := by omega
    refine stp_bind (R := fun v : Bool × List (Nat × Nat) => v = (decide ((p1, p2) ∈ ks), ks.map kOf)) (iter_rule (I := fun s : Bool × Int × List (Nat × Nat) => ∃ j : Nat, s = (decide ((p1, p2) ∈ ks.take j), (j : Int), ks.map kOf) ∧ j ≤ ks.length) (fun s => ((ks.length : Int) - s.2.1).toNat) ?_ _ ⟨0, by simp, Nat.zero_le _⟩) ?_
    · rintro _ ⟨j, rfl, hj⟩
      dsimp only
      rw [List.length_map]
      by_cases hjl : j < ks.length
      · rw [if_pos (by rw [decide_eq_true_eq]; omega), wrap_i64 (by omega) (by omega)]
        have hd : ((ks.length : Int) - ((j : Int) + 1)).toNat < ((ks.length : Int) - (j : Int)).toNat := by omega
        have htk : (p1, p2) ∈ ks.take (j + 1) ↔ (p1, p2) ∈ ks.take j ∨ (p1, p2) = ks[j] := by
          rw [List.take_succ_eq_append_getElem hjl, List.mem_append, List.mem_singleton]
        by_cases hm : (p1, p2) ∈ ks.take j
        · rw [if_pos (by rw [decide_eq_true_eq]; exact hm)]
          exact .inl ⟨_, rfl, ⟨j + 1, by rw [decide_eq_true (htk.2 (.inl hm))]; push_cast; rfl, hjl⟩, hd⟩
        · rw [if_neg (by rw [decide_eq_true_eq]; exact hm), if_pos (by omega), Int.toNat_natCast, kget hjl, eqK hp (kin hk hjl), ugetD _ _ hjl]
          refine .inl ⟨_, rfl, ⟨j + 1, ?_, hjl⟩, hd⟩
          have : decide (ks[j] = (p1, p2)) = decide ((p1, p2) ∈ ks.take (j + 1)) := by
            rw [decide_eq_decide, htk]
            exact ⟨fun h => .inr h.symm, fun h => h.elim (fun h => absurd h hm) fun h => h.symm⟩
          rw [this]
          push_cast
          rfl
      · rw [if_neg (by rw [decide_eq_true_eq]; omega)]
        refine .inr ⟨_, rfl, ?_⟩
        rw [List.take_of_length_le (by omega)]
    · rintro _ rfl
      dsimp only
      rw [wrap_i64 (by omega) (by omega)]
      by_cases hm : (p1, p2) ∈ ks
      · rw [decide_eq_true hm, if_neg (by decide)]
        exact .inl ⟨_, rfl, ⟨i + 1, ks, by push_cast; rfl, hil, by omega, hk, hnd⟩, hdown⟩
      · rw [decide_eq_false hm, if_pos (by decide), if_pos (by unfold roomOk; rw [List.length_map]; omega)]
        refine .inl ⟨_, rfl, ⟨i + 1, ks ++ [(p1, p2)], by simp [kOf], hil, by simp; omega, fun k h => ?_, ?_⟩, hdown⟩
        · rcases List.mem_append.1 h with h | h
          · exact hk k h
          · rw [List.mem_singleton] at h; subst h; exact hp
        · rw [List.nodup_append]
          refine ⟨hnd, by simp, fun a ha b hb => ?_⟩
          rw [List.mem_singleton] at hb
          subst hb
          rintro rfl
          exact hm ha
  rintro _ ⟨ks, rfl, hk60, hk, hnd⟩
  rw [List.length_map]
  by_cases hn0 : ks.length = 0
  · have : ks = [] := List.length_eq_zero_iff.1 hn0
    subst this
    refine ⟨true, ?_, rfl⟩
    have h13 : U.f13F (([] : List (Int × Int)).map kOf, 0, 0) = some (-1, false) := by
      unfold U.f13F U.s4F
      dsimp only
      rw [s0_is, s1_is, bestG_eq (ks := []) (c := (0, 0)) (q := fun _ => true) (bt := fun _ _ => true) (by simp) (by simp) (fun i hi => absurd hi (Nat.not_lt_zero i)) (fun i j hi => absurd hi (Nat.not_lt_zero i)),
        bestH_eq (ks := []) (bt := fun _ _ => true) (by simp) (by simp) (fun i j hi => absurd hi (Nat.not_lt_zero i))]
      rfl
    rw [if_pos (by rfl), h13]
    rfl
  have hinj := cs_inj hk hnd
  obtain ⟨sn, rfl⟩ := Int.eq_ofNat_of_zero_le hs.1
  have hst : Int.tmod (IntKind.i64.wrap (sn : Int)) (ks.length : Int) = ((sn % ks.length : Nat) : Int) := by
    rw [wrap_i64 (by omega) (by omega)]
    rfl
  generalize hN : ks.length = n at *
  have hlt : sn % n < n := Nat.mod_lt _ (by omega)
  rw [if_neg (by rw [beq_iff_eq]; omega), if_neg (by omega), if_pos ⟨by omega, by omega, by unfold roomOk; rw [Int.toNat_natCast]; omega⟩]
  simp only [hst, Int.toNat_natCast]
  generalize hS : sn % n = s0 at *
  have hr0 := rk_lt (cs := csOf ks) hlt
  generalize hR0 : rk (csOf ks) n s0 = r0 at *
  refine bind_ex (Q := fun e : Int × Int × List (Nat × Nat) ⊕ Bool => e = .inl (1, (s0 : Int), ks.map kOf)) (iter_rule (I := fun s : Int × Int × Int × List (Nat × Nat) × List Bool => ∃ (m a : Nat) (met : List Bool), s = ((if n ≤ r0 + m then 1 else 0), (a : Int), (m : Int), ks.map kOf, met) ∧ m ≤ n ∧ a < n ∧ met.length = n ∧ rk (csOf ks) n a = rr n r0 m ∧ ∀ i, i < n → met.getD i false = true → ∃ m', m' < m ∧ rk (csOf ks) n i = rr n r0 (m' + 1)) (fun s => ((n : Int) - s.2.2.1).toNat) ?_ _ ⟨0, s0, List.replicate n false, ?_, Nat.zero_le _, hlt, by simp, ?_, ?_⟩) ?_
  rotate_left
  · rw [if_neg (by omega)]
    rfl
  · rw [hR0]
    unfold rr
    rw [if_pos (by omega)]
    rfl
  · intro i hi h
    rw [ugetD _ _ (by simpa using hi)] at h
    simp at h
  · rintro _ rfl
    refine ⟨true, ?_, rfl⟩
    simp only [Sum.elim_inl, List.length_map, hN]
    rw [if_neg (by omega), hst, if_pos (by rw [beq_self_eq_true])]
    rfl
  rintro _ ⟨m, a, met, rfl, hm, ha, hmet, hra, hvis⟩
  dsimp only
  rw [List.length_map, hN]
  by_cases hmn : m < n
  rotate_left
  · rw [if_neg (by rw [decide_eq_true_eq]; omega)]
    refine .inr ⟨_, rfl, ?_⟩
    obtain rfl : m = n := by omega
    rw [if_pos (by omega)]
    have : a = s0 := by
      refine rk_inj hinj ha hlt ?_
      rw [hra, hR0]
      unfold rr
      rw [if_neg (by omega)]
      omega
    rw [this]
  have hks : a < ks.length := by omega
  rw [if_pos (by rw [decide_eq_true_eq]; omega), if_pos (by omega), Int.toNat_natCast, kget hks, u13_eq (by omega) hk hks, hN]
  obtain ⟨j, w, hj1, hj2, hj3⟩ := nxt_spec hinj ha
  rw [hj1]
  simp only [Option.bind_some, enc]
  have hjr : rk (csOf ks) n j = rr n r0 (m + 1) := by
    unfold rr at hra ⊢
    have := rk_lt (cs := csOf ks) ha
    rcases hj3 with ⟨_, h1, h2⟩ | ⟨_, h1⟩
    · split at hra <;> split <;> omega
    · have := rk_lt (cs := csOf ks) hj2
      split at hra <;> split <;> omega
  have hmj : met.getD j false = false := by
    cases h : met.getD j false with
    | false => rfl
    | true =>
      obtain ⟨m', h1, h2⟩ := hvis j hj2 h
      rw [hjr] at h2
      unfold rr at h2
      split at h2 <;> split at h2 <;> omega
  have hjl : j < ks.length := by omega
  rw [if_neg (by rw [decide_eq_true_eq]; omega), if_neg (by rw [decide_eq_true_eq]; omega), if_pos (by omega), Int.toNat_natCast, hmj]
  simp only [Option.bind_some, Bool.false_eq_true, if_false]
  rw [List.length_map, hN, if_pos (by omega), kget hjl, u14_eq (by omega) hk hjl, hN]
  obtain ⟨b, w', hb1, hb2, hb3⟩ := prv_spec hinj hj2
  rw [hb1]
  have hba : b = a ∧ w' = w := by
    rcases hj3 with ⟨e1, h1, h2⟩ | ⟨e1, h1⟩
    · rcases hb3 with ⟨e2, h3, h4⟩ | ⟨e2, h3⟩
      · exact ⟨rk_inj hinj hb2 ha (by omega), by rw [e1, e2]⟩
      · omega
    · rcases hb3 with ⟨e2, h3, h4⟩ | ⟨e2, h3⟩
      · omega
      · exact ⟨rk_inj hinj hb2 ha (by omega), by rw [e1, e2]⟩
  obtain ⟨rfl, rfl⟩ := hba
  simp only [Option.bind_some, enc]
  rw [if_neg (by simp)]
  simp only [Option.bind_some, beq_self_eq_true, Bool.not_true, Bool.false_eq_true, if_false]
  have hdown : ((n : Int) - ((m : Int) + 1)).toNat < ((n : Int) - (m : Int)).toNat := by omega
  have hvis' : ∀ i, i < n → (met.set j true).getD i false = true → ∃ m', m' < m + 1 ∧ rk (csOf ks) n i = rr n r0 (m' + 1) := by
    intro i hi h
    by_cases hij : i = j
    · subst hij
      exact ⟨m, by omega, hjr⟩
    · rw [ugetD _ _ (by simp; omega), List.getElem_set_ne (fun e => hij e.symm)] at h
      obtain ⟨m', h1, h2⟩ := hvis i hi (by rw [ugetD _ _ (by omega)]; exact h)
      exact ⟨m', by omega, h2⟩
  have hk1 : IntKind.i64.wrap ((m : Int) + 1) = ((m + 1 : Nat) : Int) := by rw [wrap_i64 (by omega) (by omega)]; push_cast; rfl
  have hjm : 0 ≤ (j : Int) ∧ (j : Int) < met.length := by omega
  rw [hk1]
  have hrb := rk_lt (cs := csOf ks) ha
  unfold rr at hra
  rcases hj3 with ⟨rfl, h1, h2⟩ | ⟨rfl, h1⟩
  · simp only [if_true, if_pos hjm, Int.toNat_natCast]
    refine .inl ⟨_, rfl, ⟨m + 1, j, _, ?_, hmn, hj2, by simpa using hmet, hjr, hvis'⟩, by push_cast; exact hdown⟩
    split at hra
    · rw [if_neg (by omega), if_pos (by omega)]
      rfl
    · omega
  · simp only [Bool.false_eq_true, if_false, if_pos hjm, Int.toNat_natCast]
    refine .inl ⟨_, rfl, ⟨m + 1, j, _, ?_, hmn, hj2, by simpa using hmet, hjr, hvis'⟩, by push_cast; exact hdown⟩
    have := rk_lt (cs := csOf ks) hj2
    split at hra
    · rw [if_neg (by omega), if_neg (by omega)]
    · rw [if_pos (by omega), if_pos (by omega)]
theorem tourRound_pure (x : List (List Int) × Int) (hw : wfTup [.sl (.arr 2 (.int .u16)), .int .u8] x) : U.f4F x = some true := by
  obtain ⟨l, st⟩ := x
  have h1 : ∀ e ∈ l, e.length = 2 ∧ ∀ v ∈ e, (Ty.int .u16).wf v := hw.1.2
  have h2 : (Ty.int .u8).wf st := hw.2
  refine tourRound_core l st (fun e he => ⟨(h1 e he).1, fun v hv => ?_⟩) ?_
  · have := (h1 e he).2 v hv
    simpa [Ty.wf, IntKind.min, IntKind.max, IntKind.signed, IntKind.bits] using this
  · simpa [Ty.wf, IntKind.min, IntKind.max, IntKind.signed, IntKind.bits] using h2
end Go.Sx
