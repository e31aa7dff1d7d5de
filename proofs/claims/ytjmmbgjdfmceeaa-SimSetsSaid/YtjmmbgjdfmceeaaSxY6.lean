/- Sim, plain: the law SimReaches. -/
import Derived.Test.YtjmmbgjdfmceeaaSxY5
import Derived.Test.YtjmmbgjdfmceeaaSxR
set_option linter.unusedVariables false
set_option linter.unusedSimpArgs false
namespace Go.Sx

theorem s15_some (p : List Inst) (hl : p.length ≤ 9223372036854775807) : ∃ b, S.f15F p = some b := by
  unfold S.f15F
  suffices hh : ∃ r, Option.bind _ _ = some r ∧ True by
    obtain ⟨r, h, _⟩ := hh
    exact ⟨r, h⟩
  refine bind_ex (iter_rule (I := fun (s : Int × Int) => ∃ i : Nat, s.2 = (i : Int) ∧ i ≤ p.length) (Q := fun _ => True) (fun s => ((p.length : Int) - s.2).toNat) ?_ _ ⟨0, rfl, Nat.zero_le _⟩) fun e _ => ⟨_, rfl, trivial⟩
  rintro ⟨n, q⟩ ⟨i, hq, hi⟩
  dsimp only at hq ⊢
  subst hq
  by_cases hil : i < p.length
  · rw [if_pos (by rw [decide_eq_true_eq]; omega)]
    simp only [Option.bind_some]
    by_cases hn : n ≤ 1000
    · rw [if_pos (by rw [decide_eq_true_eq]; exact hn), if_pos (by omega), wrap_i64 (x := (i : Int) + 1) (by omega) (by omega)]
      exact .inl ⟨_, rfl, ⟨i + 1, rfl, hil⟩, by show ((p.length : Int) - ((i : Int) + 1)).toNat < ((p.length : Int) - (i : Int)).toNat; omega⟩
    · rw [if_neg (by rw [decide_eq_true_eq]; exact hn)]
      exact .inr ⟨_, rfl, trivial⟩
  · rw [if_neg (by rw [decide_eq_true_eq]; omega)]
    simp only [Option.bind_some, Bool.false_eq_true, if_false]
    exact .inr ⟨_, rfl, trivial⟩

theorem rise_get {l : List Int} (h : l.Pairwise (· < ·)) {i j : Nat} (hj : j < l.length) (hij : i < j) : l[i] < l[j] :=
  List.pairwise_iff_getElem.1 h i j (by omega) hj hij

/-- 'within'. -/
theorem s25_ok {a b : List Int} (ha : a.Pairwise (· < ·)) (hb : b.Pairwise (· < ·)) (hab : ∀ x ∈ a, x ∈ b) (hal : a.length ≤ 100000) (hbl : b.length ≤ 100000) : S.f25F (a, b) = some true := by
  unfold S.f25F
  suffices hh : ∃ r, Option.bind _ _ = some r ∧ r = true by
    obtain ⟨r, h1, rfl⟩ := hh
    exact h1
  refine bind_ex (iter_rule (I := fun (s : Int × Int) => ∃ k i : Nat, s = ((k : Int), (i : Int)) ∧ i ≤ a.length ∧ k ≤ b.length ∧ ∀ (t j : Nat) (h1 : i ≤ t) (h2 : t < a.length) (h3 : j < k) (h4 : j < b.length), b[j] < a[t]) (Q := fun (e : Unit ⊕ Bool) => e = Sum.inl ()) (fun s => ((a.length : Int) - s.2).toNat) ?_ _ ⟨0, 0, rfl, Nat.zero_le _, Nat.zero_le _, fun t j _ _ h => by omega⟩) ?_
  · rintro _ ⟨k, i, rfl, hi, hk, hI⟩
    dsimp only
    by_cases hil : i < a.length
    · rw [if_pos (by rw [decide_eq_true_eq]; omega)]
      obtain ⟨t, ht, hbt⟩ := List.mem_iff_getElem.1 (hab a[i] (List.getElem_mem hil))
      have hkt : k ≤ t := by
        refine Nat.le_of_not_lt fun h => ?_
        have := hI i t (Nat.le_refl _) hil h ht
        omega
      refine stp_bind (R := fun (e : Int) => e = (t : Int)) (iter_rule (I := fun (s : Int) => ∃ k' : Nat, s = (k' : Int) ∧ k' ≤ t) (fun s => ((t : Int) - s).toNat) ?_ _ ⟨k, rfl, hkt⟩) ?_
      · rintro _ ⟨k', rfl, hk'⟩
        rw [if_pos (by rw [decide_eq_true_eq]; omega), if_pos (by omega), if_pos (by omega), Int.toNat_natCast, Int.toNat_natCast, getD_lt _ _ (show k' < b.length by omega), getD_lt _ _ hil]
        simp only [Option.bind_some]
        by_cases he : k' = t
        · subst he
          rw [hbt, if_neg (by simp)]
          exact .inr ⟨_, rfl, rfl⟩
        · have := rise_get hb ht (show k' < t by omega)
          rw [if_pos (by rw [decide_eq_true_eq]; omega), wrap_i64 (by omega) (by omega)]
          exact .inl ⟨_, rfl, ⟨k' + 1, by omega, by omega⟩, by omega⟩
      · rintro _ rfl
        left
        rw [if_neg (by rw [beq_iff_eq]; omega), if_pos (by omega), if_pos (by omega), Int.toNat_natCast, Int.toNat_natCast, getD_lt _ _ ht, getD_lt _ _ hil, hbt]
        simp only [Option.bind_some, bne_self_eq_false, Bool.false_eq_true, if_false]
        rw [wrap_i64 (by omega) (by omega)]
        refine ⟨_, rfl, ⟨t, i + 1, rfl, hil, by omega, fun t' j h1 h2 h3 h4 => ?_⟩, by show ((a.length : Int) - ((i : Int) + 1)).toNat < ((a.length : Int) - (i : Int)).toNat; omega⟩
        have h5 := rise_get ha h2 (show i < t' by omega)
        have h6 := rise_get hb ht h3
        omega
    · rw [if_neg (by rw [decide_eq_true_eq]; omega)]
      exact .inr ⟨_, rfl, rfl⟩
  · rintro _ rfl
    exact ⟨_, rfl, rfl⟩

theorem Rch.more {p : List Inst} {st sp : Bool} {A B : Int → Prop} {j : Int} (h : Rch p st sp A j) (hAB : ∀ i, A i → B i) : Rch p st sp B j := h.sub fun i h1 h2 h3 => .base (hAB i h1) h2 h3

theorem Rch.free {p : List Inst} {st sp : Bool} {A : Int → Prop} {j : Int} (h : Rch p false false A j) : Rch p st sp A j := by
  induction h with
  | base h1 h2 h3 => exact .base h1 h2 h3
  | step _ h ih =>
    refine .step ih ⟨h.1, h.2.1, ?_⟩
    have := h.2.2
    unfold tgt at this ⊢
    split at this
    · rename_i e; rw [if_pos e]; exact this
    · rename_i e
      rw [if_neg e]
      split at this
      · rename_i e; rw [if_pos e]; exact this
      · simp at this

theorem Marks.mem {p : List Inst} {st sp : Bool} {A : List Int} {m : List Bool} (h : Marks p st sp A m) (k : Int) : k ∈ risingS m ↔ 0 ≤ k ∧ Rch p st sp (· ∈ A) k := by
  rw [risingS_mem]
  constructor
  · rintro ⟨h1, h2, h3⟩; exact ⟨h1, (h.iff k h1).1 h3⟩
  · rintro ⟨h1, h2⟩
    have := (h.iff k h1).2 h2
    exact ⟨h1, mkd_lt h1 this, this⟩

/-- What is reached of what is reached. -/
theorem Marks.again {p : List Inst} {st sp : Bool} {A : List Int} {m m' : List Bool} (hp : rightS p = true) (h : Marks p st sp A m) (k : Marks p st sp (risingS m) m') : m' = m := by
  refine k.uniq h fun j => ⟨fun q => q.sub fun i hi _ _ => ((h.mem i).1 hi).2, fun q => ?_⟩
  cases q with
  | base h1 h2 h3 => exact .base ((h.mem _).2 ⟨h2, .base h1 h2 h3⟩) h2 h3
  | step h1 h2 =>
    have := Edg_in hp h2
    exact .base ((h.mem _).2 ⟨this.1, .step h1 h2⟩) this.1 this.2

theorem simReaches_pure (x : List Inst × List Int × List Int) (h : wfTup [.sl (.st (.pair (.int .i64) (.pair (.sl (.st (.pair (.int .i64) (.int .i64)))) (.pair (.int .i64) (.int .i64))))), .sl (.int .i64), .sl (.int .i64)] x) : S.f5F x = some true := by
  obtain ⟨p, A, B⟩ := x
  have hpl : p.length ≤ 9223372036854775807 := h.1.1
  unfold S.f5F
  rw [sAlive]
  simp only [Option.bind_some, Bool.not_true, Bool.false_eq_true, if_false]
  obtain ⟨g, hg⟩ := s15_some p hpl
  rw [hg]
  simp only [Option.bind_some]
  cases g with
  | true => rfl
  | false =>
  simp only [Bool.false_eq_true, if_false]
  by_cases h1 : (p.length : Int) > 200
  · rw [if_pos (by rw [decide_eq_true_eq]; exact h1)]; rfl
  rw [if_neg (by rw [decide_eq_true_eq]; exact h1)]
  by_cases h2 : (A.length : Int) > 300
  · rw [if_pos (by rw [decide_eq_true_eq]; exact h2)]; rfl
  rw [if_neg (by rw [decide_eq_true_eq]; exact h2)]
  simp only [Option.bind_some]
  by_cases h3 : (B.length : Int) > 300
  · rw [if_pos (by rw [decide_eq_true_eq]; exact h3)]
  rw [if_neg (by rw [decide_eq_true_eq]; exact h3)]
  cases hp : rightS p with
  | false =>
    rw [s17_wrong hp (by omega), s17_wrong hp (by omega), s17_wrong hp (by omega)]
    simp only [Option.bind_some, List.nil_append]
    rw [if_pos (by unfold roomOk; (try simp only [Nat.zero_add, List.nil_append]); omega), if_pos (by unfold roomOk; (try simp only [Nat.zero_add, List.nil_append]); omega), s17_wrong hp (by omega)]
    simp only [Option.bind_some]
    rw [s16_eq _ _ (by simp), s25_ok List.Pairwise.nil List.Pairwise.nil (fun _ h => h) (by simp) (by simp)]
    rfl
  | true =>
    obtain ⟨ma, a1, a2⟩ := s17_ok (st := false) (sp := false) (A := A) hp (by omega)
    obtain ⟨mb, b1, b2⟩ := s17_ok (st := false) (sp := false) (A := A ++ B) hp (by simp; omega)
    obtain ⟨mc, c1, c2⟩ := s17_ok (st := true) (sp := true) (A := A) hp (by omega)
    have hla := a2.len
    have hlb := b2.len
    have hlc := c2.len
    have ra := risingS_len ma
    have rb := risingS_len mb
    have rc := risingS_len mc
    obtain ⟨md, d1, d2⟩ := s17_ok (st := false) (sp := false) (A := risingS ma) hp (by omega)
    obtain rfl := a2.again hp d2
    rw [a1]
    simp only [Option.bind_some, List.nil_append]
    rw [if_pos (by unfold roomOk; (try simp only [Nat.zero_add, List.nil_append]); omega), if_pos (by unfold roomOk; (try simp only [Nat.zero_add, List.nil_append]); omega), b1]
    simp only [Option.bind_some]
    rw [c1]
    simp only [Option.bind_some]
    rw [d1]
    simp only [Option.bind_some]
    rw [s16_eq _ _ (by omega), s25_ok (risingS_rise _) (risingS_rise mb) (fun x hx => (b2.mem x).2 ⟨((a2.mem x).1 hx).1, ((a2.mem x).1 hx).2.more fun i hi => List.mem_append_left _ hi⟩) (by omega) (by omega),
      s25_ok (risingS_rise _) (risingS_rise mc) (fun x hx => (c2.mem x).2 ⟨((a2.mem x).1 hx).1, ((a2.mem x).1 hx).2.free⟩) (by omega) (by omega)]
    simp
end Go.Sx
