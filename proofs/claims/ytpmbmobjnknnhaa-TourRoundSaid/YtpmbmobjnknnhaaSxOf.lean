/- Tour: the best key, the next one, the one ahead: what is told. -/
import Derived.Test.YtpmbmobjnknnhaaSxOe
set_option linter.unusedVariables false
set_option linter.unusedSimpArgs false
namespace Go.Sx
noncomputable def bestG (T : (Nat × Nat) × Nat × Nat → Option (Bool × Nat × Nat)) (Bt : (Nat × Nat) × Nat × Nat → Option Bool) : List (Nat × Nat) × Nat × Nat → Option (Int × Nat × Nat) :=
  fun (x : List (Nat × Nat) × Nat × Nat) =>
  Option.bind
    (Go.Sx.iter
      (fun (s1 : Int × Int × Nat × Nat) =>
        if Decidable.decide (s1.snd.fst < (↑(List.length x.fst) : Int)) = Bool.true then
          if (0 : Int) ≤ s1.snd.fst ∧ s1.snd.fst < (↑(List.length x.fst) : Int) then
            Option.bind
              (Option.bind (Go.Sx.U.f18F (List.getD x.fst (Int.toNat s1.snd.fst) ((0 : Nat), (0 : Nat)))) fun (v2 : Bool) =>
                if v2 = Bool.true then
                  Option.bind (T (List.getD x.fst (Int.toNat s1.snd.fst) ((0 : Nat), (0 : Nat)), s1.snd.2)) fun (v3 : Bool × Nat × Nat) =>
                    if v3.fst = Bool.true then
                      if (s1.fst == (-1 : Int)) = Bool.true then Option.some (Bool.true, v3.2)
                      else
                        if (0 : Int) ≤ s1.fst ∧ s1.fst < (↑(List.length x.fst) : Int) then
                          Option.bind (Bt (List.getD x.fst (Int.toNat s1.snd.fst) ((0 : Nat), (0 : Nat)), List.getD x.fst (Int.toNat s1.fst) ((0 : Nat), (0 : Nat)))) fun (v4 : Bool) =>
                            Option.some (v4, v3.2)
                        else Option.none
                    else Option.some (Bool.false, v3.2)
                else Option.some (Bool.false, s1.snd.2))
              fun (v2 : Bool × Nat × Nat) =>
              if v2.fst = Bool.true then Option.some (Sum.inl (s1.snd.1, Go.IntKind.wrap Go.IntKind.i64 (s1.snd.fst + (1 : Int)), v2.2))
              else Option.some (Sum.inl (s1.1, Go.IntKind.wrap Go.IntKind.i64 (s1.snd.fst + (1 : Int)), v2.2))
          else Option.none
        else Option.some (Sum.inr (s1.1, s1.snd.2)))
      ((-1 : Int), (0 : Int), x.2))
    fun (v1 : Int × Nat × Nat) => Option.some (v1.1, v1.2)
noncomputable def bestH (Bt : (Nat × Nat) × Nat × Nat → Option Bool) : List (Nat × Nat) → Option (Int) :=
  fun (x : List (Nat × Nat)) =>
  Option.bind
    (Go.Sx.iter
      (fun (s1 : Int × Int) =>
        if Decidable.decide (s1.snd < (↑(List.length x) : Int)) = Bool.true then
          if (0 : Int) ≤ s1.snd ∧ s1.snd < (↑(List.length x) : Int) then
            Option.bind
              (Option.bind (Go.Sx.U.f18F (List.getD x (Int.toNat s1.snd) ((0 : Nat), (0 : Nat)))) fun (v2 : Bool) =>
                if v2 = Bool.true then
                  Option.bind (Go.Sx.U.f39F (List.getD x (Int.toNat s1.snd) ((0 : Nat), (0 : Nat)))) fun (v3 : Bool) =>
                    if v3 = Bool.true then
                      if (s1.fst == (-1 : Int)) = Bool.true then Option.some Bool.true
                      else
                        if (0 : Int) ≤ s1.fst ∧ s1.fst < (↑(List.length x) : Int) then
                          Option.bind (Bt (List.getD x (Int.toNat s1.snd) ((0 : Nat), (0 : Nat)), List.getD x (Int.toNat s1.fst) ((0 : Nat), (0 : Nat)))) fun (v4 : Bool) => Option.some v4
                        else Option.none
                    else Option.some Bool.false
                else Option.some Bool.false)
              fun (v2 : Bool) =>
              if v2 = Bool.true then Option.some (Sum.inl (s1.2, Go.IntKind.wrap Go.IntKind.i64 (s1.snd + (1 : Int))))
              else Option.some (Sum.inl (s1.1, Go.IntKind.wrap Go.IntKind.i64 (s1.snd + (1 : Int))))
          else Option.none
        else Option.some (Sum.inr s1.1))
      ((-1 : Int), (0 : Int)))
    fun (v1 : Int) => Option.some v1
theorem s0_is : U.s0F = bestG U.f26F U.f28F := rfl
theorem s2_is : U.s2F = bestG U.f29F U.f30F := rfl
theorem s1_is : U.s1F = bestH U.f28F := rfl
theorem s3_is : U.s3F = bestH U.f30F := rfl
def enc : Option Nat → Int
  | none => -1
  | some j => (j : Int)
theorem bestI_lt {q : Nat → Bool} {bt : Nat → Nat → Bool} : ∀ {n j : Nat}, bestI q bt n = some j → j < n
  | 0, j, h => by simp [bestI] at h
  | n + 1, j, h => by
    simp only [bestI] at h
    cases hb : bestI q bt n with
    | none =>
      rw [hb] at h
      dsimp only at h
      split at h
      · cases h; omega
      · cases h
    | some i =>
      have := bestI_lt hb
      rw [hb] at h
      dsimp only at h
      split at h
      · split at h <;> cases h <;> omega
      · cases h; omega
section
variable {ks : List (Int × Int)}
theorem kget {i : Nat} (h : i < ks.length) : (ks.map kOf).getD i (0, 0) = kOf (ks.getD i (0, 0)) := by
  rw [ugetD _ _ (by simpa using h), ugetD _ _ h, List.getElem_map]
theorem kin (hk : ∀ k ∈ ks, inK k) {i : Nat} (h : i < ks.length) : inK (ks.getD i (0, 0)) := by
  rw [ugetD _ _ h]
  exact hk _ (List.getElem_mem h)
theorem bestG_eq {T : (Nat × Nat) × Nat × Nat → Option (Bool × Nat × Nat)} {Bt : (Nat × Nat) × Nat × Nat → Option Bool} {c : Nat × Nat} {q : Nat → Bool} {bt : Nat → Nat → Bool} (hl : ks.length ≤ 60) (hk : ∀ k ∈ ks, inK k)
    (hT : ∀ i, i < ks.length → T (kOf (ks.getD i (0, 0)), c) = some (q i, c)) (hB : ∀ i j, i < ks.length → j < ks.length → Bt (kOf (ks.getD i (0, 0)), kOf (ks.getD j (0, 0))) = some (bt i j)) :
    bestG T Bt (ks.map kOf, c) = some (enc (bestI q bt ks.length), c) := by
  unfold bestG
  refine uex_to ?_
  refine bind_ex (Q := fun e : Int × Nat × Nat => e = (enc (bestI q bt ks.length), c)) (iter_rule (I := fun s : Int × Int × Nat × Nat => ∃ i : Nat, s = (enc (bestI q bt i), (i : Int), c) ∧ i ≤ ks.length) (fun s => ((ks.length : Int) - s.2.1).toNat) ?_ _ ⟨0, rfl, Nat.zero_le _⟩) ?_
  rotate_left
  · rintro _ rfl
    exact ⟨_, rfl, rfl⟩
  rintro _ ⟨i, rfl, hi⟩
  dsimp only
  rw [List.length_map]
  by_cases hil : i < ks.length
  rotate_left
  · rw [if_neg (by rw [decide_eq_true_eq]; omega)]
    refine .inr ⟨_, rfl, ?_⟩
    rw [show i = ks.length by omega]
  rw [if_pos (by rw [decide_eq_true_eq]; omega), if_pos (by omega), Int.toNat_natCast, kget hil, u18_eq (kin hk hil), wrap_i64 (by omega) (by omega)]
  simp only [Option.bind_some, if_true]
  rw [hT i hil]
  simp only [Option.bind_some]
  have hdown : ((ks.length : Int) - ((i : Int) + 1)).toNat < ((ks.length : Int) - (i : Int)).toNat := by omega
  cases hq : q i with
  | false =>
    simp only [Bool.false_eq_true, if_false, Option.bind_some]
    refine .inl ⟨_, rfl, ⟨i + 1, ?_, hil⟩, hdown⟩
    have : bestI q bt (i + 1) = bestI q bt i := by
      simp only [bestI, hq]
      cases bestI q bt i <;> simp
    rw [this]
    push_cast
    rfl
  | true =>
    simp only [if_true]
    cases hb : bestI q bt i with
    | none =>
      rw [if_pos (by rfl)]
      simp only [Option.bind_some, if_true]
      refine .inl ⟨_, rfl, ⟨i + 1, ?_, hil⟩, hdown⟩
      have : bestI q bt (i + 1) = some i := by simp [bestI, hq, hb]
      rw [this]
      push_cast
      rfl
    | some j =>
      have hj := bestI_lt hb
      have hj1 : ¬ ((j : Int) == -1) = true := by rw [beq_iff_eq]; omega
      have hj2 : 0 ≤ (j : Int) ∧ (j : Int) < ks.length := by omega
      rw [show enc (some j) = (j : Int) from rfl, if_neg hj1, if_pos hj2, Int.toNat_natCast, kget (by omega), hB i j hil (by omega)]
      simp only [Option.bind_some]
      cases hbt : bt i j with
      | true =>
        simp only [if_true]
        refine .inl ⟨_, rfl, ⟨i + 1, ?_, hil⟩, hdown⟩
        have : bestI q bt (i + 1) = some i := by simp [bestI, hq, hb, hbt]
        rw [this]
        push_cast
        rfl
      | false =>
        simp only [Bool.false_eq_true, if_false]
        refine .inl ⟨_, rfl, ⟨i + 1, ?_, hil⟩, hdown⟩
        have : bestI q bt (i + 1) = some j := by simp [bestI, hq, hb, hbt]
        rw [this]
        push_cast
        rfl
theorem bestH_eq {Bt : (Nat × Nat) × Nat × Nat → Option Bool} {bt : Nat → Nat → Bool} (hl : ks.length ≤ 60) (hk : ∀ k ∈ ks, inK k)
    (hB : ∀ i j, i < ks.length → j < ks.length → Bt (kOf (ks.getD i (0, 0)), kOf (ks.getD j (0, 0))) = some (bt i j)) :
    bestH Bt (ks.map kOf) = some (enc (bestI (fun _ => true) bt ks.length)) := by
  unfold bestH
  refine uex_to ?_
  refine bind_ex (Q := fun e : Int => e = enc (bestI (fun _ => true) bt ks.length)) (iter_rule (I := fun s : Int × Int => ∃ i : Nat, s = (enc (bestI (fun _ => true) bt i), (i : Int)) ∧ i ≤ ks.length) (fun s => ((ks.length : Int) - s.2).toNat) ?_ _ ⟨0, rfl, Nat.zero_le _⟩) ?_
  rotate_left
  · rintro _ rfl
    exact ⟨_, rfl, rfl⟩
  rintro _ ⟨i, rfl, hi⟩
  dsimp only
  rw [List.length_map]
  by_cases hil : i < ks.length
  rotate_left
  · rw [if_neg (by rw [decide_eq_true_eq]; omega)]
    refine .inr ⟨_, rfl, ?_⟩
    rw [show i = ks.length by omega]
  rw [if_pos (by rw [decide_eq_true_eq]; omega), if_pos (by omega), Int.toNat_natCast, kget hil, u18_eq (kin hk hil), wrap_i64 (by omega) (by omega)]
  simp only [Option.bind_some, if_true, show ∀ z, U.f39F z = some true from fun _ => rfl]
  have hdown : ((ks.length : Int) - ((i : Int) + 1)).toNat < ((ks.length : Int) - (i : Int)).toNat := by omega
  cases hb : bestI (fun _ => true) bt i with
  | none =>
    rw [if_pos (by rfl)]
    simp only [Option.bind_some, if_true]
    refine .inl ⟨_, rfl, ⟨i + 1, ?_, hil⟩, hdown⟩
    have : bestI (fun _ => true) bt (i + 1) = some i := by simp [bestI, hb]
    rw [this]
    push_cast
    rfl
  | some j =>
    have hj := bestI_lt hb
    have hj1 : ¬ ((j : Int) == -1) = true := by rw [beq_iff_eq]; omega
    have hj2 : 0 ≤ (j : Int) ∧ (j : Int) < ks.length := by omega
    rw [show enc (some j) = (j : Int) from rfl, if_neg hj1, if_pos hj2, Int.toNat_natCast, kget (by omega), hB i j hil (by omega)]
    simp only [Option.bind_some]
    cases hbt : bt i j with
    | true =>
      simp only [if_true]
      refine .inl ⟨_, rfl, ⟨i + 1, ?_, hil⟩, hdown⟩
      have : bestI (fun _ => true) bt (i + 1) = some i := by simp [bestI, hb, hbt]
      rw [this]
      push_cast
      rfl
    | false =>
      simp only [Bool.false_eq_true, if_false]
      refine .inl ⟨_, rfl, ⟨i + 1, ?_, hil⟩, hdown⟩
      have : bestI (fun _ => true) bt (i + 1) = some j := by simp [bestI, hb, hbt]
      rw [this]
      push_cast
      rfl
def csOf (ks : List (Int × Int)) (i : Nat) : Int := code (ks.getD i (0, 0))
theorem enc_ne (o : Option Nat) : (enc o != -1) = o.isSome := by
  cases o with
  | none => rfl
  | some j =>
    simp only [enc, Option.isSome_some, bne_iff_ne]
    omega
theorem u13_eq (hl : ks.length ≤ 60) (hk : ∀ k ∈ ks, inK k) {a : Nat} (ha : a < ks.length) : U.f13F (ks.map kOf, kOf (ks.getD a (0, 0))) = some (enc (nxt (csOf ks) ks.length a).1, (nxt (csOf ks) ks.length a).2) := by
  unfold U.f13F U.s4F
  dsimp only
  rw [s0_is, s1_is, bestG_eq (q := fun k => decide (csOf ks a < csOf ks k)) (bt := fun i j => decide (csOf ks i < csOf ks j)) hl hk (fun i hi => u26_eq (kin hk hi) (kin hk ha)) (fun i j hi hj => u28_eq (kin hk hi) (kin hk hj)),
    bestH_eq (bt := fun i j => decide (csOf ks i < csOf ks j)) hl hk (fun i j hi hj => u28_eq (kin hk hi) (kin hk hj))]
  simp only [Option.bind_some, enc_ne]
  unfold nxt
  cases bestI (fun k => decide (csOf ks a < csOf ks k)) (fun i j => decide (csOf ks i < csOf ks j)) ks.length with
  | some j => rfl
  | none =>
    simp only [Option.isSome_none, Bool.false_eq_true, if_false, Option.bind_some]
    cases bestI (fun _ => true) (fun i j => decide (csOf ks i < csOf ks j)) ks.length <;> rfl
theorem u14_eq (hl : ks.length ≤ 60) (hk : ∀ k ∈ ks, inK k) {a : Nat} (ha : a < ks.length) : U.f14F (ks.map kOf, kOf (ks.getD a (0, 0))) = some (enc (prv (csOf ks) ks.length a).1, (prv (csOf ks) ks.length a).2) := by
  unfold U.f14F U.s5F
  dsimp only
  rw [s2_is, s3_is, bestG_eq (q := fun k => decide (csOf ks k < csOf ks a)) (bt := fun i j => decide (csOf ks j ≤ csOf ks i)) hl hk (fun i hi => u29_eq (kin hk hi) (kin hk ha)) (fun i j hi hj => u30_eq (kin hk hi) (kin hk hj)),
    bestH_eq (bt := fun i j => decide (csOf ks j ≤ csOf ks i)) hl hk (fun i j hi hj => u30_eq (kin hk hi) (kin hk hj))]
  simp only [Option.bind_some, enc_ne]
  unfold prv
  cases bestI (fun k => decide (csOf ks k < csOf ks a)) (fun i j => decide (csOf ks j ≤ csOf ks i)) ks.length with
  | some j => rfl
  | none =>
    simp only [Option.isSome_none, Bool.false_eq_true, if_false, Option.bind_some]
    cases bestI (fun _ => true) (fun i j => decide (csOf ks j ≤ csOf ks i)) ks.length <;> rfl
theorem cs_inj (hk : ∀ k ∈ ks, inK k) (hn : ks.Nodup) : ∀ i j, i < ks.length → j < ks.length → csOf ks i = csOf ks j → i = j := by
  intro i j hi hj h
  have := code_inj (kin hk hi) (kin hk hj) h
  rw [ugetD _ _ hi, ugetD _ _ hj] at this
  exact (List.getElem_inj hn).1 this
end
end Go.Sx
