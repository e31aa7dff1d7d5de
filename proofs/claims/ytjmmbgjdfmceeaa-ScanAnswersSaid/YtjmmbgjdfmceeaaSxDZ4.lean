/- Sorting: what is nearly in order; all together. -/
import Derived.Test.YtjmmbgjdfmceeaaSxDZ3
set_option linter.unusedVariables false
set_option linter.unusedSimpArgs false
namespace Go.Sx
def PreA (a b : Nat) (l : List Int) : Prop := a = 0 ∨ ∀ k, a ≤ k → k < b → VV l (a - 1) ≤ VV l k
theorem PreA.sw {a b : Nat} {l l' : List Int} (h : PreA a b l) (hS : Sw (0 : Int) a b l l') : PreA a b l' := by
  rcases Nat.eq_zero_or_pos a with h0 | h0
  · exact .inl h0
  · right
    have h1 := h.resolve_left (by omega)
    have h2 : VV l' (a - 1) = VV l (a - 1) := hS.vout (key := id) (k := a - 1) (.inl (by omega))
    rw [h2]
    exact hS.vall (key := id) (fun x => VV l (a - 1) ≤ x) h1
theorem Srt.sw {a i b : Nat} {l l' : List Int} (h : Srt (0 : Int) id a i l) (hS : Sw (0 : Int) i b l l') : Srt (0 : Int) id a i l' := by
  intro x h1 h2
  rw [hS.vout (k := x) (.inl (by omega)), hS.vout (k := x + 1) (.inl (by omega))]
  exact h x h1 h2
theorem s115_ok {a b : Nat} {l : List Int} (hab : a < b) (hb : b ≤ l.length) (hl : l.length ≤ 100000) (hpre : PreA a b l) : ∃ (w : Bool) (l' : List Int), D.f115F ((a : Int), (b : Int), l) = some (w, l') ∧ Sw (0 : Int) a b l l' ∧ (w = true → Srt (0 : Int) id a b l') := by
  suffices hh : ∃ r, D.f115F ((a : Int), (b : Int), l) = some r ∧ Sw (0 : Int) a b l r.2 ∧ (r.1 = true → Srt (0 : Int) id a b r.2) by
    obtain ⟨⟨w, l'⟩, h1, h2⟩ := hh
    exact ⟨w, l', h1, h2⟩
  unfold D.f115F
  dsimp only
  refine bind_ex (Q := fun (e : List Int ⊕ Bool × List Int) => (∃ l', e = .inl l' ∧ Sw (0 : Int) a b l l') ∨ ∃ w l', e = .inr (w, l') ∧ Sw (0 : Int) a b l l' ∧ (w = true → Srt (0 : Int) id a b l'))
    (iter_rule (I := fun (s : Int × Int × List Int) => ∃ (i j : Nat) (l' : List Int), s = ((i : Int), (j : Int), l') ∧ a + 1 ≤ i ∧ i ≤ b ∧ j ≤ 5 ∧ Sw (0 : Int) a b l l' ∧ Srt (0 : Int) id a i l') (fun s => (5 - s.2.1).toNat) ?_ _
      ⟨a + 1, 0, l, by rw [wrap_i64 (by omega) (by omega)]; rfl, Nat.le_refl _, by omega, by omega, .refl _, fun x h1 h2 => by omega⟩) ?_
  rotate_left
  · rintro _ (⟨l', rfl, h1⟩ | ⟨w, l', rfl, h1, h2⟩)
    · exact ⟨_, rfl, h1, fun h => by cases h⟩
    · exact ⟨_, rfl, h1, h2⟩
  rintro _ ⟨i, j, l1, rfl, hi, hib, hj, hS, hSr⟩
  dsimp only
  have hlen := hS.len
  have hpre1 := hpre.sw hS
  by_cases hj5 : j < 5
  · rw [if_pos (by rw [decide_eq_true_eq]; omega)]
    refine stp_bind (R := fun (r : Int × List Int) => ∃ i' : Nat, r = ((i' : Int), l1) ∧ i ≤ i' ∧ i' ≤ b ∧ Srt (0 : Int) id a i' l1 ∧ (i' < b → VV l1 i' < VV l1 (i' - 1))) ?_ ?_
    · refine iter_rule (I := fun (s : Int × List Int) => ∃ i' : Nat, s = ((i' : Int), l1) ∧ i ≤ i' ∧ i' ≤ b ∧ Srt (0 : Int) id a i' l1) (fun s => ((b : Int) - s.1).toNat) ?_ _ ⟨i, rfl, Nat.le_refl _, hib, hSr⟩
      rintro _ ⟨i', rfl, h1, h2, h3⟩
      dsimp only
      by_cases hb' : i' < b
      · rw [if_pos (by rw [decide_eq_true_eq]; omega), if_pos (by omega), wrap_i64 (by omega) (by omega), if_pos (by omega), Int.toNat_natCast, show ((i' : Int) - 1).toNat = i' - 1 by omega, less_eq]
        simp only [Option.bind_some]
        by_cases hlt : VV l1 i' < VV l1 (i' - 1)
        · rw [if_neg (by simp; exact hlt)]
          exact .inr ⟨_, rfl, i', rfl, h1, h2, h3, fun _ => hlt⟩
        · rw [if_pos (by simp; omega), wrap_i64 (by omega) (by omega)]
          refine .inl ⟨_, rfl, ⟨i' + 1, rfl, by omega, by omega, fun x x1 x2 => ?_⟩, by show ((b : Int) - ((i' : Int) + 1)).toNat < ((b : Int) - (i' : Int)).toNat; omega⟩
          by_cases hx : x + 1 < i'
          · exact h3 x x1 hx
          · have : i' - 1 = x := by omega
            rw [this] at hlt
            have hx' : x + 1 = i' := by omega
            rw [hx']
            show VV l1 x ≤ VV l1 i'
            omega
      · rw [if_neg (by rw [decide_eq_true_eq]; omega)]
        simp only [Option.bind_some, Bool.false_eq_true, if_false]
        exact .inr ⟨_, rfl, i', rfl, h1, h2, h3, fun h => absurd h hb'⟩
    rintro _ ⟨i', rfl, hi1, hi2, hi3, hi4⟩
    dsimp only
    by_cases hend : i' = b
    · subst hend
      rw [if_pos (by simp)]
      exact .inr ⟨_, rfl, .inr ⟨_, _, rfl, hS, fun _ => hi3⟩⟩
    rw [if_neg (by rw [beq_iff_eq]; omega), wrap_i64 (x := (b : Int) - (a : Int)) (by omega) (by omega)]
    by_cases h50 : b - a < 50
    · rw [if_pos (by rw [decide_eq_true_eq]; omega)]
      exact .inr ⟨_, rfl, .inr ⟨_, _, rfl, hS, fun h => by cases h⟩⟩
    have hlt := hi4 (by omega)
    rw [if_neg (by rw [decide_eq_true_eq]; omega), wrap_i64 (x := (i' : Int) - 1) (by omega) (by omega), if_pos (by omega), if_pos (by omega), if_pos (by omega), if_pos (by rw [List.length_set]; omega), Int.toNat_natCast, show ((i' : Int) - 1).toNat = i' - 1 by omega, wrap_i64 (x := (i' : Int) - (a : Int)) (by omega) (by omega), wrap_i64 (x := (b : Int) - (i' : Int)) (by omega) (by omega), wrap_i64 (x := (i' : Int) + 1) (by omega) (by omega)]
    have hsw : (l1.set i' (l1.getD (i' - 1) 0)).set (i' - 1) (l1.getD i' 0) = swp 0 l1 i' (i' - 1) := rfl
    rw [hsw]
    have hs := fun k => swp_comm (l := l1) (i := i') (j := i' - 1) (by omega) (by omega) k
    have hS2 : Sw (0 : Int) a b l (swp 0 l1 i' (i' - 1)) := .step hS (by omega) (by omega) (by omega) (by omega) (by omega)
    have hl2 : (swp 0 l1 i' (i' - 1)).length = l.length := by rw [swp_len]; omega
    have hJ0 : InsJ a (i' - 1) (swp 0 l1 i' (i' - 1)) (i' - 1) := ⟨by omega, fun x y x1 x2 x3 x4 x5 => by
      rw [hs x, hs y, if_neg (by omega), if_neg (by omega), if_neg (by omega), if_neg (by omega)]
      exact hi3.le x1 (by omega) (by omega), fun y y1 y2 => by omega⟩
    generalize swp 0 l1 i' (i' - 1) = l2 at *
    refine stp_bind (R := fun (r : List Int) => Sw (0 : Int) a b l r ∧ Srt (0 : Int) id a i' r) ?_ ?_
    · by_cases hia : 2 ≤ i' - a
      · rw [if_pos (by rw [decide_eq_true_eq]; omega)]
        refine bind_ex (iter_rule (I := fun (s : Int × List Int) => ∃ (k : Nat) (l' : List Int), s = ((k : Int), l') ∧ InsJ a (i' - 1) l' k ∧ Sw (0 : Int) a b l l') (Q := fun r => Sw (0 : Int) a b l r ∧ Srt (0 : Int) id a i' r) (fun s => s.1.toNat) ?_ _ ⟨i' - 1, l2, by rw [show ((i' - 1 : Nat) : Int) = (i' : Int) - 1 by omega], hJ0, hS2⟩) fun e he => ⟨_, rfl, he⟩
        rintro _ ⟨k, l3, rfl, hJ, hS3⟩
        dsimp only
        have hlen3 := hS3.len
        have h2 := hJ.le
        have hpre3 := hpre.sw hS3
        have done : (k = a ∨ VV l3 (k - 1) ≤ VV l3 k) → Srt (0 : Int) id a i' l3 := fun h => by
          have := hJ.done h
          rwa [show i' - 1 + 1 = i' by omega] at this
        by_cases hk1 : 1 ≤ k
        · rw [if_pos (by rw [decide_eq_true_eq]; omega), if_pos (by omega), wrap_i64 (by omega) (by omega), if_pos (by omega), Int.toNat_natCast, show ((k : Int) - 1).toNat = k - 1 by omega, less_eq]
          simp only [Option.bind_some]
          by_cases hlt3 : VV l3 k < VV l3 (k - 1)
          · have hka : a < k := by
              rcases Nat.lt_or_ge a k with h | h
              · exact h
              · have : k = a := by omega
                subst this
                have := hpre3.resolve_left (by omega) k (Nat.le_refl _) (by omega)
                omega
            rw [if_neg (by simp; exact hlt3), if_pos (by omega), if_pos (by omega), if_pos (by omega), if_pos (by rw [List.length_set]; omega)]
            exact .inl ⟨_, rfl, ⟨k - 1, swp 0 l3 k (k - 1), by rw [show ((k : Int) - 1) = ((k - 1 : Nat) : Int) by omega]; rfl, hJ.step (by omega) hka hlt3, .step hS3 (by omega) (by omega) (by omega) (by omega) (by omega)⟩, by show ((k : Int) - 1).toNat < (k : Int).toNat; omega⟩
          · rw [if_pos (by simp; omega)]
            exact .inr ⟨_, rfl, hS3, done (.inr (by omega))⟩
        · rw [if_neg (by rw [decide_eq_true_eq]; omega)]
          exact .inr ⟨_, rfl, hS3, done (.inl (by omega))⟩
      · rw [if_neg (by rw [decide_eq_true_eq]; omega)]
        exact ⟨_, rfl, hS2, fun x x1 x2 => by omega⟩
    rintro l3 ⟨hS3, hSr3⟩
    have hlen3 := hS3.len
    have hw : IntKind.i64.wrap ((j : Int) + 1) = ((j + 1 : Nat) : Int) := by rw [wrap_i64 (by omega) (by omega)]; omega
    rw [hw]
    by_cases hbi : 2 ≤ b - i'
    · rw [if_pos (by rw [decide_eq_true_eq]; omega)]
      refine stp_bind (R := fun (r : List Int) => Sw (0 : Int) i' b l3 r) (iter_rule (I := fun (s : Int × List Int) => ∃ (k : Nat) (l' : List Int), s = ((k : Int), l') ∧ i' + 1 ≤ k ∧ k ≤ b ∧ Sw (0 : Int) i' b l3 l') (fun s => ((b : Int) - s.1).toNat) ?_ _ ⟨i' + 1, l3, rfl, Nat.le_refl _, by omega, .refl _⟩) ?_
      · rintro _ ⟨k, l4, rfl, k1, k2, hS4⟩
        dsimp only
        have hlen4 := hS4.len
        by_cases hkb : k < b
        · rw [if_pos (by rw [decide_eq_true_eq]; omega), if_pos (by omega), wrap_i64 (x := (k : Int) - 1) (by omega) (by omega), if_pos (by omega), Int.toNat_natCast, show ((k : Int) - 1).toNat = k - 1 by omega, less_eq]
          simp only [Option.bind_some]
          by_cases hlt3 : VV l4 k < VV l4 (k - 1)
          · rw [if_neg (by simp; exact hlt3), if_pos (by omega), if_pos (by omega), if_pos (by omega), if_pos (by rw [List.length_set]; omega), wrap_i64 (by omega) (by omega)]
            exact .inl ⟨_, rfl, ⟨k + 1, swp 0 l4 k (k - 1), rfl, by omega, by omega, .step hS4 (by omega) (by omega) (by omega) (by omega) (by omega)⟩, by show ((b : Int) - ((k : Int) + 1)).toNat < ((b : Int) - (k : Int)).toNat; omega⟩
          · rw [if_pos (by simp; omega)]
            exact .inr ⟨_, rfl, hS4⟩
        · rw [if_neg (by rw [decide_eq_true_eq]; omega)]
          exact .inr ⟨_, rfl, hS4⟩
      · intro l4 hS4
        left
        exact ⟨_, rfl, ⟨i', j + 1, l4, rfl, by omega, by omega, by omega, hS3.trans (hS4.mono (by omega) (Nat.le_refl _) (by omega)), hSr3.sw hS4⟩, by show (5 - ((j + 1 : Nat) : Int)).toNat < (5 - (j : Int)).toNat; omega⟩
    · rw [if_neg (by rw [decide_eq_true_eq]; omega)]
      left
      exact ⟨_, rfl, ⟨i', j + 1, l3, rfl, by omega, by omega, by omega, hS3, hSr3⟩, by show (5 - ((j + 1 : Nat) : Int)).toNat < (5 - (j : Int)).toNat; omega⟩
  · rw [if_neg (by rw [decide_eq_true_eq]; omega)]
    exact .inr ⟨_, rfl, .inl ⟨_, rfl, hS⟩⟩
def Oth (A B a b : Nat) (l : List Int) : Prop := ∀ x y, A ≤ x → x < y → y < B → (x < a ∨ b ≤ y) → VV l x ≤ VV l y
theorem Oth.sw {A B a b : Nat} {l l' : List Int} (h : Oth A B a b l) (hAa : A ≤ a) (hbB : b ≤ B) (hS : Sw (0 : Int) a b l l') : Oth A B a b l' := by
  have hout : ∀ k, k < a ∨ b ≤ k → VV l' k = VV l k := fun k hk => hS.vout (key := id) hk
  intro x y h1 h2 h3 h4
  rcases h4 with h4 | h4
  · rw [hout x (.inl h4)]
    by_cases hy : y < a ∨ b ≤ y
    · rw [hout y hy]; exact h x y h1 h2 h3 (.inl h4)
    · refine hS.vall (key := id) (fun v => VV l x ≤ v) (fun k k1 k2 => h x k h1 (by omega) (by omega) (.inl h4)) y (by omega) (by omega)
  · rw [hout y (.inr h4)]
    by_cases hx : x < a ∨ b ≤ x
    · rw [hout x hx]; exact h x y h1 h2 h3 (.inr h4)
    · refine hS.vall (key := id) (fun v => v ≤ VV l y) (fun k k1 k2 => h k y (by omega) (by omega) h3 (.inr h4)) x (by omega) (by omega)
theorem Oth.done {A B a b : Nat} {l : List Int} (h : Oth A B a b l) (hS : Srt (0 : Int) id a b l) : Srt (0 : Int) id A B l := by
  intro x h1 h2
  by_cases hx : x < a ∨ b ≤ x + 1
  · exact h x (x + 1) h1 (by omega) h2 hx
  · exact hS x (by omega) (by omega)
theorem Oth.pre {A B a b : Nat} {l : List Int} (h : Oth A B a b l) (hp : PreA A B l) (hAa : A ≤ a) (hbB : b ≤ B) : PreA a b l := by
  rcases Nat.eq_zero_or_pos a with h0 | h0
  · exact .inl h0
  · right
    intro k h1 h2
    by_cases haA : a = A
    · subst haA; exact hp.resolve_left (by omega) k h1 (by omega)
    · exact h (a - 1) k (by omega) (by omega) (by omega) (.inl (by omega))
theorem s101_lit : ∀ n : Nat, n < 1100 → ∃ v, D.f101F (IntKind.u64.wrap (n : Int)) = some v ∧ (12 < n → v ≠ 0) := by
  have h : ∀ n : Nat, n < 1100 → (match D.f101F (IntKind.u64.wrap (n : Int)) with | some v => decide (12 < n → v ≠ 0) | none => false) = true := by decide +kernel
  intro n hn
  have := h n hn
  split at this
  · rename_i v hv; exact ⟨v, hv, of_decide_eq_true this⟩
  · cases this
theorem s100_ok : ∀ (n : Nat) {A B : Nat} {l : List Int} (lim : Int), A ≤ B → B - A < n → B ≤ l.length → l.length < 1100 → PreA A B l →
    ∃ l', D.f100N n ((A : Int), (B : Int), lim, l) = some l' ∧ Sw (0 : Int) A B l l' ∧ Srt (0 : Int) id A B l'
  | 0, _, _, _, _, _, h, _, _, _ => by omega
  | n + 1, A, B, l, lim, hAB, hn, hB, hl, hpre => by
    show ∃ l', D.f100S (D.f100N n) _ = some l' ∧ _
    unfold D.f100S
    dsimp only
    refine bind_ex (Q := fun l' => Sw (0 : Int) A B l l' ∧ Srt (0 : Int) id A B l') (iter_rule (I := fun (s : Int × Int × Bool × Bool × Int × List Int) => ∃ (a b : Nat) (l' : List Int), s.2.1 = (a : Int) ∧ s.2.2.2.2.1 = (b : Int) ∧ s.2.2.2.2.2 = l' ∧ A ≤ a ∧ a ≤ b ∧ b ≤ B ∧ Sw (0 : Int) A B l l' ∧ Oth A B a b l')
      (fun s => (s.2.2.2.2.1 - s.2.1).toNat) ?_ _ ⟨A, B, l, rfl, rfl, rfl, Nat.le_refl _, hAB, Nat.le_refl _, .refl _, fun x y h1 h2 h3 h4 => by omega⟩) fun l' h => ⟨_, rfl, h⟩
    rintro ⟨lm, s1, wb, wp, s2, s3⟩ ⟨a, b, l1, h1, h2, h3, hAa, hab, hbB, hS, hO⟩
    dsimp only at h1 h2 h3 ⊢
    subst h1
    subst h2
    subst h3
    have hlen := hS.len
    have hp1 := hpre.sw hS
    rw [wrap_i64 (x := (b : Int) - (a : Int)) (by omega) (by omega)]
    have mono : ∀ {l2 l3 : List Int}, l2.length = l.length → Sw (0 : Int) a b l2 l3 → Sw (0 : Int) A B l2 l3 := fun hl2 h => h.mono hAa hbB (by omega)
    have fin : ∀ {l2 : List Int}, Sw (0 : Int) a b s3 l2 → Srt (0 : Int) id a b l2 → Sw (0 : Int) A B l l2 ∧ Srt (0 : Int) id A B l2 := fun h1 h2 => ⟨hS.trans (mono hlen h1), (hO.sw hAa hbB h1).done h2⟩
    by_cases h12 : b - a ≤ 12
    · rw [if_pos (by rw [decide_eq_true_eq]; omega)]
      obtain ⟨l2, e1, e2, e3⟩ := s110_ok (a := a) (b := b) (l := s3) hab (by omega) (by omega)
      rw [e1]
      exact .inr ⟨_, rfl, fin e2 e3⟩
    rw [if_neg (by rw [decide_eq_true_eq]; omega)]
    by_cases hlm : lm = 0
    · rw [if_pos (by rw [beq_iff_eq]; exact hlm)]
      obtain ⟨l2, e1, e2, e3⟩ := s111_ok (a := a) (b := b) (l := s3) (by omega) (by omega) (by omega)
      rw [e1]
      exact .inr ⟨_, rfl, fin e2 e3⟩
    rw [if_neg (by rw [beq_iff_eq]; exact hlm)]
    refine stp_bind (R := fun (r : Int × List Int) => Sw (0 : Int) a b s3 r.2) ?_ ?_
    · split
      · obtain ⟨l2, e1, e2⟩ := s112_ok (a := a) (b := b) (l := s3) (by omega) (by omega) (by omega)
        rw [e1]
        exact ⟨_, rfl, e2⟩
      · exact ⟨_, rfl, .refl _⟩
    rintro ⟨lm2, l2⟩ hS2
    dsimp only at hS2 ⊢
    have hlen2 := hS2.len
    obtain ⟨m, w, e1, e2, e3⟩ := s113_ok (a := a) (b := b) (l := l2) (by omega) (by omega) (by omega)
    rw [e1]
    simp only [Option.bind_some]
    refine stp_bind (R := fun (r : Int × Int × List Int) => ∃ m' : Nat, r.1 = (m' : Int) ∧ a ≤ m' ∧ m' < b ∧ Sw (0 : Int) a b s3 r.2.2) ?_ ?_
    · split
      · obtain ⟨l3, g1, g2⟩ := s114_ok (a := a) (b := b) (l := l2) (by omega) (by omega) (by omega)
        rw [g1]
        refine ⟨_, rfl, b - 1 - (m - a), ?_, by omega, by omega, hS2.trans g2⟩
        dsimp only
        rw [wrap_i64 (x := (b : Int) - 1) (by omega) (by omega), wrap_i64 (x := (m : Int) - (a : Int)) (by omega) (by omega), wrap_i64 (by omega) (by omega)]
        omega
      · exact ⟨_, rfl, m, rfl, e2, e3, hS2⟩
    rintro ⟨m', w', l3⟩ ⟨m2, hm', hm1, hm2, hS3⟩
    dsimp only at hm' hS3 ⊢
    subst hm'
    have hlen3 := hS3.len
    refine stp_bind (R := fun (r : List Int ⊕ List Int) => (∃ l4, r = .inl l4 ∧ Sw (0 : Int) a b s3 l4 ∧ Srt (0 : Int) id a b l4) ∨ ∃ l4, r = .inr l4 ∧ Sw (0 : Int) a b s3 l4) ?_ ?_
    · refine bind_ex (Q := fun (r : Bool × List Int) => r.2 = l3) ?_ ?_
      · split
        · split
          · exact ⟨_, rfl, rfl⟩
          · exact ⟨_, rfl, rfl⟩
        · exact ⟨_, rfl, rfl⟩
      · rintro ⟨bb, l3'⟩ h
        dsimp only at h ⊢
        subst h
        split
        · obtain ⟨ww, l4, g1, g2, g3⟩ := s115_ok (a := a) (b := b) (l := l3') (by omega) (by omega) (by omega) ((hO.pre hp1 hAa hbB).sw hS3)
          rw [g1]
          simp only [Option.bind_some]
          split
          · rename_i hw
            exact ⟨_, rfl, .inl ⟨_, rfl, hS3.trans g2, g3 hw⟩⟩
          · exact ⟨_, rfl, .inr ⟨_, rfl, hS3.trans g2⟩⟩
        · exact ⟨_, rfl, .inr ⟨_, rfl, hS3⟩⟩
    rintro _ (⟨l4, rfl, hS4, hSr4⟩ | ⟨l4, rfl, hS4⟩)
    · exact .inr ⟨_, rfl, fin hS4 hSr4⟩
    dsimp only [Sum.elim_inr]
    have hlen4 := hS4.len
    have hO4 := hO.sw hAa hbB hS4
    have hSA4 : Sw (0 : Int) A B l l4 := hS.trans (mono hlen hS4)
    have hp4 := hpre.sw hSA4
    refine stp_bind (R := fun (r : Bool × List Int) => r.2 = l4 ∧ (r.1 = true → 0 < a ∧ VV l4 m2 ≤ VV l4 (a - 1))) ?_ ?_
    · split
      · rename_i ha
        rw [decide_eq_true_eq] at ha
        rw [wrap_i64 (by omega) (by omega), if_pos (by omega), if_pos (by omega), Int.toNat_natCast, show ((a : Int) - 1).toNat = a - 1 by omega, less_eq]
        refine ⟨_, rfl, rfl, fun h => ⟨by omega, ?_⟩⟩
        simp at h
        omega
      · exact ⟨_, rfl, rfl, fun h => by cases h⟩
    rintro ⟨bb, l4'⟩ ⟨h5, hbb⟩
    dsimp only at h5 hbb ⊢
    subst h5
    have hPa := hO4.pre hp4 hAa hbB
    cases bb with
    | true =>
      rw [if_pos rfl]
      obtain ⟨ha0, hmv⟩ := hbb rfl
      obtain ⟨i, l5, g1, g2, g3, g4, g5, g6, g7⟩ := s116_ok (a := a) (b := b) (m := m2) (l := l4') hm1 hm2 (by omega) (by omega)
      rw [g1]
      simp only [Option.bind_some]
      left
      have hall := hPa.resolve_left (by omega)
      have hlow : ∀ k, a ≤ k → k < b → VV l4' m2 ≤ VV l5 k := g2.vall (key := id) (fun v => VV l4' m2 ≤ v) (fun k k1 k2 => by have := hall k k1 k2; show VV l4' m2 ≤ VV l4' k; omega)
      have hO5 := hO4.sw hAa hbB g2
      refine ⟨_, rfl, ⟨i, b, l5, rfl, rfl, rfl, by omega, g4, hbB, hSA4.trans (mono (by omega) g2), fun x y x1 x2 x3 x4 => ?_⟩, by show ((b : Int) - (i : Int)).toNat < ((b : Int) - (a : Int)).toNat; omega⟩
      by_cases hxa : x < a
      · exact hO5 x y x1 x2 x3 (.inl hxa)
      · by_cases hyb : b ≤ y
        · exact hO5 x y x1 x2 x3 (.inr hyb)
        · have hxi : x < i := by omega
          have h1 := g6 x (by omega) hxi
          have h2 := hlow y (by omega) (by omega)
          omega
    | false =>
      rw [if_neg (by simp)]
      obtain ⟨i, ww, l5, g1, g2, g3, g4, g5, g6⟩ := s117_ok (a := a) (b := b) (m := m2) (l := l4') hm1 hm2 (by omega) (by omega)
      rw [g1]
      simp only [Option.bind_some]
      have hO5 := hO4.sw hAa hbB g2
      have hlen5 := g2.len
      have hSA5 : Sw (0 : Int) A B l l5 := hSA4.trans (mono (by omega) g2)
      have hp5 := hpre.sw hSA5
      rw [wrap_i64 (x := (i : Int) - (a : Int)) (by omega) (by omega), wrap_i64 (x := (b : Int) - (i : Int)) (by omega) (by omega), wrap_i64 (x := (i : Int) + 1) (by omega) (by omega)]
      -- both parts, around the pivot
      have around : ∀ x y, A ≤ x → x < y → y < B → (x < a ∨ b ≤ y ∨ x = i ∨ y = i ∨ (x < i ∧ i < y)) → VV l5 x ≤ VV l5 y := by
        intro x y x1 x2 x3 x4
        by_cases hxa : x < a
        · exact hO5 x y x1 x2 x3 (.inl hxa)
        · by_cases hyb : b ≤ y
          · exact hO5 x y x1 x2 x3 (.inr hyb)
          · rcases x4 with x4 | x4 | x4 | x4 | x4
            · omega
            · omega
            · subst x4; exact g6 y (by omega) (by omega)
            · subst x4; exact g5 x (by omega) (by omega)
            · have h1 := g5 x (by omega) x4.1
              have h2 := g6 y (by omega) (by omega)
              omega
      split
      · -- the lower part is sorted, and on with the upper one
        have hOlo : Oth A i a i l5 := fun x y x1 x2 x3 x4 => around x y x1 x2 (by omega) (by omega)
        have hpl : PreA a i l5 := by
          rcases Nat.eq_zero_or_pos a with h0 | h0
          · exact .inl h0
          · right
            have := (hO5.pre hp5 hAa hbB).resolve_left (by omega)
            exact fun k k1 k2 => this k k1 (by omega)
        obtain ⟨l6, q1, q2, q3⟩ := s100_ok n (A := a) (B := i) (l := l5) lm2 (by omega) (by omega) (by omega) (by omega) hpl
        rw [q1]
        simp only [Option.bind_some]
        left
        have hout : ∀ k, k < a ∨ i ≤ k → VV l6 k = VV l5 k := fun k hk => q2.vout (key := id) hk
        refine ⟨_, rfl, ⟨i + 1, b, l6, by show (i : Int) + 1 = ((i + 1 : Nat) : Int); omega, rfl, rfl, by omega, by omega, hbB, hSA5.trans (q2.mono (by omega) (by omega) (by omega)), fun x y x1 x2 x3 x4 => ?_⟩, by show ((b : Int) - ((i : Int) + 1)).toNat < ((b : Int) - (a : Int)).toNat; omega⟩
        by_cases hxl : a ≤ x ∧ x < i
        · by_cases hyl : y < i
          · exact q3.le (by omega) (by omega) hyl
          · rw [hout y (.inr (by omega))]
            exact q2.vall (key := id) (fun v => v ≤ VV l5 y) (fun k k1 k2 => around k y (by omega) (by omega) x3 (by omega)) x hxl.1 hxl.2
        · rw [hout x (by omega)]
          by_cases hyl : a ≤ y ∧ y < i
          · exact q2.vall (key := id) (fun v => VV l5 x ≤ v) (fun k k1 k2 => around x k (by omega) (by omega) (by omega) (by omega)) y hyl.1 hyl.2
          · rw [hout y (by omega)]
            exact around x y x1 x2 x3 (by omega)
      · have hpl : PreA (i + 1) b l5 := .inr fun k k1 k2 => g6 k (by omega) k2
        obtain ⟨l6, q1, q2, q3⟩ := s100_ok n (A := i + 1) (B := b) (l := l5) lm2 (by omega) (by omega) (by omega) (by omega) hpl
        rw [show ((i + 1 : Nat) : Int) = (i : Int) + 1 by omega] at q1
        rw [q1]
        simp only [Option.bind_some]
        left
        have hout : ∀ k, k < i + 1 ∨ b ≤ k → VV l6 k = VV l5 k := fun k hk => q2.vout (key := id) hk
        refine ⟨_, rfl, ⟨a, i, l6, rfl, rfl, rfl, hAa, g3, by omega, hSA5.trans (q2.mono (by omega) (by omega) (by omega)), fun x y x1 x2 x3 x4 => ?_⟩, by show ((i : Int) - (a : Int)).toNat < ((b : Int) - (a : Int)).toNat; omega⟩
        by_cases hxl : i + 1 ≤ x ∧ x < b
        · by_cases hyl : y < b
          · exact q3.le (by omega) (by omega) hyl
          · rw [hout y (.inr (by omega))]
            exact q2.vall (key := id) (fun v => v ≤ VV l5 y) (fun k k1 k2 => around k y (by omega) (by omega) x3 (by omega)) x hxl.1 hxl.2
        · rw [hout x (by omega)]
          by_cases hyl : i + 1 ≤ y ∧ y < b
          · exact q2.vall (key := id) (fun v => VV l5 x ≤ v) (fun k k1 k2 => around x k (by omega) (by omega) (by omega) (by omega)) y hyl.1 hyl.2
          · rw [hout y (by omega)]
            exact around x y x1 x2 x3 (by omega)
theorem s74_ok {l : List Int} (hl : l.length < 1100) : ∃ l', D.f74F l = some l' ∧ l'.Perm l ∧ l'.Pairwise (· ≤ ·) := by
  obtain ⟨v, h1, _⟩ := s101_lit l.length hl
  unfold D.f74F
  rw [h1]
  simp only [Option.bind_some]
  obtain ⟨l', e1, e2, e3⟩ := s100_ok D.fuel (A := 0) (B := l.length) (l := l) v (Nat.zero_le _) (by show l.length - 0 < 1000000000; omega) (Nat.le_refl _) hl (.inl rfl)
  have e1' : D.f100F ((0 : Int), (l.length : Int), v, l) = some l' := e1
  rw [e1']
  refine ⟨l', rfl, e2.perm, ?_⟩
  have := e2.len
  rw [← this] at e3
  exact e3.pairwise
end Go.Sx
