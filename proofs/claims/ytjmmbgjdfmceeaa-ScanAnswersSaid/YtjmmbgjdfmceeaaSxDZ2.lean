/- Sorting by a heap; what breaks patterns. -/
import Derived.Test.YtjmmbgjdfmceeaaSxDZ1
set_option linter.unusedVariables false
set_option linter.unusedSimpArgs false
namespace Go.Sx
def HeapF (f n k : Nat) (l : List Int) : Prop := ∀ c, 0 < c → c < n → k ≤ (c - 1) / 2 → VV l (f + c) ≤ VV l (f + (c - 1) / 2)
structure Sift (f n lo : Nat) (l : List Int) (r : Nat) : Prop where
  ge : lo ≤ r
  heap : ∀ c, 0 < c → c < n → lo ≤ (c - 1) / 2 → (c - 1) / 2 ≠ r → VV l (f + c) ≤ VV l (f + (c - 1) / 2)
  grand : ∀ c, 0 < c → c < n → (c - 1) / 2 = r → lo < r → lo ≤ (r - 1) / 2 → VV l (f + c) ≤ VV l (f + (r - 1) / 2)
theorem s121_ok {lo hi f : Nat} {l : List Int} (hb : f + hi ≤ l.length) (hlo : lo ≤ hi) (hl : l.length ≤ 100000) (h : HeapF f hi (lo + 1) l) : ∃ l', D.f121F ((lo : Int), (hi : Int), (f : Int), l) = some l' ∧ Sw (0 : Int) (f + lo) (f + hi) l l' ∧ HeapF f hi lo l' := by
  unfold D.f121F
  refine bind_ex (iter_rule (I := fun (s : Int × List Int) => ∃ (r : Nat) (l' : List Int), s = ((r : Int), l') ∧ r ≤ hi ∧ Sift f hi lo l' r ∧ Sw (0 : Int) (f + lo) (f + hi) l l') (Q := fun (e : List Int ⊕ List Int) => ∃ l', (e = .inl l' ∨ e = .inr l') ∧ Sw (0 : Int) (f + lo) (f + hi) l l' ∧ HeapF f hi lo l')
    (fun s => ((hi : Int) - s.1).toNat) ?_ _ ⟨lo, l, rfl, hlo, ⟨Nat.le_refl _, fun c h1 h2 h3 h4 => h c h1 h2 (by omega), fun c h1 h2 h3 h4 => by omega⟩, .refl _⟩) ?_
  · rintro _ ⟨r, l1, rfl, hr, hS, hW⟩
    dsimp only
    have hlen := hW.len
    have hge := hS.ge
    rw [wrap_i64 (x := 2 * (r : Int)) (by omega) (by omega), wrap_i64 (x := 2 * (r : Int) + 1) (by omega) (by omega), wrap_i64 (x := 2 * (r : Int) + 1 + 1) (by omega) (by omega)]
    by_cases hc : hi ≤ 2 * r + 1
    · rw [if_pos (by rw [decide_eq_true_eq]; omega)]
      exact .inr ⟨_, rfl, l1, .inl rfl, hW, fun c h1 h2 h3 => hS.heap c h1 h2 h3 (by omega)⟩
    rw [if_neg (by rw [decide_eq_true_eq]; omega), wrap_i64 (x := (f : Int) + (2 * (r : Int) + 1)) (by omega) (by omega), wrap_i64 (x := (f : Int) + (r : Int)) (by omega) (by omega)]
    -- the greater child
    have hch : ∃ ch : Nat, (ch = 2 * r + 1 ∨ ch = 2 * r + 2) ∧ ch < hi ∧ (∀ c, 0 < c → c < hi → (c - 1) / 2 = r → VV l1 (f + c) ≤ VV l1 (f + ch)) ∧
        Option.bind (if decide (2 * (r : Int) + 1 + 1 < (hi : Int)) = true then (if (0 : Int) ≤ (f : Int) + (2 * (r : Int) + 1) ∧ (f : Int) + (2 * (r : Int) + 1) < (l1.length : Int) then (if (0 : Int) ≤ IntKind.i64.wrap ((f : Int) + (2 * (r : Int) + 1) + 1) ∧ IntKind.i64.wrap ((f : Int) + (2 * (r : Int) + 1) + 1) < (l1.length : Int) then
            Option.bind (D.f105F (l1.getD ((f : Int) + (2 * (r : Int) + 1)).toNat 0, l1.getD (IntKind.i64.wrap ((f : Int) + (2 * (r : Int) + 1) + 1)).toNat 0)) fun (v2 : Bool) => some (v2, l1) else none) else none) else some (false, l1))
          (fun (v2 : Bool × List Int) => if v2.1 = true then some (2 * (r : Int) + 1 + 1, v2.2) else some (2 * (r : Int) + 1, v2.2)) = some ((ch : Int), l1) := by
      have hpar : ∀ c, 0 < c → (c - 1) / 2 = r → c = 2 * r + 1 ∨ c = 2 * r + 2 := fun c h1 h2 => by omega
      by_cases h2 : 2 * r + 2 < hi
      · rw [if_pos (by rw [decide_eq_true_eq]; omega), if_pos (by omega), wrap_i64 (by omega) (by omega), if_pos (by omega), show ((f : Int) + (2 * (r : Int) + 1)).toNat = f + (2 * r + 1) by omega, show ((f : Int) + (2 * (r : Int) + 1) + 1).toNat = f + (2 * r + 2) by omega, less_eq]
        simp only [Option.bind_some]
        by_cases hlt : VV l1 (f + (2 * r + 1)) < VV l1 (f + (2 * r + 2))
        · refine ⟨2 * r + 2, .inr rfl, h2, fun c h3 h4 h5 => ?_, by rw [if_pos (by rw [decide_eq_true_eq]; exact hlt)]; congr 1⟩
          rcases hpar c h3 h5 with rfl | rfl
          · omega
          · exact Int.le_refl _
        · refine ⟨2 * r + 1, .inl rfl, by omega, fun c h3 h4 h5 => ?_, by rw [if_neg (by rw [decide_eq_true_eq]; exact hlt)]; rfl⟩
          rcases hpar c h3 h5 with rfl | rfl
          · exact Int.le_refl _
          · omega
      · rw [if_neg (by rw [decide_eq_true_eq]; omega)]
        refine ⟨2 * r + 1, .inl rfl, by omega, fun c h3 h4 h5 => ?_, rfl⟩
        rcases hpar c h3 h5 with rfl | rfl
        · exact Int.le_refl _
        · omega
    obtain ⟨ch, hch1, hch2, hmax, heq⟩ := hch
    rw [heq]
    simp only [Option.bind_some]
    rw [if_pos (by omega), wrap_i64 (x := (f : Int) + (ch : Int)) (by omega) (by omega), if_pos (by omega), show ((f : Int) + (r : Int)).toNat = f + r by omega, show ((f : Int) + (ch : Int)).toNat = f + ch by omega, less_eq]
    simp only [Option.bind_some]
    have hpc : (ch - 1) / 2 = r := by omega
    by_cases hlt : VV l1 (f + r) < VV l1 (f + ch)
    · rw [if_neg (by simp [hlt]), if_pos (by omega), if_pos (by omega), if_pos (by omega), if_pos (by rw [List.length_set]; omega)]
      have hs := fun k => swp_comm (l := l1) (i := f + r) (j := f + ch) (by omega) (by omega) k
      refine .inl ⟨_, rfl, ⟨ch, swp 0 l1 (f + r) (f + ch), rfl, by omega, ⟨by omega, fun c h1 h2 h3 h4 => ?_, fun c h1 h2 h3 h4 h5 => ?_⟩, .step hW (by omega) (by omega) (by omega) (by omega) (by omega)⟩, by show ((hi : Int) - (ch : Int)).toNat < ((hi : Int) - (r : Int)).toNat; omega⟩
      · -- a pair whose parent isn't the child
        rw [hs (f + c), hs (f + (c - 1) / 2)]
        by_cases e1 : (c - 1) / 2 = r
        · -- the parent is where it was
          rw [if_neg (show ¬ f + (c - 1) / 2 = f + ch by omega), if_pos (show f + (c - 1) / 2 = f + r by omega)]
          by_cases e2 : c = ch
          · rw [if_pos (by omega)]; omega
          · rw [if_neg (by omega), if_neg (by omega)]; exact hmax c h1 h2 e1
        · rw [if_neg (show ¬ f + (c - 1) / 2 = f + ch by omega), if_neg (show ¬ f + (c - 1) / 2 = f + r by omega)]
          by_cases e2 : c = ch
          · omega
          · by_cases e3 : c = r
            · rw [if_neg (by omega), if_pos (by omega)]
              -- the child stands where the root stood
              have := hS.grand ch (by omega) hch2 hpc (by omega) (by rw [← e3]; exact h3)
              rw [e3]; exact this
            · rw [if_neg (by omega), if_neg (by omega)]; exact hS.heap c h1 h2 h3 e1
      · rw [hs (f + c), hs (f + (ch - 1) / 2), hpc, if_neg (show ¬ f + r = f + ch by omega), if_pos rfl, if_neg (by omega), if_neg (by omega)]
        have := hS.heap c h1 h2 (by omega) (by omega)
        rw [h3] at this
        exact this
    · rw [if_pos (by simp [hlt])]
      refine .inr ⟨_, rfl, l1, .inr rfl, hW, fun c h1 h2 h3 => ?_⟩
      by_cases e : (c - 1) / 2 = r
      · have := hmax c h1 h2 e; rw [e]; omega
      · exact hS.heap c h1 h2 h3 e
  · rintro _ ⟨l', rfl | rfl, h1, h2⟩
    · exact ⟨_, rfl, h1, h2⟩
    · exact ⟨_, rfl, h1, h2⟩
theorem HeapF.top {f n : Nat} {l : List Int} (h : HeapF f n 0 l) : ∀ c, c < n → VV l (f + c) ≤ VV l f := by
  intro c
  induction c using Nat.strongRecOn with
  | ind c ih =>
    intro hc
    by_cases h0 : c = 0
    · subst h0; exact Int.le_refl _
    · have h1 := h c (by omega) hc (Nat.zero_le _)
      have h2 := ih ((c - 1) / 2) (by omega) (by omega)
      omega
theorem s111_ok {a b : Nat} {l : List Int} (hab : a < b) (hb : b ≤ l.length) (hl : l.length ≤ 100000) : ∃ l', D.f111F ((a : Int), (b : Int), l) = some l' ∧ Sw (0 : Int) a b l l' ∧ Srt (0 : Int) id a b l' := by
  unfold D.f111F
  dsimp only
  have hw : IntKind.i64.wrap ((b : Int) - (a : Int)) = ((b - a : Nat) : Int) := by rw [wrap_i64 (by omega) (by omega)]; omega
  have hw1 : IntKind.i64.wrap (((b - a : Nat) : Int) - 1) = ((b - a - 1 : Nat) : Int) := by rw [wrap_i64 (by omega) (by omega)]; omega
  have hq : Int.tdiv ((b - a - 1 : Nat) : Int) 2 = (((b - a - 1) / 2 : Nat) : Int) := by
    rw [Int.tdiv_eq_ediv_of_nonneg (by omega)]; omega
  rw [hw, hw1, hq, wrap_i64 (x := (((b - a - 1) / 2 : Nat) : Int)) (by omega) (by omega)]
  -- the heap
  refine bind_ex (iter_rule (I := fun (s : Int × List Int) => ∃ (i : Int) (l' : List Int), s = (i, l') ∧ -1 ≤ i ∧ i ≤ (((b - a - 1) / 2 : Nat) : Int) ∧ Sw (0 : Int) a b l l' ∧ HeapF a (b - a) (i + 1).toNat l') (Q := fun l' => Sw (0 : Int) a b l l' ∧ HeapF a (b - a) 0 l')
    (fun s => (s.1 + 1).toNat) ?_ _ ⟨_, l, rfl, by omega, Int.le_refl _, .refl _, fun c h1 h2 h3 => by omega⟩) ?_
  · rintro _ ⟨i, l1, rfl, hi0, hi1, hW, hH⟩
    dsimp only
    have hlen := hW.len
    by_cases hi : 0 ≤ i
    · obtain ⟨i, rfl⟩ := Int.eq_ofNat_of_zero_le hi
      obtain ⟨l2, k1, k2, k3⟩ := s121_ok (lo := i) (hi := b - a) (f := a) (l := l1) (by omega) (by omega) (by omega) (by rw [show ((i : Int) + 1).toNat = i + 1 by omega] at hH; exact hH)
      rw [if_pos (by rw [decide_eq_true_eq]; omega), k1]
      simp only [Option.bind_some]
      rw [wrap_i64 (by omega) (by omega)]
      exact .inl ⟨_, rfl, ⟨_, l2, rfl, by omega, by omega, hW.trans (k2.mono (by omega) (by omega) (by omega)), by rw [show ((i : Int) - 1 + 1).toNat = i by omega]; exact k3⟩, by show ((i : Int) - 1 + 1).toNat < ((i : Int) + 1).toNat; omega⟩
    · rw [if_neg (by rw [decide_eq_true_eq]; exact hi)]
      rw [show (i + 1).toNat = 0 by omega] at hH
      exact .inr ⟨_, rfl, hW, hH⟩
  rintro l0 ⟨hW0, hH0⟩
  -- out of it
  refine bind_ex (iter_rule (I := fun (s : Int × List Int) => ∃ (n : Nat) (l' : List Int), s = ((n : Int) - 1, l') ∧ n ≤ b - a ∧ Sw (0 : Int) a b l l' ∧ HeapF a n 0 l' ∧ Srt (0 : Int) id (a + n) b l' ∧ ∀ i j, a ≤ i → i < a + n → a + n ≤ j → j < b → VV l' i ≤ VV l' j) (Q := fun l' => Sw (0 : Int) a b l l' ∧ Srt (0 : Int) id a b l')
    (fun s => (s.1 + 1).toNat) ?_ _ ⟨b - a, l0, by rw [show ((b - a - 1 : Nat) : Int) = ((b - a : Nat) : Int) - 1 by omega], Nat.le_refl _, hW0, hH0, fun x h1 h2 => by omega, fun i j h1 h2 h3 h4 => by omega⟩) fun l' h => ⟨_, rfl, h⟩
  rintro _ ⟨n, l1, rfl, hn, hW, hH, hSr, hlt⟩
  dsimp only
  have hlen := hW.len
  by_cases h0 : n = 0
  · subst h0
    rw [if_neg (by rw [decide_eq_true_eq]; omega)]
    exact .inr ⟨_, rfl, hW, hSr⟩
  · obtain ⟨n, rfl⟩ : ∃ m, n = m + 1 := ⟨n - 1, by omega⟩
    rw [show ((n + 1 : Nat) : Int) - 1 = (n : Int) by omega, if_pos (by rw [decide_eq_true_eq]; omega), wrap_i64 (x := (a : Int) + (n : Int)) (by omega) (by omega), if_pos (by omega), if_pos (by omega), if_pos (by omega), if_pos (by rw [List.length_set]; omega), show ((a : Int) + (n : Int)).toNat = a + n by omega, Int.toNat_natCast]
    have hs := fun k => swp_comm (l := l1) (i := a) (j := a + n) (by omega) (by omega) k
    have hsw : Sw (0 : Int) a b l1 (swp 0 l1 a (a + n)) := Sw.one (by omega) (by omega) (by omega) (by omega) (by omega)
    obtain ⟨l2, k1, k2, k3⟩ := s121_ok (lo := 0) (hi := n) (f := a) (l := swp 0 l1 a (a + n)) (by rw [swp_len]; omega) (Nat.zero_le _) (by rw [swp_len]; omega) (fun c h1 h2 h3 => by
      rw [hs (a + c), hs (a + (c - 1) / 2), if_neg (by omega), if_neg (by omega), if_neg (by omega), if_neg (by omega)]
      exact hH c h1 (by omega) (Nat.zero_le _))
    have k1' : D.f121F ((0 : Int), (n : Int), (a : Int), (l1.set a (l1.getD (a + n) 0)).set (a + n) (l1.getD a 0)) = some l2 := k1
    rw [k1']
    simp only [Option.bind_some]
    rw [wrap_i64 (by omega) (by omega)]
    have htop := hH.top
    have hout : ∀ k, a + n ≤ k → VV l2 k = VV (swp 0 l1 a (a + n)) k := fun k hk => k2.vout (.inr (by omega))
    have hmaxn : VV l2 (a + n) = VV l1 a := by rw [hout _ (Nat.le_refl _), hs, if_pos rfl]
    have hold : ∀ k, a + n < k → VV l2 k = VV l1 k := fun k hk => by rw [hout k (by omega), hs, if_neg (by omega), if_neg (by omega)]
    have hin : ∀ i, a ≤ i → i < a + n → VV l2 i ≤ VV l1 a := by
      refine k2.vall (fun x => x ≤ VV l1 a) fun k h1 h2 => ?_
      show VV (swp 0 l1 a (a + n)) k ≤ VV l1 a
      rw [hs k, if_neg (by omega)]
      split
      · exact htop n (by omega)
      · have := htop (k - a) (by omega)
        rw [show a + (k - a) = k by omega] at this
        exact this
    refine .inl ⟨_, rfl, ⟨n, l2, rfl, by omega, (hW.trans hsw).trans (k2.mono (by omega) (by omega) (by rw [swp_len]; omega)), k3, fun x h1 h2 => ?_, fun i j h1 h2 h3 h4 => ?_⟩, by show ((n : Int) - 1 + 1).toNat < ((n : Int) + 1).toNat; omega⟩
    · show VV l2 x ≤ VV l2 (x + 1)
      by_cases e : x = a + n
      · subst e; rw [hmaxn, hold _ (by omega)]; exact hlt a (a + n + 1) (Nat.le_refl _) (by omega) (by omega) h2
      · rw [hold x (by omega), hold (x + 1) (by omega)]; exact hSr x (by omega) h2
    · by_cases e : j = a + n
      · subst e; rw [hmaxn]; exact hin i h1 h2
      · rw [hold j (by omega)]
        have := hin i h1 h2
        have := hlt a j (Nat.le_refl _) (by omega) (by omega) h4
        omega
theorem s122_lit : ∀ n : Nat, 8 ≤ n → n < 1100 → ∃ m : Nat, D.f122F (n : Int) = some (m : Int) ∧ 1 ≤ m ∧ m ≤ 2 * n := by
  have h : ∀ n : Nat, n < 1100 → (8 ≤ n → (match D.f122F (n : Int) with | some v => decide (1 ≤ v ∧ v ≤ 2 * (n : Int)) | none => false) = true) := by decide +kernel
  intro n h8 hn
  have := h n hn h8
  split at this
  · rename_i v hv
    have h2 := of_decide_eq_true this
    obtain ⟨m, rfl⟩ := Int.eq_ofNat_of_zero_le (show 0 ≤ v by omega)
    exact ⟨m, hv, by omega, by omega⟩
  · cases this
theorem and_lt (x : Int) {m : Nat} (h1 : 1 ≤ m) (h2 : m ≤ 100000) : ∃ k : Nat, k < m ∧ IntKind.i64.wrap (IntKind.u64.wrap (((BitVec.ofInt (IntKind.bits .u64) x &&& BitVec.ofInt (IntKind.bits .u64) (IntKind.u64.wrap ((m : Int) - 1))).toNat : Nat) : Int)) = (k : Int) := by
  have e1 : IntKind.u64.wrap ((m : Int) - 1) = ((m - 1 : Nat) : Int) := by rw [wrap_u64 (by omega) (by omega)]; omega
  have e2 : (BitVec.ofInt (IntKind.bits .u64) ((m - 1 : Nat) : Int)).toNat = m - 1 := by
    rw [BitVec.ofInt_natCast, BitVec.toNat_ofNat]
    exact Nat.mod_eq_of_lt (by show m - 1 < 2 ^ 64; omega)
  have e3 : (BitVec.ofInt (IntKind.bits .u64) x &&& BitVec.ofInt (IntKind.bits .u64) ((m - 1 : Nat) : Int)).toNat ≤ m - 1 := by
    rw [BitVec.toNat_and, e2]
    exact Nat.and_le_right
  rw [e1]
  generalize (BitVec.ofInt (IntKind.bits .u64) x &&& BitVec.ofInt (IntKind.bits .u64) ((m - 1 : Nat) : Int)).toNat = k at *
  exact ⟨k, by omega, by rw [wrap_u64 (by omega) (by omega), wrap_i64 (by omega) (by omega)]⟩
theorem s112_ok {a b : Nat} {l : List Int} (hab : a < b) (hb : b ≤ l.length) (hl : l.length < 1100) : ∃ l', D.f112F ((a : Int), (b : Int), l) = some l' ∧ Sw (0 : Int) a b l l' := by
  unfold D.f112F
  dsimp only
  have hw : IntKind.i64.wrap ((b : Int) - (a : Int)) = ((b - a : Nat) : Int) := by rw [wrap_i64 (by omega) (by omega)]; omega
  rw [hw]
  by_cases h8 : ¬ 8 ≤ b - a
  · rw [if_neg (by rw [decide_eq_true_eq]; omega)]
    exact ⟨_, rfl, .refl _⟩
  have h8 : 8 ≤ b - a := by omega
  rw [if_pos (by rw [decide_eq_true_eq]; omega)]
  obtain ⟨m, hm, hm1, hm2⟩ := s122_lit (b - a) h8 (by omega)
  rw [hm]
  simp only [Option.bind_some]
  have hq : Int.tdiv ((b - a : Nat) : Int) 4 = (((b - a) / 4 : Nat) : Int) := by
    rw [Int.tdiv_eq_ediv_of_nonneg (by omega)]; omega
  have e2 : IntKind.i64.wrap ((a : Int) + IntKind.i64.wrap (IntKind.i64.wrap (Int.tdiv ((b - a : Nat) : Int) 4) * 2)) = ((a + (b - a) / 4 * 2 : Nat) : Int) := by rw [hq, wrap_i64 (x := (((b - a) / 4 : Nat) : Int)) (by omega) (by omega), wrap_i64 (x := _ * 2) (by omega) (by omega), wrap_i64 (by omega) (by omega)]; omega
  rw [e2, wrap_i64 (x := ((a + (b - a) / 4 * 2 : Nat) : Int) + 1) (by omega) (by omega), wrap_i64 (x := ((a + (b - a) / 4 * 2 : Nat) : Int) - 1) (by omega) (by omega)]
  refine bind_ex (iter_rule (I := fun (s : Int × List Int × Int) => ∃ (i : Nat) (l' : List Int), s.1 = (i : Int) ∧ s.2.1 = l' ∧ a + (b - a) / 4 * 2 - 1 ≤ i ∧ i ≤ a + (b - a) / 4 * 2 + 2 ∧ Sw (0 : Int) a b l l') (Q := fun l' => Sw (0 : Int) a b l l')
    (fun s => (((a + (b - a) / 4 * 2 + 2 : Nat) : Int) - s.1).toNat) ?_ _ ⟨a + (b - a) / 4 * 2 - 1, l, by dsimp only; omega, rfl, Nat.le_refl _, by omega, .refl _⟩) fun l' h => ⟨_, rfl, h⟩
  rintro ⟨s1, s2, rr⟩ ⟨i, l1, h1, h2, hi1, hi2, hW⟩
  dsimp only at h1 h2 ⊢
  subst h1
  subst h2
  have hlen := hW.len
  by_cases hi : i ≤ a + (b - a) / 4 * 2 + 1
  · rw [if_pos (by rw [decide_eq_true_eq]; omega)]
    have hx : ∃ v v', D.f123F rr = some (v, v') := ⟨_, _, rfl⟩
    obtain ⟨v, v', hx⟩ := hx
    rw [hx]
    simp only [Option.bind_some]
    obtain ⟨k, hk1, hk2⟩ := and_lt v (m := m) hm1 (by omega)
    rw [hk2]
    have hv4 : ∃ o : Nat, o < b - a ∧ (if decide ((k : Int) ≥ ((b - a : Nat) : Int)) = true then some (IntKind.i64.wrap ((k : Int) - ((b - a : Nat) : Int)), s2, v') else some ((k : Int), s2, v')) = some ((o : Int), s2, v') := by
      by_cases hkb : b - a ≤ k
      · refine ⟨k - (b - a), by omega, ?_⟩
        rw [if_pos (by rw [decide_eq_true_eq]; omega), wrap_i64 (by omega) (by omega), show (k : Int) - ((b - a : Nat) : Int) = ((k - (b - a) : Nat) : Int) by omega]
      · exact ⟨k, by omega, by rw [if_neg (by rw [decide_eq_true_eq]; omega)]⟩
    obtain ⟨o, ho1, ho2⟩ := hv4
    rw [ho2]
    simp only [Option.bind_some]
    rw [wrap_i64 (x := (a : Int) + (o : Int)) (by omega) (by omega), if_pos (by omega), if_pos (by omega), if_pos (by omega), if_pos (by rw [List.length_set]; omega), wrap_i64 (by omega) (by omega), show ((a : Int) + (o : Int)).toNat = a + o by omega, Int.toNat_natCast]
    exact .inl ⟨_, rfl, ⟨i + 1, swp 0 s2 i (a + o), rfl, rfl, by omega, by omega, .step hW (by omega) (by omega) (by omega) (by omega) (by omega)⟩, by show (((a + (b - a) / 4 * 2 + 2 : Nat) : Int) - ((i : Int) + 1)).toNat < (((a + (b - a) / 4 * 2 + 2 : Nat) : Int) - (i : Int)).toNat; omega⟩
  · rw [if_neg (by rw [decide_eq_true_eq]; omega)]
    exact .inr ⟨_, rfl, hW⟩
end Go.Sx
