/- Dfa: what looks at a cache. -/
import Derived.Test.YtjmmbgjdfmceeaaSxDa
set_option linter.unusedVariables false
set_option linter.unusedSimpArgs false
namespace Go.Sx
theorem d61_eq (a b : List Int) (hl : a.length ≤ 9223372036854775807) : D.f61F (a, b) = some (decide (a = b)) := by
  unfold D.f61F
  dsimp only
  by_cases hab : a.length = b.length
  rotate_left
  · rw [if_pos (by simpa using fun e : (a.length : Int) = b.length => hab (by omega)), decide_eq_false (fun e => hab (by rw [e]))]
  rw [if_neg (by simp; omega)]
  have h : ∃ e : PUnit ⊕ Bool, iter (fun (s1 : Int) => if decide (s1 < (a.length : Int)) = true then if 0 ≤ s1 ∧ s1 < (a.length : Int) then if 0 ≤ s1 ∧ s1 < (b.length : Int) then if (a.getD s1.toNat 0 != b.getD s1.toNat 0) = true then some (Sum.inr (Sum.inr false))
      else some (Sum.inl (IntKind.i64.wrap (s1 + 1))) else none else none else some (Sum.inr (Sum.inl ()))) 0 = some e ∧ ((e = .inl () ∧ a = b) ∨ (e = .inr false ∧ a ≠ b)) := by
    refine for_rule a.length (fun i => a.take i = b.take i) ?_ ?_ rfl
    · intro i hi hI
      rw [if_pos (by rw [decide_eq_true_eq]; omega), if_pos (by omega), if_pos (by omega), Int.toNat_natCast]
      by_cases he : a.getD i 0 = b.getD i 0
      · rw [if_neg (by simp only [bne_iff_ne, ne_eq, he, not_true, not_false_eq_true]), wrap_i64 (by omega) (by omega)]
        refine .inl ⟨rfl, ?_⟩
        rw [List.take_succ_eq_append_getElem hi, List.take_succ_eq_append_getElem (show i < b.length by omega), hI]
        rw [getD_lt _ _ hi, getD_lt _ _ (show i < b.length by omega)] at he
        rw [he]
      · rw [if_pos (by rw [bne_iff_ne]; exact he)]
        exact .inr ⟨_, rfl, .inr ⟨rfl, fun h => he (by rw [h])⟩⟩
    · intro hI
      rw [if_neg (by rw [decide_eq_true_eq]; omega)]
      rw [List.take_length, hab, List.take_length] at hI
      exact ⟨_, rfl, .inl ⟨rfl, hI⟩⟩
  obtain ⟨e, he, hc⟩ := h
  rw [he]
  rcases hc with ⟨rfl, h⟩ | ⟨rfl, h⟩
  · simp [h]
  · simp [h]
theorem d104_eq (s : StD) (b : Bool) (A : List Int) (hl : s.1.length ≤ 100000) : D.f104F (s, b, A) = some (s.2.1 == b && decide (s.1 = A), b, A) := by
  unfold D.f104F
  dsimp only
  cases hb : (s.2.1 == b) with
  | true => rw [if_pos rfl, d61_eq _ _ (by omega)]; rfl
  | false => rfl
theorem ds10_eq {S : List StD} (b : Bool) (A : List Int) (hS : S.length ≤ 100000) (hl : ∀ s ∈ S, s.1.length ≤ 100000) : D.s10F (S, b, A) = some (knownS S A b, b, A) := by
  unfold D.s10F
  obtain ⟨r, h1, h2⟩ := idx_rule S ([], false, []) (fun s : StD => s.2.1 == b && decide (s.1 = A)) (b, A) (fun x => D.f104F (x.1, x.2.1, x.2.2)) (by omega) (fun s hs => d104_eq s b A (hl s hs))
  refine Eq.trans h1 ?_
  rw [h2]
  have : S.findIdx? (fun s : StD => s.2.1 == b && decide (s.1 = A)) = (S.map fun s => (s.1, s.2.1)).findIdx? (fun k => decide (k = (A, b))) := by
    rw [List.findIdx?_map]
    congr 1
    funext s
    rw [Bool.eq_iff_iff]
    simp [and_comm]
  rw [this]
  unfold knownS
  generalize (S.map fun s => (s.1, s.2.1)).findIdx? (fun k => decide (k = (A, b))) = o
  cases o <;> rfl
theorem d82_eq {p : List Inst} {most fl : Int} {S : List StD} (A : List Int) (b : Bool) (hS : S.length ≤ 100000) (hl : ∀ s ∈ S, s.1.length ≤ 100000) : D.f82F ((p, most, S, fl), A, b) = some (knownS S A b) := by
  unfold D.f82F
  dsimp only
  rw [ds10_eq b A hS hl]
  rfl
theorem d83_eq {p : List Inst} {most fl : Int} {S : List StD} (hp : rightS p = true) (s : StD) (stop : Bool) (hl : s.1.length ≤ 100000) : D.f83F ((p, most, S, fl), s, stop) = some (reachS p s.1 s.2.1 stop) := by
  unfold D.f83F
  dsimp only
  rw [s17_eq hp hl]
  rfl
theorem d19_eq {p : List Inst} {A : List Int} (hp : rightS p = true) (hr : ranged p) (hA : A.Pairwise (· < ·)) (hl : A.length < 1100) (c : Int) : D.f19F (p, A, c) = some (moveS p A c) := by
  obtain ⟨_, _, h3⟩ := rightS_last hp
  unfold D.f19F
  dsimp only
  rw [s42_eq _ (by omega), hp]
  simp only [Option.bind_some, Bool.not_true, Bool.false_eq_true, if_false]
  have e : D.s16F (p, A, c) = D.f46F (p, A, c) := rfl
  rw [e, s46_rise hA hl (by omega) hr c]
  rfl
theorem d87_eq {p : List Inst} {most fl : Int} {S : List StD} (hp : rightS p = true) (hr : ranged p) (s : StD) (c : Int) (hl : s.1.length ≤ 100000) : D.f87F ((p, most, S, fl), s, c) = some (behS p s c) := by
  unfold D.f87F
  dsimp only
  rw [d83_eq hp s false hl]
  obtain ⟨_, _, h3⟩ := rightS_last hp
  have hlen := reachS_len p s.1 s.2.1 false
  simp only [Option.bind_some]
  rw [d19_eq hp hr (reachS_rise p s.1 s.2.1 false) (by omega) c]
  rfl
noncomputable instance (p : List Inst) (S : List StD) (s : StD) (e : Int × Int) : Decidable (edgeOk p S s e) := by unfold edgeOk; infer_instance
theorem d88_true {p : List Inst} {most fl : Int} {S : List StD} (hp : rightS p = true) (hr : ranged p) (hS : S.length ≤ 100000) (hl : ∀ s ∈ S, s.1.length ≤ 100000) {s : StD} (hs : s.1.length ≤ 100000) {e : Int × Int} (he : edgeOk p S s e) : D.f88F ((p, most, S, fl), s, e) = some true := by
  unfold D.f88F
  dsimp only
  rw [d87_eq hp hr s e.1 hs]
  simp only [Option.bind_some]
  by_cases hb : behS p s e.1 = []
  · rw [hb, if_pos (by rfl), he.1 hb]; rfl
  · obtain ⟨h1, h2⟩ := he.2 hb
    have : (behS p s e.1).length ≠ 0 := fun h => hb (List.eq_nil_of_length_eq_zero h)
    rw [if_neg (by simp only [beq_iff_eq]; omega), if_pos (by rw [bne_iff_ne]; exact h1), d82_eq _ _ hS hl, ← h2]
    simp
theorem listOk_len {A : List Int} {n : Nat} (h : listOk A n) : A.length ≤ n := by
  obtain ⟨_, h1, h2⟩ := h
  have key : ∀ (l : List Int) (a : Int), l.Pairwise (· < ·) → (∀ x ∈ l, a ≤ x ∧ x < n) → 0 ≤ a → a ≤ n → (l.length : Int) ≤ n - a := by
    intro l
    induction l with
    | nil => intro a _ _ _ _; simp; omega
    | cons x l ih =>
      intro a hp hx h0 hn
      rw [List.pairwise_cons] at hp
      have hxa := hx x (by simp)
      have := ih (x + 1) hp.2 (fun y hy => by have := hp.1 y hy; have := hx y (by simp [hy]); omega) (by omega) (by omega)
      simp only [List.length_cons]
      omega
  have := key A 0 h2 h1 (Int.le_refl _) (by omega)
  omega
theorem d80_eq {A : List Int} (hl : A.length ≤ 100000) : D.f80F A = some A := by
  unfold D.f80F
  have hr : roomOk (0 + A.length) 8 := by unfold roomOk; omega
  cases A with
  | nil =>
    rw [if_pos (by rfl), if_pos (by exact hr)]
    unfold agree
    rw [if_pos (by rfl)]
  | cons a r => rw [if_neg (by simp), if_pos hr]; rfl
theorem d89_true {l : List Int} (hl : l.length ≤ 100000) (h : l.Pairwise (· ≤ ·)) : D.f89F l = some true := by
  unfold D.f89F
  have key : ∃ e : PUnit ⊕ Bool, iter (fun (s1 : Int) => if decide (s1 > 0) = true then if 0 ≤ s1 ∧ s1 < (l.length : Int) then if 0 ≤ IntKind.i64.wrap (s1 - 1) ∧ IntKind.i64.wrap (s1 - 1) < (l.length : Int) then
      Option.bind (D.f105F (l.getD s1.toNat 0, l.getD (IntKind.i64.wrap (s1 - 1)).toNat 0)) fun v2 => if v2 = true then some (Sum.inr (Sum.inr false)) else some (Sum.inl (IntKind.i64.wrap (s1 - 1))) else none else none else some (Sum.inr (Sum.inl ()))) (IntKind.i64.wrap ((l.length : Int) - 1)) = some e ∧ e = .inl () := by
    refine iter_rule (I := fun (s : Int) => -1 ≤ s ∧ s < (l.length : Int)) (fun (s : Int) => (s + 1).toNat) ?_ _ (by
      rw [wrap_i64 (by omega) (by omega)]; omega)
    rintro s ⟨h1, h2⟩
    by_cases hs : s > 0
    · left
      obtain ⟨n, rfl⟩ : ∃ n : Nat, s = ((n + 1 : Nat) : Int) := ⟨(s - 1).toNat, by omega⟩
      have hw : IntKind.i64.wrap (((n + 1 : Nat) : Int) - 1) = (n : Int) := by rw [wrap_i64 (by omega) (by omega)]; omega
      rw [if_pos (by rw [decide_eq_true_eq]; omega), if_pos (by omega), hw, if_pos (by omega)]
      simp only [s105_eq, Option.bind_some, Int.toNat_natCast, decide_eq_true_eq]
      have := List.pairwise_iff_getElem.1 h n (n + 1) (by omega) (by omega) (by omega)
      rw [getD_lt _ _ (show n + 1 < l.length by omega), getD_lt _ _ (show n < l.length by omega), if_neg (by omega)]
      exact ⟨_, rfl, ⟨by omega, by omega⟩, by omega⟩
    · right
      rw [if_neg (by rw [decide_eq_true_eq]; exact hs)]
      exact ⟨_, rfl, rfl⟩
  obtain ⟨e, he, rfl⟩ := key
  rw [he]; rfl
theorem d57_true {A : List Int} {n : Nat} (h : listOk A n) (hn : n ≤ 1000) : D.f57F (A, (n : Int)) = some true := by
  have hlen := listOk_len h
  obtain ⟨h1, h2, h3⟩ := h
  have hpos : 0 < A.length := List.length_pos_iff.2 h1
  have ha : 0 ≤ A.getD 0 0 := by rw [getD_lt _ _ hpos]; exact (h2 _ (List.getElem_mem _)).1
  have hz : A.getD (A.length - 1) 0 < n := by rw [getD_lt _ _ (by omega)]; exact (h2 _ (List.getElem_mem _)).2
  have hw : IntKind.i64.wrap ((A.length : Int) - 1) = ((A.length - 1 : Nat) : Int) := by rw [wrap_i64 (by omega) (by omega)]; omega
  unfold D.f57F
  dsimp only
  rw [if_pos (by rw [decide_eq_true_eq]; omega), if_pos (by omega), if_pos (by rw [decide_eq_true_eq]; exact ha), hw, if_pos (by omega), if_pos (by rw [decide_eq_true_eq, Int.toNat_natCast]; exact hz)]
  rw [d89_true (by omega) (h3.imp fun h => by omega)]
  simp only [Option.bind_some, if_true]
  rw [d80_eq (by omega)]
  simp only [Option.bind_some]
  rw [s75_rise h3 (by omega)]
  simp
end Go.Sx
