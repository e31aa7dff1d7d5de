/- Seq, plain: same and right. -/
import Derived.Test.YtjmdfkcgglidaaaSxSq8
set_option linter.unusedVariables false
set_option linter.unusedSimpArgs false
namespace Go.Sx

theorem f51_eq (a : Int) : Q.f51F a = some false := by
  unfold Q.f51F
  simp

theorem f45_eq (a b : Int) : Q.f45F (a, b) = some (decide (a < b)) := by
  unfold Q.f45F
  simp only [f51_eq, Option.bind_some, Bool.false_eq_true, if_false]

theorem eqb_same (x : List Int) : Ty.eqb (.arr 2 (.int .i64)) x x = true := by
  have h : ∀ l : List Int, (l.zip l).all (fun p => p.1 == p.2) = true := by
    intro l
    induction l with
    | nil => rfl
    | cons a l ih => simp [List.zip_cons_cons, ih]
  show (x.length == x.length && (x.zip x).all fun p => p.1 == p.2) = true
  rw [h]; simp

theorem f29_true {l : List Int} (hl : l.length ≤ 100000) (h : l.Pairwise (· ≤ ·)) : Q.f29F l = some true := by
  unfold Q.f29F
  refine some_of (bind_ex (Q := fun e => e = .inl ()) (iter_rule (I := fun (s : Int) => -1 ≤ s ∧ s < (l.length : Int)) (fun (s : Int) => (s + 1).toNat) ?_ _ (by
    rw [wrap_i64 (by omega) (by omega)]; omega)) fun e he => ⟨true, by rw [he]; rfl, rfl⟩)
  rintro s ⟨h1, h2⟩
  by_cases hs : s > 0
  · left
    obtain ⟨n, rfl⟩ : ∃ n : Nat, s = ((n + 1 : Nat) : Int) := ⟨(s - 1).toNat, by omega⟩
    have hw : IntKind.i64.wrap (((n + 1 : Nat) : Int) - 1) = (n : Int) := by rw [wrap_i64 (by omega) (by omega)]; omega
    rw [if_pos (by rw [decide_eq_true_eq]; omega), if_pos (by omega), hw, if_pos (by omega)]
    simp only [f45_eq, Option.bind_some, Int.toNat_natCast, decide_eq_true_eq]
    have := List.pairwise_iff_getElem.1 h n (n + 1) (by omega) (by omega) (by omega)
    rw [getD_at 0 (by omega), getD_at 0 (by omega), if_neg (by omega)]
    exact ⟨_, rfl, ⟨by omega, by omega⟩, by omega⟩
  · right
    rw [if_neg (by rw [decide_eq_true_eq]; exact hs)]
    exact ⟨_, rfl, rfl⟩

/-- Places within bounds, none twice. -/
def GoodF (l : List Int) (n : Int) : Prop := (∀ p ∈ l, 0 ≤ p ∧ p < n) ∧ l.Nodup
instance (l : List Int) (n : Int) : Decidable (GoodF l n) := by unfold GoodF; infer_instance

theorem GoodF.left {a b : List Int} {n : Int} (h : GoodF (a ++ b) n) : GoodF a n := ⟨fun p hp => h.1 p (List.mem_append_left _ hp), (List.nodup_append.1 h.2).1⟩

def placesR (R : List (List Int × Int × Int × Int)) : List Int := R.flatMap fun r => r.1

theorem mget_put_bool (W : List (Int × Bool)) (l : List Int) (q : Int) (h : ∀ p, mget (K := .int .i64) (V := .bool) W p = if p ∈ l then some true else none) :
    ∀ p, mget (K := .int .i64) (V := .bool) (mputX (.int .i64) .bool W q true) p = if p ∈ l ++ [q] then some true else none := by
  intro p
  show mget (K := .int .i64) (V := .bool) (mput (K := .int .i64) (V := .bool) W q true) p = _
  rw [mget_mput, h]
  by_cases hp : p = q
  · subst hp; simp
  · simp [hp]

theorem f16_eq {R : List (List Int × Int × Int × Int)} {n : Int} (hR : R.length ≤ 100000) (hs : ∀ r ∈ R, r.1.Pairwise (· ≤ ·)) (hl : ∀ r ∈ R, r.1.length ≤ 100000) : Q.f16F (R, n) = some (decide (GoodF (placesR R) n)) := by
  unfold Q.f16F
  dsimp only
  have hgood : ∀ k, k ≤ R.length → ¬ GoodF (placesR (R.take k)) n → ¬ GoodF (placesR R) n := fun k hk hn h => hn (by
    have e : placesR R = placesR (R.take k) ++ placesR (R.drop k) := by
      unfold placesR
      rw [← List.flatMap_append, List.take_append_drop]
    rw [e] at h; exact h.left)
  refine some_of (bind_ex (Q := fun e => (e = .inl () ∧ GoodF (placesR R) n) ∨ (e = .inr false ∧ ¬ GoodF (placesR R) n)) (iter_rule (I := fun (s : Int × List (Int × Bool)) => ∃ (k : Nat) (W : List (Int × Bool)), k ≤ R.length ∧ s = ((k : Int), W) ∧ GoodF (placesR (R.take k)) n ∧
      ∀ p, mget (K := .int .i64) (V := .bool) W p = if p ∈ placesR (R.take k) then some true else none) (fun s => (R.length - s.1).toNat) ?_ _ ⟨0, [], Nat.zero_le _, rfl, ⟨by simp [placesR], by simp [placesR]⟩, fun p => by simp [placesR, mget]⟩) ?_)
  rotate_left
  · rintro e (⟨rfl, h⟩ | ⟨rfl, h⟩)
    · exact ⟨true, rfl, by simp [h]⟩
    · exact ⟨false, rfl, by simp [h]⟩
  rintro _ ⟨k, W, hk, rfl, hg, hW⟩
  by_cases hkl : k < R.length
  rotate_left
  · have : k = R.length := by omega
    subst this
    right
    dsimp only
    rw [if_neg (by rw [decide_eq_true_eq]; omega)]
    rw [List.take_length] at hg
    exact ⟨_, rfl, .inl ⟨rfl, hg⟩⟩
  have hw : IntKind.i64.wrap ((k : Int) + 1) = ((k + 1 : Nat) : Int) := by rw [wrap_i64 (by omega) (by omega)]; omega
  have hrm : R.getD k ([], 0, 0, 0) ∈ R := by rw [getD_at _ hkl]; exact List.getElem_mem _
  have hsucc : placesR (R.take (k + 1)) = placesR (R.take k) ++ (R.getD k ([], 0, 0, 0)).1 := by
    rw [take_one_more R k ([], 0, 0, 0) hkl]; simp [placesR]
  have h1 := hs _ hrm
  have h2 := hl _ hrm
  dsimp only
  rw [if_pos (by rw [decide_eq_true_eq]; omega), if_pos (by omega)]
  simp only [Int.toNat_natCast, hw]
  obtain ⟨r, hr⟩ : ∃ r, r = (R.getD k ([], 0, 0, 0)).1 := ⟨_, rfl⟩
  simp only [← hr] at h1 h2 hsucc ⊢
  rw [f29_true h2 h1]
  simp only [Option.bind_some, Bool.not_true, Bool.false_eq_true, if_false]
  generalize placesR (R.take k) = L at *
  have key : ∃ e : List (Int × Bool) ⊕ Bool, iter (fun (s3 : Int × List (Int × Bool)) => if decide (s3.1 < (r.length : Int)) = true then if 0 ≤ s3.1 ∧ s3.1 < (r.length : Int) then
        Option.bind (if decide (r.getD s3.1.toNat 0 < 0) = true then some (true, s3.2) else if decide (r.getD s3.1.toNat 0 ≥ n) = true then some (true, s3.2)
          else some ((mgetX (.int .i64) .bool s3.2 (r.getD s3.1.toNat 0)).getD false, s3.2)) fun (v4 : Bool × List (Int × Bool)) => if v4.1 = true then some (Sum.inr (Sum.inr false)) else some (Sum.inl (IntKind.i64.wrap (s3.1 + 1), mputX (.int .i64) .bool v4.2 (r.getD s3.1.toNat 0) true))
        else none else some (Sum.inr (Sum.inl s3.2))) (0, W) = some e ∧ ((∃ W', e = .inl W' ∧ GoodF (L ++ r) n ∧ ∀ p, mget (K := .int .i64) (V := .bool) W' p = if p ∈ L ++ r then some true else none) ∨ (e = .inr false ∧ ¬ GoodF (L ++ r) n)) := by
    refine iter_rule (I := fun (s : Int × List (Int × Bool)) => ∃ (j : Nat) (W : List (Int × Bool)), j ≤ r.length ∧ s = ((j : Int), W) ∧ GoodF (L ++ r.take j) n ∧ ∀ p, mget (K := .int .i64) (V := .bool) W p = if p ∈ L ++ r.take j then some true else none) (fun s => (r.length - s.1).toNat) ?_ _ ⟨0, W, Nat.zero_le _, rfl, by simpa using hg, by simpa using hW⟩
    rintro _ ⟨j, W, hj, rfl, hg, hW⟩
    by_cases hjl : j < r.length
    rotate_left
    · have : j = r.length := by omega
      subst this
      right
      dsimp only
      rw [if_neg (by rw [decide_eq_true_eq]; omega)]
      rw [List.take_length] at hg hW
      exact ⟨_, rfl, .inl ⟨W, rfl, hg, hW⟩⟩
    have hw : IntKind.i64.wrap ((j : Int) + 1) = ((j + 1 : Nat) : Int) := by rw [wrap_i64 (by omega) (by omega)]; omega
    have hs2 : L ++ r.take (j + 1) = L ++ r.take j ++ [r.getD j 0] := by rw [take_one_more r j 0 hjl, List.append_assoc]
    have hbad : ¬ GoodF (L ++ r.take (j + 1)) n → ¬ GoodF (L ++ r) n := fun hn h => hn (by
      have e : L ++ r = L ++ r.take (j + 1) ++ r.drop (j + 1) := by rw [List.append_assoc, List.take_append_drop]
      rw [e] at h; exact h.left)
    dsimp only
    rw [if_pos (by rw [decide_eq_true_eq]; omega), if_pos (by omega)]
    simp only [Int.toNat_natCast, hw]
    obtain ⟨q, hq⟩ : ∃ q, q = r.getD j 0 := ⟨_, rfl⟩
    simp only [← hq] at hs2 ⊢
    by_cases hq1 : q < 0
    · right
      rw [if_pos (by rw [decide_eq_true_eq]; exact hq1)]
      refine ⟨_, rfl, .inr ⟨rfl, hbad fun h => ?_⟩⟩
      rw [hs2] at h
      have := (h.1 q (by simp)).1
      omega
    · rw [if_neg (by rw [decide_eq_true_eq]; exact hq1)]
      by_cases hq2 : q ≥ n
      · right
        rw [if_pos (by rw [decide_eq_true_eq]; exact hq2)]
        refine ⟨_, rfl, .inr ⟨rfl, hbad fun h => ?_⟩⟩
        rw [hs2] at h
        have := (h.1 q (by simp)).2
        omega
      · rw [if_neg (by rw [decide_eq_true_eq]; exact hq2)]
        have hm : mgetX (.int .i64) .bool W q = if q ∈ L ++ r.take j then some true else none := hW q
        rw [hm]
        by_cases hin : q ∈ L ++ r.take j
        · right
          rw [if_pos hin]
          refine ⟨_, rfl, .inr ⟨rfl, hbad fun h => ?_⟩⟩
          rw [hs2] at h
          have := (List.nodup_append.1 h.2).2.2 q hin q (by simp)
          exact this rfl
        · left
          rw [if_neg hin]
          refine ⟨_, rfl, ⟨j + 1, _, hjl, rfl, ?_, ?_⟩, by simp; omega⟩
          · rw [hs2]
            refine ⟨fun p hp => ?_, ?_⟩
            · rcases List.mem_append.1 hp with h | h
              · exact hg.1 p h
              · simp at h; subst h; omega
            · rw [List.nodup_append]
              exact ⟨hg.2, by simp, fun a ha b hb => by simp at hb; subst hb; intro e; exact hin (e ▸ ha)⟩
          · rw [hs2]
            exact mget_put_bool W _ q hW
  obtain ⟨e, he, hc⟩ := key
  rw [he]
  rcases hc with ⟨W', rfl, h3, h4⟩ | ⟨rfl, h3⟩
  · left
    exact ⟨_, rfl, ⟨k + 1, W', hkl, rfl, by rw [hsucc]; exact h3, by rw [hsucc]; exact h4⟩, by simp; omega⟩
  · right
    exact ⟨_, rfl, .inr ⟨rfl, hgood (k + 1) hkl (by rw [hsucc]; exact h3)⟩⟩

theorem f9_self {R : List (List Int × Int × Int × Int)} (hR : R.length ≤ 100000) (hl : ∀ r ∈ R, r.1.length ≤ 100000) : Q.f9F (R, R) = some true := by
  unfold Q.f9F
  dsimp only
  rw [if_neg (by simp)]
  rw [iter_to R.length (.inl ()) _ (fun k hk => ?_) ?_]
  · rfl
  · rw [if_neg (by rw [decide_eq_true_eq]; omega)]
  · have hw : IntKind.i64.wrap ((k : Int) + 1) = ((k + 1 : Nat) : Int) := by rw [wrap_i64 (by omega) (by omega)]; omega
    have hrm : R.getD k ([], 0, 0, 0) ∈ R := by rw [getD_at _ hk]; exact List.getElem_mem _
    have h2 := hl _ hrm
    have hb : (0 : Int) ≤ (k : Int) ∧ (k : Int) < (R.length : Int) := by omega
    simp only [Int.toNat_natCast, hw]
    rw [if_pos (by rw [decide_eq_true_eq]; omega)]
    simp only [if_pos hb]
    rw [f27_eq _ _ (by omega)]
    simp only [Option.bind_some, decide_true, Bool.not_true, Bool.false_eq_true, if_false, bne_self_eq_false]

theorem f10_self {R : List (List Int)} (hR : R.length ≤ 100000) : Q.f10F (R, R) = some true := by
  unfold Q.f10F
  dsimp only
  rw [if_neg (by simp)]
  rw [iter_to R.length (.inl ()) _ (fun k hk => ?_) ?_]
  · rfl
  · rw [if_neg (by rw [decide_eq_true_eq]; omega)]
  · have hw : IntKind.i64.wrap ((k : Int) + 1) = ((k + 1 : Nat) : Int) := by rw [wrap_i64 (by omega) (by omega)]; omega
    have hb : (0 : Int) ≤ (k : Int) ∧ (k : Int) < (R.length : Int) := by omega
    simp only [Int.toNat_natCast, hw]
    rw [if_pos (by rw [decide_eq_true_eq]; omega)]
    simp only [if_pos hb]
    rw [eqb_same]
    simp only [Bool.not_true, Bool.false_eq_true, if_false]
end Go.Sx
