/- Dfa, plain: caches of states. -/
import Derived.Test.YtjmmbgjdfmceeaaSxDY9
set_option linter.unusedVariables false
set_option linter.unusedSimpArgs false
namespace Go.Sx
abbrev StD := List Int × Bool × List (Int × Int)
def dSt : StD := ([], false, [])
def knownS (S : List StD) (A : List Int) (b : Bool) : Int := match (S.map fun s => (s.1, s.2.1)).findIdx? (fun k => decide (k = (A, b))) with
  | some k => (k : Int)
  | none => -1
noncomputable def behS (p : List Inst) (s : StD) (c : Int) : List Int := moveS p (reachS p s.1 s.2.1 false) c
def listOk (A : List Int) (n : Nat) : Prop := A ≠ [] ∧ (∀ a ∈ A, 0 ≤ a ∧ a < n) ∧ A.Pairwise (· < ·)
def edgeOk (p : List Inst) (S : List StD) (s : StD) (e : Int × Int) : Prop := (behS p s e.1 = [] → e.2 = -1) ∧ (behS p s e.1 ≠ [] → e.2 ≠ -1 ∧ e.2 = knownS S (behS p s e.1) false)
structure StateI (p : List Inst) (S : List StD) (i : Nat) (s : StD) : Prop where
  list : listOk s.1 p.length
  known : knownS S s.1 s.2.1 = i
  dist : (s.2.2.map fun e => e.1).Nodup
  edge : ∀ e ∈ s.2.2, edgeOk p S s e
def CacheI (p : List Inst) (S : List StD) : Prop := ∀ i (h : i < S.length), StateI p S i S[i]
theorem knownS_ge (S : List StD) (A : List Int) (b : Bool) : knownS S A b = -1 ∨ (0 ≤ knownS S A b ∧ knownS S A b < S.length) := by
  unfold knownS
  split
  · rename_i k hk
    have := (List.findIdx?_eq_some_iff_getElem.1 hk).1
    rw [List.length_map] at this
    omega
  · exact .inl rfl
theorem knownS_some {S : List StD} {A : List Int} {b : Bool} {k : Nat} (h : knownS S A b = k) : ∃ hk : k < S.length, S[k].1 = A ∧ S[k].2.1 = b := by
  unfold knownS at h
  split at h
  · rename_i j hj
    have : j = k := by omega
    subst this
    obtain ⟨h1, h2, _⟩ := List.findIdx?_eq_some_iff_getElem.1 hj
    simp only [List.getElem_map, decide_eq_true_eq, Prod.mk.injEq] at h2
    rw [List.length_map] at h1
    exact ⟨h1, h2.1, h2.2⟩
  · omega
theorem knownS_app {S : List StD} {A : List Int} {b : Bool} (h : knownS S A b ≠ -1) (T : List StD) : knownS (S ++ T) A b = knownS S A b := by
  unfold knownS at h ⊢
  rw [List.map_append, List.findIdx?_append]
  cases hf : (S.map fun s => (s.1, s.2.1)).findIdx? (fun k => decide (k = (A, b))) with
  | some k => rfl
  | none => rw [hf] at h; exact absurd rfl h
theorem knownS_new {S : List StD} {A : List Int} {b : Bool} (h : knownS S A b = -1) (E : List (Int × Int)) : knownS (S ++ [(A, b, E)]) A b = S.length := by
  unfold knownS at h ⊢
  rw [List.map_append, List.findIdx?_append]
  cases hf : (S.map fun s => (s.1, s.2.1)).findIdx? (fun k => decide (k = (A, b))) with
  | some k => rw [hf] at h; simp at h
  | none => simp [List.findIdx?_cons]
def findS (most : Int) (S : List StD) (fl : Int) (A : List Int) (b : Bool) : List StD × Int × Int × Bool :=
  if knownS S A b ≠ -1 then (S, fl, knownS S A b, false)
  else if (S.length : Int) = most then ([(A, b, [])], fl + 1, 0, true)
  else (S ++ [(A, b, [])], fl, (S.length : Int), false)
theorem edgeOk_congr {p : List Inst} {S T : List StD} {s : StD} {e : Int × Int} (h : edgeOk p S s e) (hk : ∀ A b, knownS S A b ≠ -1 → knownS T A b = knownS S A b) : edgeOk p T s e := by
  refine ⟨h.1, fun hb => ?_⟩
  obtain ⟨h1, h2⟩ := h.2 hb
  refine ⟨h1, ?_⟩
  rw [hk _ _ (by rw [← h2]; exact h1)]
  exact h2
theorem CacheI.nil (p : List Inst) : CacheI p [] := fun i h => by simp at h
theorem CacheI.one {p : List Inst} {A : List Int} {b : Bool} (hA : listOk A p.length) : CacheI p [(A, b, [])] := by
  intro i h
  have : i = 0 := by simp at h; omega
  subst this
  refine ⟨hA, ?_, List.nodup_nil, fun e he => by simp at he⟩
  simp [knownS, List.findIdx?_cons]
theorem findS_ok {p : List Inst} {most : Int} {S : List StD} (h : CacheI p S) (hm : (S.length : Int) ≤ most) (hm1 : 1 ≤ most) (fl : Int) {A : List Int} {b : Bool} (hA : listOk A p.length) :
    ∃ (T : List StD) (fl' : Int) (k : Nat) (w : Bool), findS most S fl A b = (T, fl', (k : Int), w) ∧ CacheI p T ∧ (T.length : Int) ≤ most ∧ (∃ hk : k < T.length, T[k].1 = A ∧ T[k].2.1 = b) ∧ knownS T A b = k ∧
      (w = true → fl' = fl + 1 ∧ T = [(A, b, [])]) ∧ (w = false → fl' = fl ∧ (T = S ∨ (T = S ++ [(A, b, [])] ∧ knownS S A b = -1))) := by
  unfold findS
  by_cases hk : knownS S A b ≠ -1
  · rw [if_pos hk]
    rcases knownS_ge S A b with h1 | ⟨h1, h2⟩
    · exact absurd h1 hk
    · obtain ⟨k, hk2⟩ := Int.eq_ofNat_of_zero_le h1
      rw [hk2]
      exact ⟨S, fl, k, false, rfl, h, hm, knownS_some hk2, hk2, (fun e => by cases e), fun _ => ⟨rfl, .inl rfl⟩⟩
  · rw [if_neg hk]
    have hk' : knownS S A b = -1 := by
      apply Decidable.byContradiction
      exact hk
    by_cases hl : (S.length : Int) = most
    · rw [if_pos hl]
      refine ⟨_, _, 0, true, rfl, CacheI.one hA, by simp; exact hm1, ⟨by simp, rfl, rfl⟩, ?_, fun _ => ⟨rfl, rfl⟩, fun e => by cases e⟩
      simp [knownS, List.findIdx?_cons]
    · rw [if_neg hl]
      refine ⟨_, _, S.length, false, rfl, ?_, by simp; omega, ⟨by simp, by simp, by simp⟩, knownS_new hk' [], (fun e => by cases e), fun _ => ⟨rfl, .inr ⟨rfl, hk'⟩⟩⟩
      intro i hi
      by_cases his : i < S.length
      · rw [List.getElem_append_left his]
        obtain ⟨g1, g2, g3, g4⟩ := h i his
        refine ⟨g1, ?_, g3, fun e he => edgeOk_congr (g4 e he) fun A b hn => knownS_app hn _⟩
        rw [knownS_app (by rw [g2]; omega)]
        exact g2
      · have : i = S.length := by simp at hi; omega
        subst this
        simp only [List.getElem_concat_length]
        exact ⟨hA, knownS_new hk' [], List.nodup_nil, fun e he => by simp at he⟩
theorem rightS_last {p : List Inst} (hp : rightS p = true) : 0 < p.length ∧ (p.getD (p.length - 1) dI).1 = 0 ∧ p.length ≤ 1000 := by
  unfold rightS at hp
  simp only [Bool.and_eq_true, decide_eq_true_eq] at hp
  obtain ⟨⟨⟨h1, h2⟩, h3⟩, _⟩ := hp
  exact ⟨by cases p with
    | nil => exact absurd rfl h1
    | cons a r => simp, h3, h2⟩
theorem zero_ok {p : List Inst} (hp : rightS p = true) : listOk [0] p.length := by
  obtain ⟨h, _⟩ := rightS_last hp
  exact ⟨by simp, fun a ha => by simp at ha; subst ha; omega, by simp⟩
end Go.Sx
