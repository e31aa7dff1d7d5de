/- Brackets, plain: the pairs, in the order in which they are closed. -/
import Derived.Test.YtemngcdlgnconaaSxB5
set_option linter.unusedVariables false
set_option linter.unusedSimpArgs false
namespace Go.Sx

/-- The last place where it holds. -/
def lastK (p : Nat → Bool) : Nat → Option Nat
  | 0 => none
  | n + 1 => if p n = true then some n else lastK p n

theorem lastK_some {p : Nat → Bool} : ∀ {n k : Nat}, lastK p n = some k → k < n ∧ p k = true
  | 0, _, h => by cases h
  | n + 1, k, h => by
    unfold lastK at h
    split at h
    · cases h; exact ⟨by omega, by assumption⟩
    · have := lastK_some h; exact ⟨by omega, this.2⟩

theorem lastK_succ (p : Nat → Bool) (n : Nat) : lastK p (n + 1) = if p n = true then some n else lastK p n := rfl

def lkI : Option Nat → Int
  | none => -1
  | some k => (k : Int)

/-- The brackets that wait: which one, and where. -/
def waitsS (ch : List Int) (ws : List Nat) : List (Int × Int) := ws.map fun w => (ch.getD w 0, (w : Int))

/-- The pairs from place 'i' on, 'n' places, where 'ws' wait. -/
def pW (ch cl : List Int) : Nat → Nat → List Nat → List (Nat × Nat)
  | 0, _, _ => []
  | n + 1, i, ws =>
    if (!(otS (ch.getD i 0)).2.2 || cl.getD i 0 != 13) = true then pW ch cl n (i + 1) ws
    else if (otS (ch.getD i 0)).2.1 = true then (if ws.length = 63 then [] else pW ch cl n (i + 1) (ws ++ [i]))
    else match lastK (fun k => smS (ch.getD (ws.getD k 0) 0) (otS (ch.getD i 0)).1) ws.length with
      | none => pW ch cl n (i + 1) ws
      | some k => (ws.getD k 0, i) :: pW ch cl n (i + 1) (ws.take k)

theorem pW_mem (ch cl : List Int) : ∀ (n i : Nat) (ws : List Nat), (∀ w ∈ ws, w < i) → ∀ p ∈ pW ch cl n i ws, p.1 < p.2 ∧ i ≤ p.2 ∧ p.2 < i + n
  | 0, _, _, _, p, h => by simp [pW] at h
  | n + 1, i, ws, hw, p, h => by
    have up : ∀ ws', (∀ w ∈ ws', w < i + 1) → p ∈ pW ch cl n (i + 1) ws' → p.1 < p.2 ∧ i ≤ p.2 ∧ p.2 < i + (n + 1) := fun ws' h1 h2 => by
      have := pW_mem ch cl n (i + 1) ws' h1 p h2; omega
    have hw1 : ∀ w ∈ ws, w < i + 1 := fun w hm => by have := hw w hm; omega
    unfold pW at h
    split at h
    · exact up _ hw1 h
    · split at h
      · split at h
        · simp at h
        · refine up _ (fun w hm => ?_) h
          rcases List.mem_append.1 hm with hm | hm
          · exact hw1 w hm
          · simp at hm; omega
      · split at h
        · exact up _ hw1 h
        · rename_i k hk
          obtain ⟨hk1, _⟩ := lastK_some hk
          rcases List.mem_cons.1 h with rfl | h
          · have := hw (ws.getD k 0) (by rw [getD_lt _ _ hk1]; exact List.getElem_mem hk1)
            exact ⟨this, Nat.le_refl _, by show i < i + (n + 1); omega⟩
          · exact up _ (fun w hm => hw1 w (List.mem_of_mem_take hm)) h

def toP (p : Nat × Nat) : List Int := [(p.1 : Int), (p.2 : Int)]

/-- Sorted. -/
noncomputable def sortP (l : List (List Int)) : List (List Int) := (K.f53F l).getD []

theorem sortP_eq {l : List (List Int)} (h : Kb l) (hl : l.length < 1100) : K.f53F l = some (sortP l) := by
  obtain ⟨l', h1, _⟩ := k53_ok (l := l) hl h
  unfold sortP
  rw [h1]; rfl

theorem pW_length (ch cl : List Int) : ∀ (n i : Nat) (ws : List Nat), (pW ch cl n i ws).length ≤ n
  | 0, _, _ => by simp [pW]
  | n + 1, i, ws => by
    have := pW_length ch cl n (i + 1)
    unfold pW
    split
    · exact Nat.le_succ_of_le (this _)
    · split
      · split
        · simp
        · exact Nat.le_succ_of_le (this _)
      · split
        · exact Nat.le_succ_of_le (this _)
        · rw [List.length_cons]; exact Nat.succ_le_succ (this _)

/-- The loop that looks for the last one that fits. -/
theorem back_loop {p : Nat → Bool} (n : Nat) {f : Int → Option (Int ⊕ Int)} (hf : ∀ k : Nat, k < n → f (k : Int) = some (if p k = true then .inr (k : Int) else .inl ((k : Int) - 1))) (h0 : f (-1) = some (.inr (-1))) :
    iter f ((n : Int) - 1) = some (lkI (lastK p n)) := by
  induction n with
  | zero => exact iter_inr h0
  | succ n ih =>
    have h := hf n (by omega)
    unfold lastK
    rw [show ((n + 1 : Nat) : Int) - 1 = (n : Int) by omega]
    by_cases hp : p n = true
    · rw [if_pos hp] at h ⊢
      exact iter_inr h
    · rw [if_neg hp] at h ⊢
      rw [iter_inl h]
      exact ih fun k hk => hf k (by omega)

/-- A loop that carries what it doesn't turn. -/
theorem iter_carry {A B : Type} {f : A → Option (A ⊕ A)} {g : A × B → Option ((A × B) ⊕ (A × B))} {b : B} (h : ∀ a, g (a, b) = (f a).map (Sum.map (fun x => (x, b)) (fun x => (x, b)))) {a e : A} (he : iter f a = some e) : iter g (a, b) = some (e, b) := by
  obtain ⟨n, hn⟩ := iterN_of_iter he
  clear he
  induction n generalizing a with
  | zero => simp [iterN] at hn
  | succ n ih =>
    unfold iterN at hn
    have hg := h a
    cases hf : f a with
    | none => rw [hf] at hn; cases hn
    | some x =>
      rw [hf] at hn hg
      cases x with
      | inl a' => exact (iter_inl hg).trans (ih hn)
      | inr e' =>
        simp only [Option.some.injEq] at hn
        subst hn
        exact iter_inr hg

theorem waitsS_getD (ch : List Int) (ws : List Nat) {k : Nat} (h : k < ws.length) : (waitsS ch ws).getD k (0, 0) = (ch.getD (ws.getD k 0) 0, ((ws.getD k 0 : Nat) : Int)) := by
  rw [getD_lt _ _ (by simpa [waitsS] using h), getD_lt _ _ h]
  simp [waitsS]

theorem waitsS_len (ch : List Int) (ws : List Nat) : (waitsS ch ws).length = ws.length := by simp [waitsS]

/-- The search among those that wait. -/
theorem back_eq (ch : List Int) (ws : List Nat) (o : Int) (ps : List (List Int)) (hl : ws.length ≤ 100000) :
    iter (fun (s7 : Int × List (List Int) × List (Int × Int)) =>
                                    Option.bind
                                      (if decide (s7.fst ≥ (0 : Int)) = true then
                                        if (0 : Int) ≤ s7.fst ∧ s7.fst < (↑(List.length s7.snd.snd) : Int) then
                                          Option.bind (K.f52F ((List.getD s7.snd.2 (Int.toNat s7.fst) ((0 : Int), (0 : Int))).1, o)) fun (v8 : Bool) => some (!v8, s7.snd.1, s7.snd.2)
                                        else none
                                      else some (false, s7.snd.1, s7.snd.2))
                                      fun (v8 : Bool × List (List Int) × List (Int × Int)) =>
                                      if v8.fst = true then some (Sum.inl (IntKind.i64.wrap (s7.fst - (1 : Int)), v8.snd.1, v8.snd.2))
                                      else some (Sum.inr (s7.1, v8.snd.1, v8.snd.2))) ((ws.length : Int) - 1, ps, waitsS ch ws) = some (lkI (lastK (fun k => smS (ch.getD (ws.getD k 0) 0) o) ws.length), ps, waitsS ch ws) := by
  suffices hh : ∃ e, iter (fun (s7 : Int × List (List Int) × List (Int × Int)) =>
                                    Option.bind
                                      (if decide (s7.fst ≥ (0 : Int)) = true then
                                        if (0 : Int) ≤ s7.fst ∧ s7.fst < (↑(List.length s7.snd.snd) : Int) then
                                          Option.bind (K.f52F ((List.getD s7.snd.2 (Int.toNat s7.fst) ((0 : Int), (0 : Int))).1, o)) fun (v8 : Bool) => some (!v8, s7.snd.1, s7.snd.2)
                                        else none
                                      else some (false, s7.snd.1, s7.snd.2))
                                      fun (v8 : Bool × List (List Int) × List (Int × Int)) =>
                                      if v8.fst = true then some (Sum.inl (IntKind.i64.wrap (s7.fst - (1 : Int)), v8.snd.1, v8.snd.2))
                                      else some (Sum.inr (s7.1, v8.snd.1, v8.snd.2))) ((ws.length : Int) - 1, ps, waitsS ch ws) = some e ∧ e = (lkI (lastK (fun k => smS (ch.getD (ws.getD k 0) 0) o) ws.length), ps, waitsS ch ws) by
    obtain ⟨e, h1, h2⟩ := hh; rw [h1, h2]
  refine iter_rule (I := fun s => ∃ k : Nat, k ≤ ws.length ∧ s = ((k : Int) - 1, ps, waitsS ch ws) ∧ lastK (fun k => smS (ch.getD (ws.getD k 0) 0) o) ws.length = lastK (fun k => smS (ch.getD (ws.getD k 0) 0) o) k) (fun s => (s.1 + 1).toNat) ?_ _ ⟨ws.length, Nat.le_refl _, rfl, rfl⟩
  rintro _ ⟨k, hk, rfl, hI⟩
  have hwl := waitsS_len ch ws
  cases k with
  | zero =>
    refine .inr ⟨_, rfl, ?_⟩
    rw [hI]
    rfl
  | succ k =>
    dsimp only
    rw [show ((k + 1 : Nat) : Int) - 1 = (k : Int) by omega, if_pos (by rw [decide_eq_true_eq]; omega), if_pos (by omega), Int.toNat_natCast, waitsS_getD ch ws (by omega), k52_eq]
    simp only [Option.bind_some]
    rw [lastK_succ] at hI
    by_cases hs : smS (ch.getD (ws.getD k 0) 0) o = true
    · rw [if_pos hs] at hI
      rw [hs]
      refine .inr ⟨_, rfl, ?_⟩
      rw [hI]; rfl
    · rw [if_neg hs] at hI
      rw [Bool.not_eq_true] at hs
      rw [hs, wrap_i64 (by omega) (by omega)]
      exact .inl ⟨_, rfl, ⟨k, by omega, rfl, hI⟩, by show ((k : Int) - 1 + 1).toNat < ((k : Int) + 1).toNat; omega⟩

theorem waitsS_snoc (ch : List Int) (ws : List Nat) (i : Nat) : waitsS ch ws ++ [(ch.getD i 0, (i : Int))] = waitsS ch (ws ++ [i]) := by simp [waitsS]
theorem waitsS_take (ch : List Int) (ws : List Nat) (k : Nat) : (waitsS ch ws).take k = waitsS ch (ws.take k) := by simp [waitsS, List.map_take]

/-- What the loop yields from a place on. -/
theorem k35_loop (ch cl : List Int) (hlen : ch.length = cl.length) (hl : ch.length ≤ 1000) {f : Int × List (List Int) × List (Int × Int) → Option ((Int × List (List Int) × List (Int × Int)) ⊕ List (List Int))}
    (hend : ∀ (i : Int) ps op, ¬ i < (ch.length : Int) → f (i, ps, op) = (K.f53F ps).bind fun v => some (.inr v))
    (hskip : ∀ (i : Nat) ps ws, i < ch.length → (!(otS (ch.getD i 0)).2.2 || cl.getD i 0 != 13) = true → f ((i : Int), ps, waitsS ch ws) = some (.inl (((i + 1 : Nat) : Int), ps, waitsS ch ws)))
    (hfull : ∀ (i : Nat) ps ws, i < ch.length → ¬ (!(otS (ch.getD i 0)).2.2 || cl.getD i 0 != 13) = true → (otS (ch.getD i 0)).2.1 = true → ws.length = 63 → f ((i : Int), ps, waitsS ch ws) = some (.inl (((ch.length + 1 : Nat) : Int), ps, waitsS ch ws)))
    (hpush : ∀ (i : Nat) ps ws, i < ch.length → ¬ (!(otS (ch.getD i 0)).2.2 || cl.getD i 0 != 13) = true → (otS (ch.getD i 0)).2.1 = true → ws.length < 63 → f ((i : Int), ps, waitsS ch ws) = some (.inl (((i + 1 : Nat) : Int), ps, waitsS ch (ws ++ [i]))))
    (hnone : ∀ (i : Nat) ps ws, i < ch.length → ws.length ≤ 63 → ¬ (!(otS (ch.getD i 0)).2.2 || cl.getD i 0 != 13) = true → ¬ (otS (ch.getD i 0)).2.1 = true → lastK (fun k => smS (ch.getD (ws.getD k 0) 0) (otS (ch.getD i 0)).1) ws.length = none → f ((i : Int), ps, waitsS ch ws) = some (.inl (((i + 1 : Nat) : Int), ps, waitsS ch ws)))
    (hsome : ∀ (i : Nat) ps ws k, i < ch.length → ws.length ≤ 63 → ps.length ≤ i → ¬ (!(otS (ch.getD i 0)).2.2 || cl.getD i 0 != 13) = true → ¬ (otS (ch.getD i 0)).2.1 = true → lastK (fun k => smS (ch.getD (ws.getD k 0) 0) (otS (ch.getD i 0)).1) ws.length = some k → f ((i : Int), ps, waitsS ch ws) = some (.inl (((i + 1 : Nat) : Int), ps ++ [toP (ws.getD k 0, i)], waitsS ch (ws.take k)))) :
    ∀ (i : Nat) (ps : List (List Int)) (ws : List Nat), i ≤ ch.length + 1 → ps.length ≤ i → ws.length ≤ 63 → (∀ w ∈ ws, w < i) → Kb ps → iter f ((i : Int), ps, waitsS ch ws) = some (sortP (ps ++ (pW ch cl (ch.length - i) i ws).map toP)) := by
  suffices key : ∀ (n i : Nat) (ps : List (List Int)) (ws : List Nat), ch.length - i = n → i ≤ ch.length + 1 → ps.length ≤ i → ws.length ≤ 63 → (∀ w ∈ ws, w < i) → Kb ps → iter f ((i : Int), ps, waitsS ch ws) = some (sortP (ps ++ (pW ch cl n i ws).map toP)) by
    intro i ps ws h1 h2 h3 h4 h5
    exact key _ i ps ws rfl h1 h2 h3 h4 h5
  have fin : ∀ (i : Int) ps op, ¬ i < (ch.length : Int) → ps.length ≤ ch.length + 1 → Kb ps → iter f (i, ps, op) = some (sortP ps) := by
    intro i ps op h1 h2 h3
    refine iter_inr ?_
    rw [hend i ps op h1, sortP_eq h3 (by omega)]
    rfl
  intro n
  induction n with
  | zero =>
    intro i ps ws hn h1 h2 h3 h4 h5
    rw [fin i ps _ (by omega) (by omega) h5]
    simp [pW]
  | succ n ih =>
    intro i ps ws hn h1 h2 h3 h4 h5
    have hi : i < ch.length := by omega
    have hw1 : ∀ w ∈ ws, w < i + 1 := fun w hm => by have := h4 w hm; omega
    unfold pW
    by_cases c1 : (!(otS (ch.getD i 0)).2.2 || cl.getD i 0 != 13) = true
    · rw [if_pos c1, iter_inl (hskip i ps ws hi c1)]
      exact ih (i + 1) ps ws (by omega) (by omega) (by omega) h3 hw1 h5
    rw [if_neg c1]
    by_cases c2 : (otS (ch.getD i 0)).2.1 = true
    · rw [if_pos c2]
      by_cases c3 : ws.length = 63
      · rw [if_pos c3, iter_inl (hfull i ps ws hi c1 c2 c3), fin _ ps _ (by omega) (by omega) h5]
        simp
      · rw [if_neg c3, iter_inl (hpush i ps ws hi c1 c2 (by omega))]
        refine ih (i + 1) ps (ws ++ [i]) (by omega) (by omega) (by omega) (by simp; omega) (fun w hm => ?_) h5
        rcases List.mem_append.1 hm with hm | hm
        · exact hw1 w hm
        · simp at hm; omega
    rw [if_neg c2]
    cases hk : lastK (fun k => smS (ch.getD (ws.getD k 0) 0) (otS (ch.getD i 0)).1) ws.length with
    | none =>
      rw [iter_inl (hnone i ps ws hi h3 c1 c2 hk)]
      exact ih (i + 1) ps ws (by omega) (by omega) (by omega) h3 hw1 h5
    | some k =>
      obtain ⟨hk1, _⟩ := lastK_some hk
      rw [iter_inl (hsome i ps ws k hi h3 h2 c1 c2 hk)]
      have hmem := h4 (ws.getD k 0) (by rw [getD_lt _ _ hk1]; exact List.getElem_mem hk1)
      have := ih (i + 1) (ps ++ [toP (ws.getD k 0, i)]) (ws.take k) (by omega) (by omega) (by simp; omega) (by simp; omega) (fun w hm => hw1 w (List.mem_of_mem_take hm)) (fun p hp => by
        rcases List.mem_append.1 hp with hp | hp
        · exact h5 p hp
        · simp at hp
          subst hp
          show -1000000 ≤ ((ws.getD k 0 : Nat) : Int) ∧ ((ws.getD k 0 : Nat) : Int) ≤ 1000000
          omega)
      rw [this]
      simp

theorem sortP_nil : sortP [] = [] := by
  obtain ⟨l', h1, h2, _⟩ := k53_ok (l := []) (by simp) (fun p h => by simp at h)
  unfold sortP
  rw [h1]
  exact h2.eq_nil

/-- A label's first round is told apart. -/
theorem scope_first {S E : Type} {X : Option (S ⊕ E)} {f : S → Option (S ⊕ E)} {s0 : S} {e : E} (hX : X = f s0) (he : iter f s0 = some e) :
    Option.bind (Option.bind X (fun v => Sum.elim (fun p => iter f p) (fun q => some q) v)) (fun v => some v) = some e := by
  rw [hX]
  cases h : f s0 with
  | none =>
    obtain ⟨n, hn⟩ := iterN_of_iter he
    cases n with
    | zero => simp [iterN] at hn
    | succ n => simp [iterN, h] at hn
  | some x =>
    cases x with
    | inl s => rw [iter_inl h] at he; simp [he]
    | inr e' => rw [iter_inr h] at he; simp at he; simp [he]

theorem k35_ok (ch cl : List Int) (hl : ch.length ≤ 1000) : K.f35F (ch, cl) = some (if ch.length = cl.length then sortP ((pW ch cl ch.length 0 []).map toP) else []) := by
  unfold K.f35F
  dsimp only
  by_cases hlen : ch.length = cl.length
  rotate_left
  · rw [if_pos (by simp; omega), if_neg hlen]; rfl
  rw [if_neg (by simp; omega), if_pos hlen]
  by_cases h0 : ch.length = 0
  · rw [if_neg (by rw [decide_eq_true_eq]; omega), sortP_eq (fun p h => by simp at h) (by simp)]
    rw [h0]
    simp only [Option.bind_some, Sum.elim_inr, pW, List.map_nil, sortP_nil]
  have hc : (0 : Int) ≤ (0 : Int) ∧ (0 : Int) < (ch.length : Int) := by omega
  have hc2 : (0 : Int) ≤ (0 : Int) ∧ (0 : Int) < (cl.length : Int) := by omega
  rw [if_pos (by rw [decide_eq_true_eq]; omega), if_pos hc]
  refine scope_first (s0 := ((0 : Int), [], [])) (e := sortP ((pW ch cl ch.length 0 []).map toP)) ?_ ?_
  · -- the first place
    dsimp only
    rw [if_pos (show decide ((0 : Int) < (ch.length : Int)) = true by rw [decide_eq_true_eq]; omega)]
    simp only [if_pos hc, if_pos hc2, ot_eq, Option.bind_some]
    cases (otS (ch.getD (Int.toNat 0) 0)).2.2
    · rfl
    simp only [Bool.not_true, Bool.false_eq_true, if_false, Option.bind_some]
    cases (cl.getD (Int.toNat 0) 0 != 13)
    rotate_left
    · rfl
    simp only [Bool.false_eq_true, if_false, Option.bind_some]
    cases (otS (ch.getD (Int.toNat 0) 0)).2.1
    rotate_left
    · rfl
    simp only [Bool.false_eq_true, if_false, Option.bind_some]
    rw [iter_inr (e := -1) (by rfl), iter_inr (e := (-1, [], [])) (by rfl)]
    rfl
  · refine (k35_loop ch cl hlen hl ?_ ?_ ?_ ?_ ?_ ?_ 0 [] [] (by omega) (by simp) (by simp) (by simp) (fun p h => by simp at h)).trans ?_
    · intro i ps op h
      dsimp only
      rw [if_neg (by rw [decide_eq_true_eq]; exact h)]
    · intro i ps ws hi c1
      dsimp only
      have hi1 : (0 : Int) ≤ (i : Int) ∧ (i : Int) < (ch.length : Int) := by omega
      have hi2 : (0 : Int) ≤ (i : Int) ∧ (i : Int) < (cl.length : Int) := by omega
      rw [if_pos (by rw [decide_eq_true_eq]; omega), if_pos hi1, wrap_i64 (by omega) (by omega)]
      simp only [if_pos hi2, ot_eq, Option.bind_some, Int.toNat_natCast]
      cases h1 : (otS (ch.getD i 0)).2.2
      · rfl
      · rw [h1] at c1
        simp only [Bool.not_true, Bool.false_or] at c1
        simp only [Bool.not_true, Bool.false_eq_true, if_false, Option.bind_some, c1, if_true]
        rfl
    · intro i ps ws hi c1 c2 c3
      dsimp only
      have hi1 : (0 : Int) ≤ (i : Int) ∧ (i : Int) < (ch.length : Int) := by omega
      have hi2 : (0 : Int) ≤ (i : Int) ∧ (i : Int) < (cl.length : Int) := by omega
      rw [if_pos (by rw [decide_eq_true_eq]; omega), if_pos hi1]
      simp only [if_pos hi2, ot_eq, Option.bind_some, Int.toNat_natCast]
      rw [Bool.or_eq_true, not_or, Bool.not_eq_true, Bool.not_eq_true] at c1
      simp only [c1.1, c1.2, c2, Bool.false_eq_true, if_false, if_true, Option.bind_some, waitsS_len, c3]
      rw [if_pos (by decide), wrap_i64 (by omega) (by omega)]
      rfl
    · intro i ps ws hi c1 c2 c3
      dsimp only
      have hi1 : (0 : Int) ≤ (i : Int) ∧ (i : Int) < (ch.length : Int) := by omega
      have hi2 : (0 : Int) ≤ (i : Int) ∧ (i : Int) < (cl.length : Int) := by omega
      rw [if_pos (by rw [decide_eq_true_eq]; omega), if_pos hi1, wrap_i64 (by omega) (by omega)]
      simp only [if_pos hi2, ot_eq, Option.bind_some, Int.toNat_natCast]
      rw [Bool.or_eq_true, not_or, Bool.not_eq_true, Bool.not_eq_true] at c1
      simp only [c1.1, c1.2, c2, Bool.false_eq_true, if_false, if_true, Option.bind_some, waitsS_len]
      rw [if_neg (by simp; omega), if_pos (by omega), if_pos (by unfold roomOk; simp; omega), waitsS_snoc]
      rfl
    · intro i ps ws hi h3 c1 c2 hk
      dsimp only
      have hi1 : (0 : Int) ≤ (i : Int) ∧ (i : Int) < (ch.length : Int) := by omega
      have hi2 : (0 : Int) ≤ (i : Int) ∧ (i : Int) < (cl.length : Int) := by omega
      rw [if_pos (by rw [decide_eq_true_eq]; omega), if_pos hi1, wrap_i64 (x := (i : Int) + 1) (by omega) (by omega)]
      simp only [if_pos hi2, ot_eq, Option.bind_some, Int.toNat_natCast]
      rw [Bool.or_eq_true, not_or, Bool.not_eq_true, Bool.not_eq_true] at c1
      simp only [c1.1, c1.2, c2, Bool.false_eq_true, if_false, if_true, Option.bind_some, waitsS_len]
      rw [wrap_i64 (by omega) (by omega), back_eq ch ws _ ps (by omega), hk]
      rfl
    · intro i ps ws k hi h3 hps c1 c2 hk
      obtain ⟨hk1, _⟩ := lastK_some hk
      dsimp only
      have hi1 : (0 : Int) ≤ (i : Int) ∧ (i : Int) < (ch.length : Int) := by omega
      have hi2 : (0 : Int) ≤ (i : Int) ∧ (i : Int) < (cl.length : Int) := by omega
      rw [if_pos (by rw [decide_eq_true_eq]; omega), if_pos hi1, wrap_i64 (x := (i : Int) + 1) (by omega) (by omega)]
      simp only [if_pos hi2, ot_eq, Option.bind_some, Int.toNat_natCast]
      rw [Bool.or_eq_true, not_or, Bool.not_eq_true, Bool.not_eq_true] at c1
      simp only [c1.1, c1.2, c2, Bool.false_eq_true, if_false, if_true, Option.bind_some, waitsS_len]
      rw [wrap_i64 (by omega) (by omega), back_eq ch ws _ ps (by omega), hk]
      simp only [Option.bind_some, lkI, waitsS_len, Int.toNat_natCast]
      rw [if_pos (by rw [decide_eq_true_eq]; omega), if_pos (by omega), if_pos (by unfold roomOk; simp; omega), if_pos (by omega), waitsS_getD ch ws hk1, waitsS_take]
      rfl
    · simp
end Go.Sx
