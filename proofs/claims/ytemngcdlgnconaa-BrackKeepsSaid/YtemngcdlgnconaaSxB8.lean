/- Brackets, plain: the reference's pairs; what pairs make of classes. -/
import Derived.Test.YtemngcdlgnconaaSxB7
set_option linter.unusedVariables false
set_option linter.unusedSimpArgs false
namespace Go.Sx

def wI (ws : List Nat) : List Int := ws.map fun (w : Nat) => (w : Int)
theorem wI_len (ws : List Nat) : (wI ws).length = ws.length := by simp [wI]
theorem wI_getD (ws : List Nat) {k : Nat} (h : k < ws.length) : (wI ws).getD k 0 = ((ws.getD k 0 : Nat) : Int) := by
  rw [getD_lt _ _ (by simpa [wI] using h), getD_lt _ _ h]; simp [wI]
theorem wI_snoc (ws : List Nat) (i : Nat) : wI ws ++ [(i : Int)] = wI (ws ++ [i]) := by simp [wI]
theorem wI_take (ws : List Nat) (k : Nat) : (wI ws).take k = wI (ws.take k) := by simp [wI, List.map_take]

/-- What the reference's search makes. -/
def bkR (ch : List Int) (ws : List Nat) (o : Int) (i : Nat) (out : List (List Int)) : List (List Int) × List Int :=
  match lastK (fun k => smS (ch.getD (ws.getD k 0) 0) o) ws.length with
  | none => (out, wI ws)
  | some k => (putS out (toP (ws.getD k 0, i)), wI (ws.take k))

theorem k36_loop (ch cl : List Int) (hlen : ch.length = cl.length) (hl : ch.length ≤ 1000) {f : List (List Int) × Int × List Int → Option ((List (List Int) × Int × List Int) ⊕ (List (List Int) ⊕ List (List Int)))}
    (hend : ∀ out (i : Int) ws, ¬ i < (ch.length : Int) → f (out, i, ws) = some (.inr (.inl out)))
    (hskip : ∀ out (i : Nat) ws, i < ch.length → (!(otS (ch.getD i 0)).2.2 || cl.getD i 0 != 13) = true → f (out, (i : Int), wI ws) = some (.inl (out, ((i + 1 : Nat) : Int), wI ws)))
    (hfull : ∀ out (i : Nat) ws, i < ch.length → ¬ (!(otS (ch.getD i 0)).2.2 || cl.getD i 0 != 13) = true → (otS (ch.getD i 0)).2.1 = true → ws.length = 63 → f (out, (i : Int), wI ws) = some (.inr (.inr out)))
    (hpush : ∀ out (i : Nat) ws, i < ch.length → ¬ (!(otS (ch.getD i 0)).2.2 || cl.getD i 0 != 13) = true → (otS (ch.getD i 0)).2.1 = true → ws.length < 63 → f (out, (i : Int), wI ws) = some (.inl (out, ((i + 1 : Nat) : Int), wI (ws ++ [i]))))
    (hback : ∀ out (i : Nat) ws, i < ch.length → ws.length ≤ 63 → out.length ≤ i → (∀ w ∈ ws, w < i) → ¬ (!(otS (ch.getD i 0)).2.2 || cl.getD i 0 != 13) = true → ¬ (otS (ch.getD i 0)).2.1 = true → f (out, (i : Int), wI ws) = some (.inl ((bkR ch ws (otS (ch.getD i 0)).1 i out).1, ((i + 1 : Nat) : Int), (bkR ch ws (otS (ch.getD i 0)).1 i out).2))) :
    ∀ (n i : Nat) (out : List (List Int)) (ws : List Nat), ch.length - i = n → i ≤ ch.length + 1 → out.length ≤ i → ws.length ≤ 63 → (∀ w ∈ ws, w < i) → ∃ e, iter f (out, (i : Int), wI ws) = some e ∧ Sum.elim id id e = ((pW ch cl n i ws).map toP).foldl putS out := by
  intro n
  induction n with
  | zero =>
    intro i out ws hn h1 h2 h3 h4
    exact ⟨_, iter_inr (hend out i _ (by omega)), by simp [pW]⟩
  | succ n ih =>
    intro i out ws hn h1 h2 h3 h4
    have hi : i < ch.length := by omega
    have hw1 : ∀ w ∈ ws, w < i + 1 := fun w hm => by have := h4 w hm; omega
    unfold pW
    by_cases c1 : (!(otS (ch.getD i 0)).2.2 || cl.getD i 0 != 13) = true
    · rw [if_pos c1, iter_inl (hskip out i ws hi c1)]
      exact ih (i + 1) out ws (by omega) (by omega) (by omega) h3 hw1
    rw [if_neg c1]
    by_cases c2 : (otS (ch.getD i 0)).2.1 = true
    · rw [if_pos c2]
      by_cases c3 : ws.length = 63
      · rw [if_pos c3]
        exact ⟨_, iter_inr (hfull out i ws hi c1 c2 c3), by simp⟩
      · rw [if_neg c3, iter_inl (hpush out i ws hi c1 c2 (by omega))]
        refine ih (i + 1) out (ws ++ [i]) (by omega) (by omega) (by omega) (by simp; omega) (fun w hm => ?_)
        rcases List.mem_append.1 hm with hm | hm
        · exact hw1 w hm
        · simp at hm; omega
    rw [if_neg c2, iter_inl (hback out i ws hi h3 h2 h4 c1 c2)]
    unfold bkR
    cases hk : lastK (fun k => smS (ch.getD (ws.getD k 0) 0) (otS (ch.getD i 0)).1) ws.length with
    | none => exact ih (i + 1) out ws (by omega) (by omega) (by omega) h3 hw1
    | some k =>
      have := ih (i + 1) (putS out (toP (ws.getD k 0, i))) (ws.take k) (by omega) (by omega) (by rw [(putS_perm _ _).length_eq]; simp; omega) (by simp; omega) (fun w hm => hw1 w (List.mem_of_mem_take hm))
      simpa using this

theorem k36_ok (ch cl : List Int) (hl : ch.length ≤ 1000) : K.f36F (ch, cl) = some (prS ch cl) := by
  by_cases hlen : ch.length = cl.length
  rotate_left
  · unfold K.f36F prS
    dsimp only
    rw [if_pos (by simp; omega), if_neg hlen]
  rw [(prS_put ch cl hl hlen).1]
  unfold K.f36F
  dsimp only
  rw [if_neg (by simp; omega)]
  suffices hh : ∃ r, Option.bind _ _ = some r ∧ r = ((pW ch cl ch.length 0 []).map toP).foldl putS [] by
    obtain ⟨r, h1, rfl⟩ := hh; exact h1
  refine bind_ex (Q := fun e => Sum.elim id id e = ((pW ch cl ch.length 0 []).map toP).foldl putS []) (k36_loop ch cl hlen hl ?_ ?_ ?_ ?_ ?_ ch.length 0 [] [] (by omega) (by omega) (by simp) (by simp) (by simp)) ?_
  · intro out i ws h
    dsimp only
    rw [if_neg (by rw [decide_eq_true_eq]; exact h)]
  · intro out i ws hi c1
    dsimp only
    have hi1 : (0 : Int) ≤ (i : Int) ∧ (i : Int) < (ch.length : Int) := by omega
    have hi2 : (0 : Int) ≤ (i : Int) ∧ (i : Int) < (cl.length : Int) := by omega
    rw [if_pos (by rw [decide_eq_true_eq]; omega), if_pos hi1, wrap_i64 (by omega) (by omega)]
    simp only [if_pos hi2, k41_ot, Option.bind_some, Int.toNat_natCast]
    cases h1 : (otS (ch.getD i 0)).2.2
    · rfl
    · rw [h1] at c1
      simp only [Bool.not_true, Bool.false_or] at c1
      simp only [Bool.not_true, Bool.false_eq_true, if_false, Option.bind_some, c1, if_true]
      rfl
  · intro out i ws hi c1 c2 c3
    dsimp only
    have hi1 : (0 : Int) ≤ (i : Int) ∧ (i : Int) < (ch.length : Int) := by omega
    have hi2 : (0 : Int) ≤ (i : Int) ∧ (i : Int) < (cl.length : Int) := by omega
    rw [if_pos (by rw [decide_eq_true_eq]; omega), if_pos hi1]
    simp only [if_pos hi2, k41_ot, Option.bind_some, Int.toNat_natCast]
    rw [Bool.or_eq_true, not_or, Bool.not_eq_true, Bool.not_eq_true] at c1
    simp only [c1.1, c1.2, c2, Bool.false_eq_true, if_false, if_true, Option.bind_some, wI_len, c3]
    rw [if_pos (by decide)]
  · intro out i ws hi c1 c2 c3
    dsimp only
    have hi1 : (0 : Int) ≤ (i : Int) ∧ (i : Int) < (ch.length : Int) := by omega
    have hi2 : (0 : Int) ≤ (i : Int) ∧ (i : Int) < (cl.length : Int) := by omega
    rw [if_pos (by rw [decide_eq_true_eq]; omega), if_pos hi1, wrap_i64 (by omega) (by omega)]
    simp only [if_pos hi2, k41_ot, Option.bind_some, Int.toNat_natCast]
    rw [Bool.or_eq_true, not_or, Bool.not_eq_true, Bool.not_eq_true] at c1
    simp only [c1.1, c1.2, c2, Bool.false_eq_true, if_false, if_true, Option.bind_some, wI_len]
    rw [if_neg (by simp; omega), if_pos (by unfold roomOk; simp; omega), wI_snoc]
    rfl
  · intro out i ws hi h3 hout hws c1 c2
    dsimp only
    have hi1 : (0 : Int) ≤ (i : Int) ∧ (i : Int) < (ch.length : Int) := by omega
    have hi2 : (0 : Int) ≤ (i : Int) ∧ (i : Int) < (cl.length : Int) := by omega
    rw [if_pos (by rw [decide_eq_true_eq]; omega), if_pos hi1, wrap_i64 (x := (i : Int) + 1) (by omega) (by omega)]
    simp only [if_pos hi2, k41_ot, Option.bind_some, Int.toNat_natCast]
    rw [Bool.or_eq_true, not_or, Bool.not_eq_true, Bool.not_eq_true] at c1
    simp only [c1.1, c1.2, c2, Bool.false_eq_true, if_false, if_true, Option.bind_some, wI_len]
    rw [wrap_i64 (x := (ws.length : Int) - 1) (by omega) (by omega)]
    generalize ho : (otS (ch.getD i 0)).1 = o
    suffices hh : ∃ r, Option.bind _ _ = some r ∧ r = Sum.inl ((bkR ch ws o i out).1, ((i + 1 : Nat) : Int), (bkR ch ws o i out).2) by
      obtain ⟨r, h1, rfl⟩ := hh; exact h1
    refine bind_ex (Q := fun e => e = bkR ch ws o i out) (iter_rule (I := fun s => ∃ k : Nat, k ≤ ws.length ∧ s = (out, (k : Int) - 1, wI ws) ∧ lastK (fun k => smS (ch.getD (ws.getD k 0) 0) o) ws.length = lastK (fun k => smS (ch.getD (ws.getD k 0) 0) o) k) (fun s => (s.2.1 + 1).toNat) ?_ _ ⟨ws.length, Nat.le_refl _, rfl, rfl⟩) ?_
    rotate_left
    · rintro _ rfl
      exact ⟨_, rfl, rfl⟩
    rintro _ ⟨k, hk, rfl, hI⟩
    have hwl := wI_len ws
    cases k with
    | zero =>
      refine .inr ⟨_, rfl, ?_⟩
      unfold bkR
      rw [hI]
      rfl
    | succ k =>
      have hwk : ws.getD k 0 < i := hws _ (by rw [getD_lt _ _ (show k < ws.length by omega)]; exact List.getElem_mem _)
      dsimp only
      rw [show ((k + 1 : Nat) : Int) - 1 = (k : Int) by omega, if_pos (by rw [decide_eq_true_eq]; omega), if_pos (by omega), Int.toNat_natCast, wI_getD ws (by omega), if_pos (by omega), Int.toNat_natCast, k42_eq]
      simp only [Option.bind_some]
      rw [lastK_succ] at hI
      by_cases hs : smS (ch.getD (ws.getD k 0) 0) o = true
      · rw [if_pos hs] at hI
        rw [if_pos hs, if_pos (by omega), k55_ok _ _ _ (by omega)]
        simp only [Option.bind_some]
        rw [if_pos (by omega), wI_take]
        refine .inr ⟨_, rfl, ?_⟩
        unfold bkR
        rw [hI]
        rfl
      · rw [if_neg hs] at hI
        rw [if_neg hs, wrap_i64 (by omega) (by omega)]
        exact .inl ⟨_, rfl, ⟨k, by omega, rfl, hI⟩, by show ((k : Int) - 1 + 1).toNat < ((k : Int) + 1).toNat; omega⟩
  · rintro (e | e) h
    · exact ⟨_, rfl, h⟩
    · exact ⟨_, rfl, h⟩

theorem eqb_self (x : List Int) : Ty.eqb (.arr 2 (.int .i64)) x x = true := by
  have h : ∀ l : List Int, (l.zip l).all (fun p => p.1 == p.2) = true := by
    intro l
    induction l with
    | nil => rfl
    | cons a l ih => simp [List.zip_cons_cons, ih]
  show (x.length == x.length && (x.zip x).all fun p => p.1 == p.2) = true
  rw [h]; simp

theorem k34_self (a : List (List Int)) (hl : a.length ≤ 100000) : K.f34F (a, a) = some true := by
  unfold K.f34F
  dsimp only
  rw [if_neg (by simp)]
  suffices hh : ∃ r, Option.bind _ _ = some r ∧ r = true by
    obtain ⟨r, h1, rfl⟩ := hh; exact h1
  refine bind_ex (Q := fun e => e = Sum.inl ()) (iter_rule (I := fun (s : Int) => ∃ k : Nat, k ≤ a.length ∧ s = (k : Int)) (fun s => ((a.length : Int) - s).toNat) ?_ _ ⟨0, Nat.zero_le _, rfl⟩) ?_
  rotate_left
  · rintro _ rfl; exact ⟨_, rfl, rfl⟩
  rintro _ ⟨k, hk, rfl⟩
  by_cases hkl : k < a.length
  · rw [if_pos (by rw [decide_eq_true_eq]; omega), if_pos (by omega), if_pos (by omega), if_neg (by rw [eqb_self]; simp), wrap_i64 (by omega) (by omega)]
    exact .inl ⟨_, rfl, ⟨k + 1, hkl, rfl⟩, by omega⟩
  · rw [if_neg (by rw [decide_eq_true_eq]; omega)]
    exact .inr ⟨_, rfl, rfl⟩

/-! ### What pairs make of classes -/

/-- The side ahead of a place. -/
def aheadS (l : List Int) (a : Nat) (sos : Int) : Int := match lastK (fun k => sideS (l.getD k 0) != -1) a with
  | none => sos
  | some k => sideS (l.getD k 0)

/-- Marks behind a bracket. -/
def turnGo (first : List Int) (side : Int) : Nat → Nat → List Int → List Int
  | 0, _, l => l
  | n + 1, k, l => if first.getD k 0 = 8 then turnGo first side n (k + 1) (l.set k side) else l

def turnS (first : List Int) (side : Int) (l : List Int) (i : Nat) : List Int := turnGo first side (l.length - (i + 1)) (i + 1) (l.set i side)

theorem turnGo_len (first : List Int) (side : Int) : ∀ (n k : Nat) (l : List Int), (turnGo first side n k l).length = l.length
  | 0, _, _ => rfl
  | n + 1, k, l => by
    unfold turnGo
    split
    · rw [turnGo_len]; simp
    · rfl
theorem turnS_len (first : List Int) (side : Int) (l : List Int) (i : Nat) : (turnS first side l i).length = l.length := by
  unfold turnS; rw [turnGo_len]; simp

theorem k59_ok (first l : List Int) (i : Nat) (side d s : Int) (hl : l.length ≤ 100000) (hf : first.length = l.length) (hi : i < l.length) : K.f59F ((i : Int), side, first, d, s, l) = some (first, d, s, turnS first side l i) := by
  unfold K.f59F
  dsimp only
  rw [if_pos (by omega), Int.toNat_natCast, wrap_i64 (x := (i : Int) + 1) (by omega) (by omega)]
  suffices hh : ∃ r, Option.bind _ _ = some r ∧ r = (first, d, s, turnS first side l i) by
    obtain ⟨r, h1, rfl⟩ := hh; exact h1
  refine bind_ex (Q := fun e => e = (first, d, s, turnS first side l i)) (iter_rule (I := fun (x : Int × List Int × Int × Int × List Int) => ∃ (k : Nat) (l' : List Int), k ≤ l.length ∧ l'.length = l.length ∧ x = ((k : Int), first, d, s, l') ∧ turnS first side l i = turnGo first side (l.length - k) k l') (fun x => ((l.length : Int) - x.1).toNat) ?_ _
    ⟨i + 1, l.set i side, by omega, by simp, rfl, rfl⟩) ?_
  rotate_left
  · rintro _ rfl; exact ⟨_, rfl, rfl⟩
  rintro _ ⟨k, l', hk, hl', rfl, hI⟩
  dsimp only
  by_cases hkl : k < l.length
  · rw [if_pos (by rw [decide_eq_true_eq]; omega), if_pos (by omega), Int.toNat_natCast]
    simp only [Option.bind_some]
    rw [show l.length - k = (l.length - (k + 1)) + 1 by omega] at hI
    unfold turnGo at hI
    by_cases h8 : first.getD k 0 = 8
    · rw [if_pos h8] at hI
      rw [if_pos (by simpa using h8), if_pos (by omega), wrap_i64 (by omega) (by omega)]
      exact .inl ⟨_, rfl, ⟨k + 1, l'.set k side, by omega, by simpa using hl', rfl, hI⟩, by show ((l.length : Int) - ((k : Int) + 1)).toNat < ((l.length : Int) - (k : Int)).toNat; omega⟩
    · rw [if_neg h8] at hI
      rw [if_neg (by simpa using h8)]
      exact .inr ⟨_, rfl, by rw [hI]⟩
  · rw [if_neg (by rw [decide_eq_true_eq]; omega)]
    simp only [Option.bind_some, Bool.false_eq_true, if_false]
    rw [show l.length - k = 0 by omega] at hI
    exact .inr ⟨_, rfl, by rw [hI]; rfl⟩

theorem k61_ok (first l : List Int) (i : Nat) (side : Int) (hl : l.length ≤ 100000) (hf : first.length = l.length) (hi : i < l.length) : K.f61F (first, (i : Int), side, l) = some (turnS first side l i) := by
  unfold K.f61F
  dsimp only
  rw [if_pos (by omega), Int.toNat_natCast, wrap_i64 (x := (i : Int) + 1) (by omega) (by omega)]
  suffices hh : ∃ r, Option.bind _ _ = some r ∧ r = turnS first side l i by
    obtain ⟨r, h1, rfl⟩ := hh; exact h1
  refine bind_ex (Q := fun e => e = turnS first side l i) (iter_rule (I := fun (x : Int × List Int) => ∃ (k : Nat) (l' : List Int), k ≤ l.length ∧ l'.length = l.length ∧ x = ((k : Int), l') ∧ turnS first side l i = turnGo first side (l.length - k) k l') (fun x => ((l.length : Int) - x.1).toNat) ?_ _
    ⟨i + 1, l.set i side, by omega, by simp, rfl, rfl⟩) ?_
  rotate_left
  · rintro _ rfl; exact ⟨_, rfl, rfl⟩
  rintro _ ⟨k, l', hk, hl', rfl, hI⟩
  dsimp only
  by_cases hkl : k < l.length
  · rw [if_pos (by rw [decide_eq_true_eq]; omega), if_pos (by omega), Int.toNat_natCast]
    simp only [Option.bind_some]
    rw [show l.length - k = (l.length - (k + 1)) + 1 by omega] at hI
    unfold turnGo at hI
    by_cases h8 : first.getD k 0 = 8
    · rw [if_pos h8] at hI
      rw [if_pos (by simpa using h8), if_pos (by omega), wrap_i64 (by omega) (by omega)]
      exact .inl ⟨_, rfl, ⟨k + 1, l'.set k side, by omega, by simpa using hl', rfl, hI⟩, by show ((l.length : Int) - ((k : Int) + 1)).toNat < ((l.length : Int) - (k : Int)).toNat; omega⟩
    · rw [if_neg h8] at hI
      rw [if_neg (by simpa using h8)]
      exact .inr ⟨_, rfl, by rw [hI]⟩
  · rw [if_neg (by rw [decide_eq_true_eq]; omega)]
    simp only [Option.bind_some, Bool.false_eq_true, if_false]
    rw [show l.length - k = 0 by omega] at hI
    exact .inr ⟨_, rfl, by rw [hI]; rfl⟩

theorem k77_ok (l first : List Int) (d s : Int) (a : Nat) (ha : a ≤ l.length) (hl : l.length ≤ 100000) : K.f77F ((l, first, d, s), (a : Int)) = some (aheadS l a s) := by
  unfold K.f77F
  dsimp only
  rw [wrap_i64 (by omega) (by omega)]
  suffices hh : ∃ r, Option.bind _ _ = some r ∧ r = aheadS l a s by
    obtain ⟨r, h1, rfl⟩ := hh; exact h1
  refine bind_ex (Q := fun e => Sum.elim (fun _ => s) id e = aheadS l a s) (iter_rule (I := fun (x : Int) => ∃ k : Nat, k ≤ a ∧ x = (k : Int) - 1 ∧ lastK (fun k => sideS (l.getD k 0) != -1) a = lastK (fun k => sideS (l.getD k 0) != -1) k) (fun x => (x + 1).toNat) ?_ _ ⟨a, Nat.le_refl _, rfl, rfl⟩) ?_
  rotate_left
  · rintro (e | e) h
    · exact ⟨_, rfl, h⟩
    · exact ⟨_, rfl, h⟩
  rintro _ ⟨k, hk, rfl, hI⟩
  cases k with
  | zero =>
    refine .inr ⟨_, rfl, ?_⟩
    unfold aheadS
    rw [hI]; rfl
  | succ k =>
    rw [show ((k + 1 : Nat) : Int) - 1 = (k : Int) by omega, if_pos (by rw [decide_eq_true_eq]; omega), if_pos (by omega), Int.toNat_natCast, k37_eq]
    simp only [Option.bind_some]
    rw [lastK_succ] at hI
    by_cases hs : (sideS (l.getD k 0) != -1) = true
    · rw [if_pos hs] at hI
      rw [if_pos hs]
      refine .inr ⟨_, rfl, ?_⟩
      unfold aheadS
      rw [hI]; rfl
    · rw [if_neg hs] at hI
      rw [if_neg hs, wrap_i64 (by omega) (by omega)]
      exact .inl ⟨_, rfl, ⟨k, by omega, rfl, hI⟩, by omega⟩

/-- A level's direction. -/
def dirS (level : Int) : Int := if level % 2 = 1 then 1 else 0

theorem k60_eq (x : Int) : K.f60F x = some (dirS x) := by
  unfold K.f60F dirS
  have h : (Int.tmod x 2 != 0) = decide (x % 2 = 1) := by
    have h1 : x % 2 = 0 ∨ x % 2 = 1 := by omega
    rcases h1 with h1 | h1
    · have : Int.tmod x 2 = 0 := Int.tmod_eq_zero_of_dvd (Int.dvd_of_emod_eq_zero h1)
      simp [this, h1]
    · have : Int.tmod x 2 ≠ 0 := fun h => by
        have := Int.dvd_of_tmod_eq_zero h
        omega
      simp [this, h1]
  rw [h]
  by_cases h1 : x % 2 = 1 <;> simp [h1]

theorem k57_eq (x : Int) : K.f57F x = some (dirS x) := by
  unfold K.f57F dirS
  have h : (BitVec.toNat (BitVec.ofInt (IntKind.bits IntKind.i64) x &&& BitVec.ofInt (IntKind.bits IntKind.i64) (1 : Int))) = (x % 2).toNat := by
    rw [BitVec.toNat_and]
    show ((BitVec.ofInt 64 x).toNat &&& 1) = _
    rw [Nat.and_one_is_mod, BitVec.toNat_ofInt]
    omega
  rw [h, wrap_i64 (by omega) (by omega)]
  by_cases h1 : x % 2 = 1
  · rw [if_pos (by simp; omega), if_pos h1]
  · rw [if_neg (by simp; omega), if_neg h1]
end Go.Sx
