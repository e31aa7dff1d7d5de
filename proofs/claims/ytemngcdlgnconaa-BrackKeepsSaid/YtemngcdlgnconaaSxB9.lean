/- Brackets, plain: classes behind all pairs. -/
import Derived.Test.YtemngcdlgnconaaSxB8
set_option linter.unusedVariables false
set_option linter.unusedSimpArgs false
namespace Go.Sx

/-- What a pair becomes: -1: nothing. -/
def pairS (e sos : Int) (l : List Int) (a b : Nat) : Int :=
  if (!hasS 0 l (a + 1) b && !hasS 1 l (a + 1) b) = true then -1
  else if (hasS 0 l (a + 1) b && e == 0 || hasS 1 l (a + 1) b && e == 1) = true then e
  else aheadS l a sos

def ofStep (first : List Int) (e sos : Int) (l : List Int) (p : List Int) : List Int :=
  if pairS e sos l (p.getD 0 0).toNat (p.getD 1 0).toNat = -1 then l
  else turnS first (pairS e sos l (p.getD 0 0).toNat (p.getD 1 0).toNat) (turnS first (pairS e sos l (p.getD 0 0).toNat (p.getD 1 0).toNat) l (p.getD 0 0).toNat) (p.getD 1 0).toNat

theorem ofStep_len (first : List Int) (e sos : Int) (l p : List Int) : (ofStep first e sos l p).length = l.length := by
  unfold ofStep
  split
  · rfl
  · rw [turnS_len, turnS_len]

theorem k58_ok (first l : List Int) (a b : Nat) (e sos : Int) (he : e = 0 ∨ e = 1) (hab : a < b) (hb : b < l.length) (hl : l.length ≤ 100000) :
    K.f58F ([(a : Int), (b : Int)], first, e, sos, l) = some (pairS e sos l a b, first, e, sos, l) := by
  unfold K.f58F
  dsimp only
  have g0 : List.getD [(a : Int), (b : Int)] (nat_lit 0) (0 : Int) = (a : Int) := rfl
  have g1 : List.getD [(a : Int), (b : Int)] (nat_lit 1) (0 : Int) = (b : Int) := rfl
  rw [if_pos (by decide), if_pos (by decide), g0, g1, wrap_i64 (by omega) (by omega), ks0_ok hl]
  have e1 : (loS ((a : Int) + 1)).toNat = a + 1 := by unfold loS; split <;> omega
  have e2 : (minI (b : Int) (l.length : Int)).toNat = b := by unfold minI; split <;> omega
  rw [e1, e2]
  unfold pairS
  simp only [Option.bind_some]
  have hah := k77_ok l first e sos a (by omega) hl
  have hd : (0 : Int) ≤ (0 : Int) ∧ (0 : Int) < ((2 : Nat) : Int) := by decide
  cases hasS 0 l (a + 1) b <;> cases hasS 1 l (a + 1) b
  · rfl
  · rcases he with rfl | rfl
    · simp only [Bool.not_false, Bool.not_true, Bool.false_eq_true, if_true, if_false, Option.bind_some, if_pos hd, hah, Bool.and_false, Bool.false_and, Bool.true_and, Bool.or_false, Bool.false_or, show ((0 : Int) == 1) = false from rfl, show ((1 : Int) == 0) = false from rfl]
    · rfl
  · rcases he with rfl | rfl
    · rfl
    · simp only [Bool.not_false, Bool.not_true, Bool.false_eq_true, if_true, if_false, Option.bind_some, if_pos hd, hah, Bool.and_false, Bool.false_and, Bool.true_and, Bool.or_false, Bool.false_or, show ((0 : Int) == 1) = false from rfl, show ((1 : Int) == 0) = false from rfl]
  · rcases he with rfl | rfl <;> rfl

theorem prS_mem {ch cl : List Int} (hl : ch.length ≤ 1000) {p : List Int} (hp : p ∈ prS ch cl) : ch.length = cl.length ∧ ∃ a b : Nat, (a, b) ∈ pW ch cl ch.length 0 [] ∧ p = [(a : Int), (b : Int)] ∧ a < b ∧ b < ch.length := by
  by_cases hlen : ch.length = cl.length
  · refine ⟨hlen, ?_⟩
    have hq := (prS_put ch cl hl hlen).2.2.mem_iff.1 hp
    obtain ⟨⟨a, b⟩, hq2, rfl⟩ := List.mem_map.1 hq
    have := pW_mem ch cl ch.length 0 [] (by simp) _ hq2
    exact ⟨a, b, hq2, rfl, this.1, by have := this.2.2; simp only at this; omega⟩
  · unfold prS at hp
    rw [if_neg hlen] at hp
    simp at hp

theorem prS_length (ch cl : List Int) (hl : ch.length ≤ 1000) : (prS ch cl).length ≤ ch.length := by
  by_cases hlen : ch.length = cl.length
  · rw [(prS_put ch cl hl hlen).2.2.length_eq, List.length_map]
    exact pW_length _ _ _ _ _
  · unfold prS
    rw [if_neg hlen]
    simp

theorem k56_eq (l : List Int) (hl : l.length ≤ 100000) : K.f56F l = some l := by
  unfold K.f56F
  have hr : roomOk (0 + l.length) 8 := by unfold roomOk; omega
  split
  · rename_i h
    have h0 : l = [] := List.eq_nil_of_length_eq_zero (Nat.eq_of_beq_eq_true h)
    subst h0
    unfold agree
    rw [if_pos (by first | rfl | (rw [if_pos hr]; rfl))]
  · first | rfl | (rw [if_pos hr]; rfl)

def sosS (sos : Int) : Int := if sos = 1 then 1 else 0

/-- Classes behind all pairs. -/
noncomputable def ofS (ch cl first : List Int) (level sos : Int) : List Int :=
  if ch.length = cl.length ∧ first.length = cl.length then (prS ch cl).foldl (ofStep first (dirS level) (sosS sos)) cl else cl

theorem dirS_cases (x : Int) : dirS x = 0 ∨ dirS x = 1 := by unfold dirS; split <;> simp

theorem foldl_take_succ {A B : Type} (f : B → A → B) (b : B) (l : List A) (d : A) {k : Nat} (hk : k < l.length) : (l.take (k + 1)).foldl f b = f ((l.take k).foldl f b) (l.getD k d) := by
  rw [List.take_add_one, List.getElem?_eq_getElem hk, List.foldl_append, getD_lt _ _ hk]; rfl

theorem foldl_len {A : Type} (f : List Int → A → List Int) (h : ∀ l a, (f l a).length = l.length) : ∀ (ps : List A) (l : List Int), (ps.foldl f l).length = l.length
  | [], _ => rfl
  | p :: ps, l => by rw [List.foldl_cons, foldl_len f h ps, h]

theorem k39_ok (ch cl first : List Int) (level sos : Int) (hl : cl.length ≤ 1000) : K.f39F (ch, cl, first, level, sos) = some (ofS ch cl first level sos) := by
  unfold K.f39F
  dsimp only
  rw [k56_eq cl (by omega), k57_eq]
  simp only [Option.bind_some]
  unfold ofS
  by_cases h1 : ch.length = cl.length
  rotate_left
  · rw [if_pos (by simp; omega), if_neg (fun h => h1 h.1)]; rfl
  rw [if_neg (by simp; omega)]
  simp only [Option.bind_some]
  by_cases h2 : first.length = cl.length
  rotate_left
  · rw [if_pos (by simp; omega), if_neg (fun h => h2 h.2)]
  rw [if_neg (by simp; omega), if_pos (show ch.length = cl.length ∧ first.length = cl.length from ⟨h1, h2⟩)]
  have hs : (if (sos == (1 : Int)) = true then some (cl, first, dirS level, (1 : Int)) else some (cl, first, dirS level, (0 : Int))) = some (cl, first, dirS level, sosS sos) := by
    unfold sosS
    by_cases h : sos = 1 <;> simp [h]
  rw [hs, k35_pr ch cl (by omega)]
  simp only [Option.bind_some]
  have hpl := prS_length ch cl (by omega)
  have he := dirS_cases level
  generalize hP : prS ch cl = P at *
  have hPm : ∀ k, k < P.length → ∃ a b : Nat, P.getD k kd = [(a : Int), (b : Int)] ∧ a < b ∧ b < cl.length := by
    intro k hk
    obtain ⟨_, a, b, _, h4, h5, h6⟩ := prS_mem (ch := ch) (cl := cl) (by omega) (p := P.getD k kd) (by rw [hP, getD_lt _ _ hk]; exact List.getElem_mem hk)
    exact ⟨a, b, h4, h5, by omega⟩
  suffices hh : ∃ r, Option.bind _ _ = some r ∧ r = P.foldl (ofStep first (dirS level) (sosS sos)) cl by
    obtain ⟨r, h1, rfl⟩ := hh; exact h1
  refine bind_ex (Q := fun e => e = (first, dirS level, sosS sos, P.foldl (ofStep first (dirS level) (sosS sos)) cl)) (iter_rule (I := fun (s : Int × List Int × Int × Int × List Int) => ∃ k : Nat, k ≤ P.length ∧ s = ((k : Int), first, dirS level, sosS sos, (P.take k).foldl (ofStep first (dirS level) (sosS sos)) cl)) (fun s => ((P.length : Int) - s.1).toNat) ?_ _ ⟨0, Nat.zero_le _, rfl⟩) ?_
  rotate_left
  · rintro _ rfl; exact ⟨_, rfl, rfl⟩
  rintro _ ⟨k, hk, rfl⟩
  dsimp only
  by_cases hkl : k < P.length
  · obtain ⟨a, b, hab, h3, h4⟩ := hPm k hkl
    have hlen := foldl_len (ofStep first (dirS level) (sosS sos)) (ofStep_len _ _ _) (P.take k) cl
    have hstep := foldl_take_succ (ofStep first (dirS level) (sosS sos)) cl P kd hkl
    generalize (P.take k).foldl (ofStep first (dirS level) (sosS sos)) cl = l at *
    have hab' : List.getD P k (List.replicate (2 : Nat) (0 : Int)) = [(a : Int), (b : Int)] := hab
    rw [if_pos (by rw [decide_eq_true_eq]; omega), if_pos (by omega), Int.toNat_natCast, hab']
    have g0 : List.getD [(a : Int), (b : Int)] (nat_lit 0) (0 : Int) = (a : Int) := rfl
    have g1 : List.getD [(a : Int), (b : Int)] (nat_lit 1) (0 : Int) = (b : Int) := rfl
    rw [g0, g1, k58_ok first l a b _ _ he h3 (by omega) (by omega), wrap_i64 (by omega) (by omega)]
    simp only [Option.bind_some]
    rw [hab] at hstep
    have hst : ofStep first (dirS level) (sosS sos) l [(a : Int), (b : Int)] = if pairS (dirS level) (sosS sos) l a b = -1 then l else turnS first (pairS (dirS level) (sosS sos) l a b) (turnS first (pairS (dirS level) (sosS sos) l a b) l a) b := rfl
    rw [hst] at hstep
    by_cases hn : pairS (dirS level) (sosS sos) l a b = -1
    · rw [if_neg (by simpa using hn)]
      rw [if_pos hn] at hstep
      exact .inl ⟨_, rfl, ⟨k + 1, hkl, by rw [hstep]; rfl⟩, by show ((P.length : Int) - ((k : Int) + 1)).toNat < ((P.length : Int) - (k : Int)).toNat; omega⟩
    · rw [if_pos (by simpa using hn), if_pos (by decide), k59_ok first l a _ _ _ (by omega) (by omega) (by omega)]
      rw [if_neg hn] at hstep
      simp only [Option.bind_some]
      rw [if_pos (by decide), k59_ok first _ b _ _ _ (by rw [turnS_len]; omega) (by rw [turnS_len]; omega) (by rw [turnS_len]; omega)]
      simp only [Option.bind_some]
      exact .inl ⟨_, rfl, ⟨k + 1, hkl, by rw [hstep]; rfl⟩, by show ((P.length : Int) - ((k : Int) + 1)).toNat < ((P.length : Int) - (k : Int)).toNat; omega⟩
  · rw [if_neg (by rw [decide_eq_true_eq]; omega)]
    exact .inr ⟨_, rfl, by rw [show k = P.length by omega, List.take_length]⟩

/-- The reference looks from the beginning on. -/
theorem lastK_ext {p q : Nat → Bool} : ∀ (n : Nat), (∀ k, k < n → p k = q k) → lastK p n = lastK q n
  | 0, _ => rfl
  | n + 1, h => by rw [lastK_succ, lastK_succ, h n (by omega), lastK_ext n fun k hk => h k (by omega)]

theorem aheadS_succ (l : List Int) (k : Nat) (s : Int) : aheadS l (k + 1) s = if sideS (l.getD k 0) ≥ 0 then sideS (l.getD k 0) else aheadS l k s := by
  unfold aheadS
  rw [lastK_succ]
  rcases sideS_cases (l.getD k 0) with h | h | h
  · rw [if_pos (by rw [h]; rfl), if_pos (by omega)]
  · rw [if_pos (by rw [h]; rfl), if_pos (by omega)]
  · rw [if_neg (by rw [h]; decide), if_neg (by omega)]

theorem aheadS_ne (l : List Int) (a : Nat) {s : Int} (hs : s ≠ -1) : aheadS l a s ≠ -1 := by
  unfold aheadS
  cases h : lastK (fun k => sideS (l.getD k 0) != -1) a with
  | none => exact hs
  | some k => simpa using (lastK_some h).2

theorem k40_ok (ch cl first : List Int) (level sos : Int) (hl : cl.length ≤ 1000) : K.f40F (ch, cl, first, level, sos) = some (ofS ch cl first level sos) := by
  unfold K.f40F
  dsimp only
  rw [if_pos (by unfold roomOk; simp; omega)]
  unfold ofS
  simp only [List.nil_append]
  by_cases h1 : ch.length = cl.length
  rotate_left
  · rw [if_pos (by simp; omega), if_neg (fun h => h1 h.1)]; rfl
  rw [if_neg (by simp; omega)]
  simp only [Option.bind_some]
  by_cases h2 : first.length = cl.length
  rotate_left
  · rw [if_pos (by simp; omega), if_neg (fun h => h2 h.2)]
  rw [if_neg (by simp; omega), if_pos (show ch.length = cl.length ∧ first.length = cl.length from ⟨h1, h2⟩), k36_ok ch cl (by omega), k60_eq]
  simp only [Option.bind_some]
  have hpl := prS_length ch cl (by omega)
  have he := dirS_cases level
  generalize hP : prS ch cl = P at *
  have hPm : ∀ k, k < P.length → ∃ a b : Nat, P.getD k kd = [(a : Int), (b : Int)] ∧ a < b ∧ b < cl.length := by
    intro k hk
    obtain ⟨_, a, b, _, h4, h5, h6⟩ := prS_mem (ch := ch) (cl := cl) (by omega) (p := P.getD k kd) (by rw [hP, getD_lt _ _ hk]; exact List.getElem_mem hk)
    exact ⟨a, b, h4, h5, by omega⟩
  suffices hh : ∃ r, Option.bind _ _ = some r ∧ r = P.foldl (ofStep first (dirS level) (sosS sos)) cl by
    obtain ⟨r, h1, rfl⟩ := hh; exact h1
  refine bind_ex (Q := fun e => e = P.foldl (ofStep first (dirS level) (sosS sos)) cl) (iter_rule (I := fun (s : Int × List Int) => ∃ k : Nat, k ≤ P.length ∧ s = ((k : Int), (P.take k).foldl (ofStep first (dirS level) (sosS sos)) cl)) (fun s => ((P.length : Int) - s.1).toNat) ?_ _ ⟨0, Nat.zero_le _, rfl⟩) ?_
  rotate_left
  · rintro _ rfl; exact ⟨_, rfl, rfl⟩
  rintro _ ⟨k, hk, rfl⟩
  dsimp only
  by_cases hkl : k < P.length
  · obtain ⟨a, b, hab, h3, h4⟩ := hPm k hkl
    have hlen := foldl_len (ofStep first (dirS level) (sosS sos)) (ofStep_len _ _ _) (P.take k) cl
    have hstep := foldl_take_succ (ofStep first (dirS level) (sosS sos)) cl P kd hkl
    generalize (P.take k).foldl (ofStep first (dirS level) (sosS sos)) cl = l at *
    have hab' : List.getD P k (List.replicate (2 : Nat) (0 : Int)) = [(a : Int), (b : Int)] := hab
    have hkb : (0 : Int) ≤ (k : Int) ∧ (k : Int) < (P.length : Int) := by omega
    rw [if_pos (by rw [decide_eq_true_eq]; omega), if_pos hkb, if_pos (by decide), if_pos hkb, if_pos (by decide), Int.toNat_natCast, hab']
    have g0 : List.getD [(a : Int), (b : Int)] (Int.toNat (0 : Int)) (0 : Int) = (a : Int) := rfl
    have g1 : List.getD [(a : Int), (b : Int)] (Int.toNat (1 : Int)) (0 : Int) = (b : Int) := rfl
    rw [g0, g1, wrap_i64 (x := (a : Int) + 1) (by omega) (by omega), wrap_i64 (x := (k : Int) + 1) (by omega) (by omega), ks1_ok (by omega)]
    have e1 : (loS ((a : Int) + 1)).toNat = a + 1 := by unfold loS; split <;> omega
    have e2 : (minI (b : Int) (l.length : Int)).toNat = b := by unfold minI; split <;> omega
    rw [e1, e2]
    simp only [Option.bind_some]
    rw [hab] at hstep
    have hst : ofStep first (dirS level) (sosS sos) l [(a : Int), (b : Int)] = if pairS (dirS level) (sosS sos) l a b = -1 then l else turnS first (pairS (dirS level) (sosS sos) l a b) (turnS first (pairS (dirS level) (sosS sos) l a b) l a) b := rfl
    rw [hst] at hstep
    -- which one is the same
    have hsw : (if (dirS level == (1 : Int)) = true then some (hasS 1 l (a + 1) b, hasS 0 l (a + 1) b, l) else some (hasS 0 l (a + 1) b, hasS 1 l (a + 1) b, l)) = some (if dirS level = 1 then hasS 1 l (a + 1) b else hasS 0 l (a + 1) b, if dirS level = 1 then hasS 0 l (a + 1) b else hasS 1 l (a + 1) b, l) := by
      rcases he with h | h <;> rw [h] <;> rfl
    rw [hsw]
    simp only [Option.bind_some]
    -- ahead
    have hahead : ∃ r, iter (fun (s9 : Int × Int × List Int) => if decide (s9.snd.fst < (a : Int)) = true then if (0 : Int) ≤ s9.snd.fst ∧ s9.snd.fst < (↑(List.length s9.snd.snd) : Int) then
                                                    Option.bind (K.f38F (List.getD s9.snd.2 (Int.toNat s9.snd.fst) (0 : Int))) fun (v10 : Int) =>
                                                      if decide (v10 ≥ (0 : Int)) = true then
                                                        if (0 : Int) ≤ s9.snd.fst ∧ s9.snd.fst < (↑(List.length s9.snd.snd) : Int) then
                                                          Option.bind (K.f38F (List.getD s9.snd.2 (Int.toNat s9.snd.fst) (0 : Int))) fun (v11 : Int) =>
                                                            some (Sum.inl (v11, IntKind.i64.wrap (s9.snd.fst + (1 : Int)), s9.snd.2))
                                                        else none
                                                      else some (Sum.inl (s9.1, IntKind.i64.wrap (s9.snd.fst + (1 : Int)), s9.snd.2))
                                                  else none
                                                else some (Sum.inr (s9.1, s9.snd.2))) (sosS sos, (0 : Int), l) = some r ∧ r = (aheadS l a (sosS sos), l) := by
      refine iter_rule (I := fun (s : Int × Int × List Int) => ∃ j : Nat, j ≤ a ∧ s = (aheadS l j (sosS sos), (j : Int), l)) (fun s => ((a : Int) - s.2.1).toNat) ?_ _ ⟨0, Nat.zero_le _, rfl⟩
      rintro _ ⟨j, hj, rfl⟩
      dsimp only
      by_cases hja : j < a
      · rw [if_pos (by rw [decide_eq_true_eq]; omega), if_pos (by omega), Int.toNat_natCast, k38_eq, wrap_i64 (by omega) (by omega)]
        simp only [Option.bind_some]
        have hsc := aheadS_succ l j (sosS sos)
        by_cases hs0 : sideS (l.getD j 0) ≥ 0
        · rw [if_pos (by rw [decide_eq_true_eq]; exact hs0), if_pos (by omega)]
          rw [if_pos hs0] at hsc
          exact .inl ⟨_, rfl, ⟨j + 1, hja, by rw [hsc]; rfl⟩, by show ((a : Int) - ((j : Int) + 1)).toNat < ((a : Int) - (j : Int)).toNat; omega⟩
        · rw [if_neg (by rw [decide_eq_true_eq]; exact hs0)]
          rw [if_neg hs0] at hsc
          exact .inl ⟨_, rfl, ⟨j + 1, hja, by rw [hsc]; rfl⟩, by show ((a : Int) - ((j : Int) + 1)).toNat < ((a : Int) - (j : Int)).toNat; omega⟩
      · rw [if_neg (by rw [decide_eq_true_eq]; omega)]
        exact .inr ⟨_, rfl, by rw [show j = a by omega]⟩
    obtain ⟨_, hahead, rfl⟩ := hahead
    have hs8 : (if (sos == (1 : Int)) = true then some ((1 : Int), l) else some ((0 : Int), l)) = some (sosS sos, l) := by
      unfold sosS
      by_cases h : sos = 1 <;> simp [h]
    by_cases hn : (!hasS 0 l (a + 1) b && !hasS 1 l (a + 1) b) = true
    · have hps : pairS (dirS level) (sosS sos) l a b = -1 := by unfold pairS; rw [if_pos hn]
      rw [if_pos hps] at hstep
      rw [Bool.and_eq_true, Bool.not_eq_true', Bool.not_eq_true'] at hn
      rw [hn.1, hn.2]
      simp only [ite_self, Bool.not_false, if_true, Option.bind_some]
      exact .inl ⟨_, rfl, ⟨k + 1, hkl, by rw [hstep]; rfl⟩, by show ((P.length : Int) - ((k : Int) + 1)).toNat < ((P.length : Int) - (k : Int)).toNat; omega⟩
    · -- the side
      have hside : (if (!(if dirS level = 1 then hasS 1 l (a + 1) b else hasS 0 l (a + 1) b)) = true then some (!(if dirS level = 1 then hasS 0 l (a + 1) b else hasS 1 l (a + 1) b), l) else some (false, l)) = some (false, l) ∧ pairS (dirS level) (sosS sos) l a b = (if (if dirS level = 1 then hasS 1 l (a + 1) b else hasS 0 l (a + 1) b) = true then dirS level else aheadS l a (sosS sos)) := by
        unfold pairS
        rw [if_neg hn]
        rcases he with h | h <;> rw [h] <;> revert hn <;> cases hasS 0 l (a + 1) b <;> cases hasS 1 l (a + 1) b <;> simp
      obtain ⟨hs1, hs2⟩ := hside
      have hne : pairS (dirS level) (sosS sos) l a b ≠ -1 := by
        rw [hs2]
        have hx : dirS level ≠ -1 := by rcases he with h | h <;> rw [h] <;> decide
        have hy : aheadS l a (sosS sos) ≠ -1 := aheadS_ne l a (by unfold sosS; split <;> decide)
        cases (if dirS level = 1 then hasS 1 l (a + 1) b else hasS 0 l (a + 1) b)
        · simpa using hy
        · simpa using hx
      rw [if_neg hne] at hstep
      rw [hs1]
      simp only [Option.bind_some, Bool.false_eq_true, if_false]
      rw [hs8]
      simp only [Option.bind_some]
      rw [hahead]
      simp only [Option.bind_some]
      have hfin : (if (!(if dirS level = 1 then hasS 1 l (a + 1) b else hasS 0 l (a + 1) b)) = true then (if (aheadS l a (sosS sos) != dirS level) = true then some (aheadS l a (sosS sos), l) else some (dirS level, l)) else some (dirS level, l)) = some (pairS (dirS level) (sosS sos) l a b, l) := by
        rw [hs2]
        cases (if dirS level = 1 then hasS 1 l (a + 1) b else hasS 0 l (a + 1) b)
        · simp only [Bool.not_false, if_true, Bool.false_eq_true, if_false]
          by_cases hq : aheadS l a (sosS sos) = dirS level
          · rw [if_neg (by simpa using hq), hq]
          · rw [if_pos (by simpa using hq)]
        · rfl
      rw [hfin]
      simp only [Option.bind_some]
      rw [k61_ok first l a _ (by omega) (by omega) (by omega)]
      simp only [Option.bind_some]
      rw [k61_ok first _ b _ (by rw [turnS_len]; omega) (by rw [turnS_len]; omega) (by rw [turnS_len]; omega)]
      simp only [Option.bind_some]
      exact .inl ⟨_, rfl, ⟨k + 1, hkl, by rw [hstep]; rfl⟩, by show ((P.length : Int) - ((k : Int) + 1)).toNat < ((P.length : Int) - (k : Int)).toNat; omega⟩
  · rw [if_neg (by rw [decide_eq_true_eq]; omega)]
    exact .inr ⟨_, rfl, by rw [show k = P.length by omega, List.take_length]⟩
end Go.Sx
