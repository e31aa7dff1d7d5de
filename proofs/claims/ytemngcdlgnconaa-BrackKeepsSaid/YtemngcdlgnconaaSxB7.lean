/- Brackets, plain: the reference's pairs are the same. -/
import Derived.Test.YtemngcdlgnconaaSxB6
set_option linter.unusedVariables false
set_option linter.unusedSimpArgs false
namespace Go.Sx

/-! ### Put among others -/

def firstGe (v : Int) : List (List Int) → Nat
  | [] => 0
  | q :: l => if kk q < v then firstGe v l + 1 else 0

theorem firstGe_le (v : Int) : ∀ l, firstGe v l ≤ l.length
  | [] => Nat.le_refl _
  | q :: l => by
    unfold firstGe
    split
    · have := firstGe_le v l; simp; omega
    · simp
theorem firstGe_lt (v : Int) : ∀ (l : List (List Int)) (k : Nat), k < firstGe v l → kk (l.getD k kd) < v
  | [], k, h => by simp [firstGe] at h
  | q :: l, k, h => by
    unfold firstGe at h
    split at h
    · cases k with
      | zero => simpa using (by assumption)
      | succ k => simpa using firstGe_lt v l k (by omega)
    · omega
theorem firstGe_at (v : Int) : ∀ (l : List (List Int)), firstGe v l < l.length → ¬ kk (l.getD (firstGe v l) kd) < v
  | [], h => by simp [firstGe] at h
  | q :: l, h => by
    by_cases hq : kk q < v
    · have e : firstGe v (q :: l) = firstGe v l + 1 := by simp [firstGe, hq]
      rw [e] at h ⊢
      simpa using firstGe_at v l (by simpa using h)
    · have e : firstGe v (q :: l) = 0 := by simp [firstGe, hq]
      rw [e]
      simpa using hq

def putS (l : List (List Int)) (p : List Int) : List (List Int) := l.take (firstGe (kk p) l) ++ [p] ++ l.drop (firstGe (kk p) l)

theorem putS_cons_lt {l : List (List Int)} {p q : List Int} (h : kk q < kk p) : putS (q :: l) p = q :: putS l p := by
  simp [putS, firstGe, h]
theorem putS_cons_ge {l : List (List Int)} {p q : List Int} (h : ¬ kk q < kk p) : putS (q :: l) p = p :: q :: l := by
  simp [putS, firstGe, h]
theorem putS_nil {p : List Int} : putS [] p = [p] := rfl

theorem putS_perm (p : List Int) : ∀ l, (putS l p).Perm (p :: l)
  | [] => by rw [putS_nil]
  | q :: l => by
    by_cases h : kk q < kk p
    · rw [putS_cons_lt h]
      exact ((putS_perm p l).cons q).trans (.swap ..)
    · rw [putS_cons_ge h]

abbrev Asc (l : List (List Int)) : Prop := l.Pairwise fun x y => kk x < kk y

theorem putS_asc (p : List Int) : ∀ l, Asc l → (∀ q ∈ l, kk q ≠ kk p) → Asc (putS l p)
  | [], _, _ => by rw [putS_nil]; exact List.pairwise_singleton _ _
  | q :: l, h, hn => by
    rw [Asc, List.pairwise_cons] at h
    by_cases hq : kk q < kk p
    · rw [putS_cons_lt hq, Asc, List.pairwise_cons]
      refine ⟨fun x hx => ?_, putS_asc p l h.2 fun q hq => hn q (by simp [hq])⟩
      rcases List.mem_cons.1 ((putS_perm p l).mem_iff.1 hx) with rfl | hx
      · exact hq
      · exact h.1 x hx
    · rw [putS_cons_ge hq, Asc, List.pairwise_cons]
      have hpq := hn q (by simp)
      refine ⟨fun x hx => ?_, by rw [List.pairwise_cons]; exact h⟩
      rcases List.mem_cons.1 hx with rfl | hx
      · omega
      · have := h.1 x hx; omega

theorem asc_eq : ∀ {l m : List (List Int)}, Asc l → Asc m → l.Perm m → l = m
  | [], m, _, _, hp => hp.symm.eq_nil.symm ▸ rfl
  | a :: l, [], _, _, hp => by have := hp.length_eq; simp at this
  | a :: l, b :: m, h1, h2, hp => by
    rw [Asc, List.pairwise_cons] at h1 h2
    have e : a = b := by
      rcases List.mem_cons.1 (hp.mem_iff.1 (List.mem_cons_self)) with e | ha
      · exact e
      · rcases List.mem_cons.1 (hp.mem_iff.2 (List.mem_cons_self)) with e | hb
        · exact e.symm
        · have := h2.1 a ha
          have := h1.1 b hb
          omega
    subst e
    rw [asc_eq h1.2 h2.2 (hp.cons_inv)]

theorem foldPut : ∀ (l acc : List (List Int)), Asc acc → (acc ++ l).Pairwise (fun x y => kk x ≠ kk y) → Asc (l.foldl putS acc) ∧ (l.foldl putS acc).Perm (acc ++ l)
  | [], acc, h, _ => ⟨h, by simp⟩
  | p :: l, acc, h, hd => by
    have hpm := putS_perm p acc
    have hne : ∀ q ∈ acc, kk q ≠ kk p := fun q hq => (List.pairwise_append.1 hd).2.2 q hq p (by simp)
    have hperm : (putS acc p ++ l).Perm (acc ++ p :: l) := (hpm.append_right l).trans (by rw [List.cons_append]; exact List.perm_middle.symm)
    obtain ⟨h1, h2⟩ := foldPut l (putS acc p) (putS_asc p acc h hne) (hperm.symm.pairwise hd fun hxy => fun e => hxy e.symm)
    exact ⟨h1, h2.trans hperm⟩

/-- Sorted, and put one by one: the same. -/
theorem sortP_put {l : List (List Int)} (hk : Kb l) (hl : l.length < 1100) (hd : l.Pairwise (fun x y => kk x ≠ kk y)) : sortP l = l.foldl putS [] ∧ Asc (sortP l) ∧ (sortP l).Perm l := by
  obtain ⟨l', h1, h2, h3⟩ := k53_ok hl hk
  have e : sortP l = l' := by unfold sortP; rw [h1]; rfl
  have hd' : l'.Pairwise (fun x y => kk x ≠ kk y) := h2.symm.pairwise hd fun hxy => fun e => hxy e.symm
  have hs : Asc l' := (h3.and hd').imp fun ⟨a, b⟩ => by omega
  obtain ⟨g1, g2⟩ := foldPut l [] List.Pairwise.nil (by simpa using hd)
  refine ⟨?_, e ▸ hs, e ▸ h2⟩
  rw [e]
  exact asc_eq hs g1 (h2.trans (by simpa using g2.symm))

/-! ### Within one another, or apart -/

abbrev RelP (p q : Nat × Nat) : Prop := p.2 < q.2 ∧ (q.1 < p.1 ∨ p.2 < q.1)

theorem pW_first (ch cl : List Int) : ∀ (n i : Nat) (ws : List Nat), ∀ p ∈ pW ch cl n i ws, p.1 ∈ ws ∨ i ≤ p.1
  | 0, _, _, p, h => by simp [pW] at h
  | n + 1, i, ws, p, h => by
    have ih := pW_first ch cl n (i + 1)
    unfold pW at h
    split at h
    · rcases ih ws p h with h | h
      · exact .inl h
      · exact .inr (by omega)
    · split at h
      · split at h
        · simp at h
        · rcases ih _ p h with h | h
          · rcases List.mem_append.1 h with h | h
            · exact .inl h
            · simp at h; exact .inr (by omega)
          · exact .inr (by omega)
      · split at h
        · rcases ih ws p h with h | h
          · exact .inl h
          · exact .inr (by omega)
        · rename_i k hk
          rcases List.mem_cons.1 h with rfl | h
          · left
            show ws.getD k 0 ∈ ws
            rw [getD_lt _ _ (lastK_some hk).1]; exact List.getElem_mem _
          · rcases ih _ p h with h | h
            · exact .inl (List.mem_of_mem_take h)
            · exact .inr (by omega)

theorem pW_rel (ch cl : List Int) : ∀ (n i : Nat) (ws : List Nat), ws.Pairwise (· < ·) → (∀ w ∈ ws, w < i) → (pW ch cl n i ws).Pairwise RelP
  | 0, _, _, _, _ => by simp [pW]
  | n + 1, i, ws, hs, hw => by
    have hw1 : ∀ w ∈ ws, w < i + 1 := fun w hm => by have := hw w hm; omega
    unfold pW
    split
    · exact pW_rel ch cl n (i + 1) ws hs hw1
    · split
      · split
        · exact List.Pairwise.nil
        · refine pW_rel ch cl n (i + 1) _ ?_ ?_
          · rw [List.pairwise_append]
            exact ⟨hs, List.pairwise_singleton _ _, fun a ha b hb => by simp at hb; have := hw a ha; omega⟩
          · intro w hm
            rcases List.mem_append.1 hm with hm | hm
            · exact hw1 w hm
            · simp at hm; omega
      · split
        · exact pW_rel ch cl n (i + 1) ws hs hw1
        · rename_i k hk
          obtain ⟨hk1, _⟩ := lastK_some hk
          have hs' : (ws.take k).Pairwise (· < ·) := hs.sublist (List.take_sublist ..)
          have hw' : ∀ w ∈ ws.take k, w < i + 1 := fun w hm => hw1 w (List.mem_of_mem_take hm)
          rw [List.pairwise_cons]
          refine ⟨fun q hq => ?_, pW_rel ch cl n (i + 1) _ hs' hw'⟩
          obtain ⟨m1, m2, m3⟩ := pW_mem ch cl n (i + 1) (ws.take k) hw' q hq
          refine ⟨by show i < q.2; omega, ?_⟩
          rcases pW_first ch cl n (i + 1) _ q hq with h | h
          · left
            show q.1 < ws.getD k 0
            rw [getD_lt _ _ hk1]
            obtain ⟨j, hj, e⟩ := List.mem_iff_getElem.1 h
            rw [List.length_take] at hj
            rw [← e, List.getElem_take]
            exact List.pairwise_iff_getElem.1 hs j k (by omega) hk1 (by omega)
          · right
            show i < q.1
            omega

/-- What a pair is made of. -/
theorem pW_brk (ch cl : List Int) : ∀ (n i : Nat) (ws : List Nat), (∀ w ∈ ws, (otS (ch.getD w 0)).2.2 = true ∧ (otS (ch.getD w 0)).2.1 = true ∧ cl.getD w 0 = 13) → ∀ p ∈ pW ch cl n i ws,
    ((otS (ch.getD p.1 0)).2.2 = true ∧ (otS (ch.getD p.1 0)).2.1 = true ∧ cl.getD p.1 0 = 13) ∧ (otS (ch.getD p.2 0)).2.2 = true ∧ (otS (ch.getD p.2 0)).2.1 = false ∧ cl.getD p.2 0 = 13 ∧ smS (ch.getD p.1 0) (otS (ch.getD p.2 0)).1 = true
  | 0, _, _, _, p, h => by simp [pW] at h
  | n + 1, i, ws, hw, p, h => by
    have ih := pW_brk ch cl n (i + 1)
    unfold pW at h
    by_cases c1 : (!(otS (ch.getD i 0)).2.2 || cl.getD i 0 != 13) = true
    · rw [if_pos c1] at h; exact ih ws hw p h
    rw [if_neg c1] at h
    rw [Bool.or_eq_true, not_or, Bool.not_eq_true, Bool.not_eq_true] at c1
    have c1a : (otS (ch.getD i 0)).2.2 = true := by simpa using c1.1
    have c1b : cl.getD i 0 = 13 := by simpa using c1.2
    by_cases c2 : (otS (ch.getD i 0)).2.1 = true
    · rw [if_pos c2] at h
      split at h
      · simp at h
      · refine ih _ (fun w hm => ?_) p h
        rcases List.mem_append.1 hm with hm | hm
        · exact hw w hm
        · simp at hm; subst hm; exact ⟨c1a, c2, c1b⟩
    rw [if_neg c2] at h
    split at h
    · exact ih ws hw p h
    · rename_i k hk
      obtain ⟨hk1, hk2⟩ := lastK_some hk
      rcases List.mem_cons.1 h with rfl | h
      · refine ⟨?_, c1a, by simpa using c2, c1b, hk2⟩
        show (otS (ch.getD (ws.getD k 0) 0)).2.2 = true ∧ _
        rw [getD_lt _ _ hk1]
        exact hw _ (List.getElem_mem hk1)
      · exact ih _ (fun w hm => hw w (List.mem_of_mem_take hm)) p h

/-- The pairs, by where they begin. -/
noncomputable def prS (ch cl : List Int) : List (List Int) := if ch.length = cl.length then sortP ((pW ch cl ch.length 0 []).map toP) else []

theorem pW_keys (ch cl : List Int) (n : Nat) : ((pW ch cl n 0 []).map toP).Pairwise (fun x y => kk x ≠ kk y) := by
  rw [List.pairwise_map]
  refine (List.Pairwise.and_mem.1 (pW_rel ch cl n 0 [] List.Pairwise.nil (by simp))).imp fun {p q} h => ?_
  obtain ⟨hp, hq, h1, h2⟩ := h
  have := pW_mem ch cl n 0 [] (by simp) p hp
  show ((p.1 : Int)) ≠ ((q.1 : Int))
  omega

theorem pW_kb (ch cl : List Int) {n : Nat} (hn : n ≤ 1000) : Kb ((pW ch cl n 0 []).map toP) := by
  intro p hp
  obtain ⟨q, hq, rfl⟩ := List.mem_map.1 hp
  have := pW_mem ch cl n 0 [] (by simp) q hq
  show -1000000 ≤ (q.1 : Int) ∧ (q.1 : Int) ≤ 1000000
  omega

theorem prS_put (ch cl : List Int) (hl : ch.length ≤ 1000) (hlen : ch.length = cl.length) : prS ch cl = ((pW ch cl ch.length 0 []).map toP).foldl putS [] ∧ Asc (prS ch cl) ∧ (prS ch cl).Perm ((pW ch cl ch.length 0 []).map toP) := by
  have h1 : (pW ch cl ch.length 0 []).length ≤ ch.length := pW_length _ _ _ _ _
  unfold prS
  rw [if_pos hlen]
  exact sortP_put (pW_kb ch cl hl) (by simp; omega) (pW_keys ch cl _)

theorem k35_pr (ch cl : List Int) (hl : ch.length ≤ 1000) : K.f35F (ch, cl) = some (prS ch cl) := by
  rw [k35_ok ch cl hl]; rfl

/-! ### The reference -/

theorem k55_ok (l : List (List Int)) (a b : Int) (hl : l.length ≤ 100000) : K.f55F (l, [a, b]) = some (putS l [a, b]) := by
  unfold K.f55F
  dsimp only
  have hle := firstGe_le a l
  have hloop : ∃ e, iter (fun (s1 : Int × Int × Int) =>
        Option.bind
          (if decide (s1.fst < (↑(List.length l) : Int)) = true then
            if (0 : Int) ≤ s1.fst ∧ s1.fst < (↑(List.length l) : Int) then
              if (0 : Int) ≤ (0 : Int) ∧ (0 : Int) < (↑(2 : Nat) : Int) then
                if (0 : Int) ≤ (0 : Int) ∧ (0 : Int) < (↑(2 : Nat) : Int) then
                  some (decide (List.getD (List.getD l (Int.toNat s1.fst) (List.replicate (2 : Nat) (0 : Int))) (Int.toNat (0 : Int)) (0 : Int) < s1.snd.fst), s1.snd.1, s1.snd.2)
                else none
              else none
            else none
          else some (false, s1.snd.1, s1.snd.2))
          fun (v2 : Bool × Int × Int) =>
          if v2.fst = true then some (Sum.inl (IntKind.i64.wrap (s1.fst + (1 : Int)), v2.snd.1, v2.snd.2)) else some (Sum.inr (s1.1, v2.snd.1, v2.snd.2))) ((0 : Int), a, b) = some e ∧ e = ((firstGe a l : Int), a, b) := by
    refine iter_rule (I := fun (s : Int × Int × Int) => ∃ k : Nat, k ≤ firstGe a l ∧ s = ((k : Int), a, b)) (fun s => ((firstGe a l : Int) - s.1).toNat) ?_ _ ⟨0, Nat.zero_le _, rfl⟩
    rintro _ ⟨k, hk, rfl⟩
    dsimp only
    by_cases hkl : k < l.length
    · have hb : (0 : Int) ≤ (k : Int) ∧ (k : Int) < (l.length : Int) := by omega
      rw [if_pos (by rw [decide_eq_true_eq]; omega), if_pos hb, if_pos (by decide), if_pos (by decide), Int.toNat_natCast]
      simp only [Option.bind_some]
      by_cases hlt : k < firstGe a l
      · rw [if_pos (by rw [decide_eq_true_eq]; exact firstGe_lt a l k hlt), wrap_i64 (by omega) (by omega)]
        exact .inl ⟨_, rfl, ⟨k + 1, hlt, rfl⟩, by show ((firstGe a l : Int) - ((k : Int) + 1)).toNat < ((firstGe a l : Int) - (k : Int)).toNat; omega⟩
      · have e : k = firstGe a l := by omega
        rw [if_neg (by rw [decide_eq_true_eq]; rw [e]; exact firstGe_at a l (by omega))]
        exact .inr ⟨_, rfl, by rw [e]⟩
    · rw [if_neg (by rw [decide_eq_true_eq]; omega)]
      simp only [Option.bind_some, Bool.false_eq_true, if_false]
      exact .inr ⟨_, rfl, by rw [show k = firstGe a l by omega]⟩
  obtain ⟨e, h1, rfl⟩ := hloop
  refine Eq.trans (congrArg (fun z => Option.bind z _) h1) ?_
  simp only [Option.bind_some]
  have hk : kk [a, b] = a := rfl
  rw [if_pos (by omega), if_pos (by unfold roomOk; simp; omega), if_pos (by unfold roomOk; simp; omega), if_pos (by omega), if_pos (by unfold roomOk; simp; omega), Int.toNat_natCast]
  simp [putS, hk]
end Go.Sx
