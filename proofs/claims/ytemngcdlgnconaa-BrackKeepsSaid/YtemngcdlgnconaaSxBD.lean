/- Brackets, plain: the law BrackKeeps. -/
import Derived.Test.YtemngcdlgnconaaSxBC
set_option linter.unusedVariables false
set_option linter.unusedSimpArgs false
namespace Go.Sx

def markGo (first : List Int) : Nat → Nat → List Bool → List Bool
  | 0, _, m => m
  | n + 1, k, m => if first.getD k 0 = 8 then markGo first n (k + 1) (m.set k true) else m

def markS (first : List Int) (m : List Bool) (i : Nat) : List Bool := markGo first (m.length - (i + 1)) (i + 1) (m.set i true)

theorem markGo_len (first : List Int) : ∀ (n k : Nat) (m : List Bool), (markGo first n k m).length = m.length
  | 0, _, _ => rfl
  | n + 1, k, m => by
    unfold markGo
    split
    · rw [markGo_len]; simp
    · rfl
theorem markS_len (first : List Int) (m : List Bool) (i : Nat) : (markS first m i).length = m.length := by
  unfold markS; rw [markGo_len]; simp

/-- What isn't marked is as it was; what isn't as it was is a side. -/
def GoodK (cl : List Int) (m : List Bool) (l : List Int) : Prop := ∀ i, (m.getD i false = false → l.getD i 0 = cl.getD i 0) ∧ (l.getD i 0 = cl.getD i 0 ∨ l.getD i 0 = 0 ∨ l.getD i 0 = 1)

theorem getD_set' {A : Type} (l : List A) (i k : Nat) (x d : A) : (l.set i x).getD k d = if i = k ∧ i < l.length then x else l.getD k d := by
  rw [List.getD_eq_getElem?_getD, List.getD_eq_getElem?_getD, List.getElem?_set]
  by_cases h : i = k
  · subst h
    by_cases hl : i < l.length
    · simp [hl]
    · simp [hl]
  · simp [h]

theorem GoodK.set {cl : List Int} {m : List Bool} {l : List Int} (h : GoodK cl m l) (hl : m.length = l.length) (k : Nat) {s : Int} (hs : s = 0 ∨ s = 1) : GoodK cl (m.set k true) (l.set k s) := by
  intro i
  rw [getD_set', getD_set', hl]
  by_cases hi : k = i ∧ k < l.length
  · rw [if_pos hi, if_pos hi]
    exact ⟨fun e => (by cases e), .inr hs⟩
  · rw [if_neg hi, if_neg hi]
    exact h i

theorem GoodK.mark {cl : List Int} {m : List Bool} {l : List Int} (h : GoodK cl m l) (k : Nat) : GoodK cl (m.set k true) l := by
  intro i
  rw [getD_set']
  by_cases hi : k = i ∧ k < m.length
  · rw [if_pos hi]
    exact ⟨fun e => (by cases e), (h i).2⟩
  · rw [if_neg hi]
    exact h i

theorem GoodK.turnGo {cl fi : List Int} {s : Int} (hs : s = 0 ∨ s = 1) : ∀ (n k : Nat) {m : List Bool} {l : List Int}, GoodK cl m l → m.length = l.length → GoodK cl (markGo fi n k m) (turnGo fi s n k l)
  | 0, _, _, _, h, _ => h
  | n + 1, k, m, l, h, hl => by
    unfold markGo Go.Sx.turnGo
    split
    · exact GoodK.turnGo hs n (k + 1) (h.set hl k hs) (by simpa using hl)
    · exact h

theorem GoodK.markGo {cl fi : List Int} : ∀ (n k : Nat) {m : List Bool} {l : List Int}, GoodK cl m l → GoodK cl (markGo fi n k m) l
  | 0, _, _, _, h => h
  | n + 1, k, m, l, h => by
    unfold Go.Sx.markGo
    split
    · exact GoodK.markGo n (k + 1) (h.mark k)
    · exact h

theorem GoodK.turnS {cl fi : List Int} {s : Int} (hs : s = 0 ∨ s = 1) {m : List Bool} {l : List Int} (h : GoodK cl m l) (hl : m.length = l.length) (i : Nat) : GoodK cl (markS fi m i) (turnS fi s l i) := by
  unfold markS Go.Sx.turnS
  rw [hl]
  exact GoodK.turnGo hs _ _ (h.set hl i hs) (by simpa using hl)

theorem GoodK.markS {cl fi : List Int} {m : List Bool} {l : List Int} (h : GoodK cl m l) (i : Nat) : GoodK cl (markS fi m i) l := by
  unfold Go.Sx.markS
  exact GoodK.markGo _ _ (h.mark i)

def markP (fi : List Int) (m : List Bool) (p : List Int) : List Bool := markS fi (markS fi m (p.getD 0 0).toNat) (p.getD 1 0).toNat

theorem markP_len (fi : List Int) (m : List Bool) (p : List Int) : (markP fi m p).length = m.length := by
  unfold markP; rw [markS_len, markS_len]

theorem aheadS_side (l : List Int) (a : Nat) {s : Int} (hs : s = 0 ∨ s = 1) : aheadS l a s = 0 ∨ aheadS l a s = 1 := by
  unfold aheadS
  cases h : lastK (fun k => sideS (l.getD k 0) != -1) a with
  | none => exact hs
  | some k =>
    have := (lastK_some h).2
    rcases sideS_cases (l.getD k 0) with h1 | h1 | h1
    · exact .inl h1
    · exact .inr h1
    · rw [h1] at this; cases this

theorem pairS_cases {e sos : Int} (he : e = 0 ∨ e = 1) (hs : sos = 0 ∨ sos = 1) (l : List Int) (a b : Nat) : pairS e sos l a b = -1 ∨ pairS e sos l a b = 0 ∨ pairS e sos l a b = 1 := by
  unfold pairS
  split
  · exact .inl rfl
  · split
    · exact .inr he
    · exact .inr (aheadS_side l a hs)

theorem GoodK.step {cl fi : List Int} {e sos : Int} (he : e = 0 ∨ e = 1) (hs : sos = 0 ∨ sos = 1) {m : List Bool} {l : List Int} (h : GoodK cl m l) (hl : m.length = l.length) (p : List Int) : GoodK cl (markP fi m p) (ofStep fi e sos l p) := by
  unfold markP ofStep
  split
  · exact (h.markS _).markS _
  · rename_i hne
    have hc := (pairS_cases he hs l (p.getD 0 0).toNat (p.getD 1 0).toNat).resolve_left hne
    exact (h.turnS hc hl _).turnS hc (by rw [markS_len, turnS_len]; exact hl) _

theorem GoodK.fold {cl fi : List Int} {e sos : Int} (he : e = 0 ∨ e = 1) (hs : sos = 0 ∨ sos = 1) : ∀ (ps : List (List Int)) {m : List Bool} {l : List Int}, GoodK cl m l → m.length = l.length → GoodK cl (ps.foldl (markP fi) m) (ps.foldl (ofStep fi e sos) l)
  | [], _, _, h, _ => h
  | p :: ps, m, l, h, hl => by
    rw [List.foldl_cons, List.foldl_cons]
    exact GoodK.fold he hs ps (h.step he hs hl p) (by rw [markP_len, ofStep_len]; exact hl)

theorem foldl_lenB {A : Type} (f : List Bool → A → List Bool) (h : ∀ l a, (f l a).length = l.length) : ∀ (ps : List A) (l : List Bool), (ps.foldl f l).length = l.length
  | [], _ => rfl
  | p :: ps, l => by rw [List.foldl_cons, foldl_lenB f h ps, h]

/-- The loop that marks. -/
theorem mark_loop (ch cl fi : List Int) (m : List Bool) (n i : Nat) (hn : n ≤ 1000) (hm : m.length = n) (hf : fi.length = n) (hi : i < n) :
    ∃ e, iter (fun (s9 : Int × List Int × List Int × List Int × List Bool) =>
      Option.bind
        (if decide (s9.fst < (n : Int)) = true then
          if (0 : Int) ≤ s9.fst ∧ s9.fst < (↑(List.length s9.snd.snd.snd.fst) : Int) then
            some (List.getD s9.snd.snd.snd.fst (Int.toNat s9.fst) (0 : Int) == (8 : Int), s9.snd.1, s9.snd.snd.1, s9.snd.snd.snd.1, s9.snd.snd.snd.2)
          else none
        else some (false, s9.snd.1, s9.snd.snd.1, s9.snd.snd.snd.1, s9.snd.snd.snd.2))
        fun (v10 : Bool × List Int × List Int × List Int × List Bool) =>
        if v10.fst = true then
          if (0 : Int) ≤ s9.fst ∧ s9.fst < (↑(List.length v10.snd.snd.snd.snd) : Int) then
            some (Sum.inl (IntKind.i64.wrap (s9.fst + (1 : Int)), v10.snd.1, v10.snd.snd.1, v10.snd.snd.snd.1, List.set v10.snd.snd.snd.2 (Int.toNat s9.fst) true))
          else none
        else some (Sum.inr (v10.snd.1, v10.snd.snd.1, v10.snd.snd.snd.1, v10.snd.snd.snd.2)))
      (((i + 1 : Nat) : Int), ch, cl, fi, m.set i true) = some e ∧ e = (ch, cl, fi, markS fi m i) := by
  refine iter_rule (I := fun (x : Int × List Int × List Int × List Int × List Bool) => ∃ (k : Nat) (m' : List Bool), k ≤ n ∧ m'.length = n ∧ x = ((k : Int), ch, cl, fi, m') ∧ markS fi m i = markGo fi (n - k) k m') (fun x => ((n : Int) - x.1).toNat) ?_ _
    ⟨i + 1, m.set i true, by omega, by simpa using hm, rfl, by unfold markS; rw [hm]⟩
  rintro _ ⟨k, m', hk, hm', rfl, hI⟩
  dsimp only
  by_cases hkl : k < n
  · rw [if_pos (by rw [decide_eq_true_eq]; omega), if_pos (by omega), Int.toNat_natCast]
    simp only [Option.bind_some]
    rw [show n - k = (n - (k + 1)) + 1 by omega] at hI
    unfold Go.Sx.markGo at hI
    by_cases h8 : fi.getD k 0 = 8
    · rw [if_pos h8] at hI
      rw [if_pos (by simpa using h8), if_pos (by omega), wrap_i64 (by omega) (by omega)]
      exact .inl ⟨_, rfl, ⟨k + 1, m'.set k true, by omega, by simpa using hm', rfl, hI⟩, by show ((n : Int) - ((k : Int) + 1)).toNat < ((n : Int) - (k : Int)).toNat; omega⟩
    · rw [if_neg h8] at hI
      rw [if_neg (by simpa using h8)]
      exact .inr ⟨_, rfl, by rw [hI]⟩
  · rw [if_neg (by rw [decide_eq_true_eq]; omega)]
    simp only [Option.bind_some, Bool.false_eq_true, if_false]
    rw [show n - k = 0 by omega] at hI
    exact .inr ⟨_, rfl, by rw [hI]; rfl⟩

theorem brackKeeps_pure (x : (List Int × List Int × List Int) × Int × Bool) (h : wfTup [.st (.pair (.sl (.int .i64)) (.pair (.sl (.int .i64)) (.sl (.int .i64)))), .int .i64, .bool] x) : K.f13F x = some true := by
  obtain ⟨⟨ch, cl, fi⟩, lv, right⟩ := x
  unfold K.f13F
  rw [kAlive]
  simp only [Option.bind_some, Bool.not_true, Bool.false_eq_true, if_false]
  by_cases h1 : ch.length > 200
  · rw [if_pos (by rw [decide_eq_true_eq]; omega)]; rfl
  rw [if_neg (by rw [decide_eq_true_eq]; omega)]
  by_cases h2 : cl.length > 200
  · rw [if_pos (by rw [decide_eq_true_eq]; omega)]; rfl
  rw [if_neg (by rw [decide_eq_true_eq]; omega)]
  simp only [Option.bind_some]
  by_cases h3 : fi.length > 200
  · rw [if_pos (by rw [decide_eq_true_eq]; omega)]
  rw [if_neg (by rw [decide_eq_true_eq]; omega)]
  have hsos : (if right = true then some ((1 : Int), ch, cl, fi) else some ((0 : Int), ch, cl, fi)) = some (if right = true then (1 : Int) else 0, ch, cl, fi) := by cases right <;> rfl
  rw [hsos]
  simp only [Option.bind_some]
  generalize (if right = true then (1 : Int) else 0) = sos
  rw [k39_ok _ _ _ _ _ (by omega)]
  simp only [Option.bind_some]
  have hlen : (ofS ch cl fi lv sos).length = cl.length := by
    unfold ofS
    split
    · exact foldl_len _ (ofStep_len _ _ _) _ _
    · rfl
  rw [if_neg (by simp; omega)]
  by_cases e1 : ch.length = cl.length
  rotate_left
  · have ho : ofS ch cl fi lv sos = cl := by unfold ofS; rw [if_neg (fun h => e1 h.1)]
    rw [if_pos (by simp; omega)]
    simp only [Option.bind_some, if_true]
    rw [ho, k24_eq _ _ (by omega)]
    simp
  rw [if_neg (by simp; omega)]
  simp only [Option.bind_some]
  by_cases e2 : fi.length = cl.length
  rotate_left
  · have ho : ofS ch cl fi lv sos = cl := by unfold ofS; rw [if_neg (fun h => e2 h.2)]
    rw [if_pos (by simp; omega), ho, k24_eq _ _ (by omega)]
    simp
  rw [if_neg (by simp; omega), k35_pr _ _ (by omega)]
  simp only [Option.bind_some]
  have ho : ofS ch cl fi lv sos = (prS ch cl).foldl (ofStep fi (dirS lv) (sosS sos)) cl := by unfold ofS; rw [if_pos ⟨e1, e2⟩]
  have hsc : sosS sos = 0 ∨ sosS sos = 1 := by unfold sosS; split <;> simp
  have hgood := GoodK.fold (cl := cl) (fi := fi) (dirS_cases lv) hsc (prS ch cl) (m := List.replicate cl.length false) (l := cl) (fun i => ⟨fun _ => rfl, .inl rfl⟩) (by simp)
  rw [← ho] at hgood
  have hpl := prS_length ch cl (by omega)
  have hPm : ∀ k, k < (prS ch cl).length → ∃ a b : Nat, (prS ch cl).getD k kd = [(a : Int), (b : Int)] ∧ a < b ∧ b < cl.length := by
    intro k hk
    obtain ⟨_, a, b, _, h4, h5, h6⟩ := prS_mem (ch := ch) (cl := cl) (by omega) (p := (prS ch cl).getD k kd) (by rw [getD_lt _ _ hk]; exact List.getElem_mem hk)
    exact ⟨a, b, h4, h5, by omega⟩
  generalize prS ch cl = P at *
  generalize ofS ch cl fi lv sos = l at *
  rw [if_pos ⟨by omega, by omega, by unfold roomOk; simp; omega⟩, Int.toNat_natCast, hlen]
  suffices hh : ∃ r, Option.bind _ _ = some r ∧ r = true by
    obtain ⟨r, g1, rfl⟩ := hh; exact g1
  refine bind_ex (Q := fun e => e = (ch, cl, fi, P.foldl (markP fi) (List.replicate cl.length false))) (iter_rule (I := fun (s : Int × List Int × List Int × List Int × List Bool) => ∃ k : Nat, k ≤ P.length ∧ s = ((k : Int), ch, cl, fi, (P.take k).foldl (markP fi) (List.replicate cl.length false))) (fun s => ((P.length : Int) - s.1).toNat) ?_ _ ⟨0, Nat.zero_le _, rfl⟩) ?_
  · rintro _ ⟨k, hk, rfl⟩
    dsimp only
    by_cases hkl : k < P.length
    rotate_left
    · rw [if_neg (by rw [decide_eq_true_eq]; omega)]
      exact .inr ⟨_, rfl, by rw [show k = P.length by omega, List.take_length]⟩
    obtain ⟨a, b, hab, h4, h5⟩ := hPm k hkl
    have hml := foldl_lenB (markP fi) (markP_len _) (P.take k) (List.replicate cl.length false)
    rw [List.length_replicate] at hml
    have hstep : (P.take (k + 1)).foldl (markP fi) (List.replicate cl.length false) = markP fi ((P.take k).foldl (markP fi) (List.replicate cl.length false)) (P.getD k kd) := by
      rw [List.take_add_one, List.getElem?_eq_getElem hkl, List.foldl_append, getD_lt _ _ hkl]; rfl
    generalize (P.take k).foldl (markP fi) (List.replicate cl.length false) = m at *
    rw [hab] at hstep
    have hab' : List.getD P k (List.replicate (2 : Nat) (0 : Int)) = [(a : Int), (b : Int)] := hab
    have hkb : (0 : Int) ≤ (k : Int) ∧ (k : Int) < (P.length : Int) := by omega
    rw [if_pos (by rw [decide_eq_true_eq]; omega), Int.toNat_natCast, hab']
    refine stp_bind (R := fun e => e = (ch, cl, fi, markS fi (markS fi m a) b)) (iter_rule (I := fun (s : Int × List Int × List Int × List Int × List Bool) => s = ((0 : Int), ch, cl, fi, m) ∨ s = ((1 : Int), ch, cl, fi, markS fi m a) ∨ s = ((2 : Int), ch, cl, fi, markS fi (markS fi m a) b)) (fun s => (2 - s.1).toNat) ?_ ((0 : Int), ch, cl, fi, m) (.inl rfl)) ?_
    · rintro _ (rfl | rfl | rfl)
      · dsimp only
        have g0 : List.getD [(a : Int), (b : Int)] (Int.toNat (0 : Int)) (0 : Int) = (a : Int) := rfl
        rw [if_pos (show decide ((0 : Int) < 2) = true from rfl), if_pos hkb, if_pos (by decide), g0, if_pos (by omega), Int.toNat_natCast, wrap_i64 (x := (a : Int) + 1) (by omega) (by omega)]
        obtain ⟨e, q1, rfl⟩ := mark_loop ch cl fi m cl.length a (by omega) hml e2 (by omega)
        refine stp_bind (R := fun e => e = (ch, cl, fi, markS fi m a)) ⟨_, q1, rfl⟩ ?_
        rintro _ rfl
        exact .inl ⟨_, rfl, .inr (.inl rfl), by show (2 - IntKind.i64.wrap ((0 : Int) + 1)).toNat < (2 - (0 : Int)).toNat; decide⟩
      · dsimp only
        have hml2 : (markS fi m a).length = cl.length := by rw [markS_len]; exact hml
        have g1 : List.getD [(a : Int), (b : Int)] (Int.toNat (1 : Int)) (0 : Int) = (b : Int) := rfl
        rw [if_pos (show decide ((1 : Int) < 2) = true from rfl), if_pos hkb, if_pos (by decide), g1, if_pos (by omega), Int.toNat_natCast, wrap_i64 (x := (b : Int) + 1) (by omega) (by omega)]
        obtain ⟨e, q1, rfl⟩ := mark_loop ch cl fi (markS fi m a) cl.length b (by omega) hml2 e2 (by omega)
        refine stp_bind (R := fun e => e = (ch, cl, fi, markS fi (markS fi m a) b)) ⟨_, q1, rfl⟩ ?_
        rintro _ rfl
        exact .inl ⟨_, rfl, .inr (.inr rfl), by show (2 - IntKind.i64.wrap ((1 : Int) + 1)).toNat < (2 - (1 : Int)).toNat; decide⟩
      · exact .inr ⟨_, rfl, rfl⟩
    · rintro _ rfl
      dsimp only
      rw [wrap_i64 (by omega) (by omega)]
      exact .inl ⟨_, rfl, ⟨k + 1, hkl, by rw [hstep]; rfl⟩, by show ((P.length : Int) - ((k : Int) + 1)).toNat < ((P.length : Int) - (k : Int)).toNat; omega⟩
  · rintro _ rfl
    have hml := foldl_lenB (markP fi) (markP_len _) P (List.replicate cl.length false)
    rw [List.length_replicate] at hml
    generalize P.foldl (markP fi) (List.replicate cl.length false) = m at *
    refine bind_ex (Q := fun e => e = Sum.inl ()) (iter_rule (I := fun (s : Int × List Int × List Int × List Int × List Bool) => ∃ i : Nat, i ≤ cl.length ∧ s = ((i : Int), ch, cl, fi, m)) (fun s => ((cl.length : Int) - s.1).toNat) ?_ _ ⟨0, Nat.zero_le _, rfl⟩) ?_
    rotate_left
    · rintro _ rfl; exact ⟨_, rfl, rfl⟩
    rintro _ ⟨i, hi, rfl⟩
    dsimp only
    by_cases hil : i < cl.length
    rotate_left
    · rw [if_neg (by rw [decide_eq_true_eq]; omega)]
      exact .inr ⟨_, rfl, rfl⟩
    obtain ⟨q1, q2⟩ := hgood i
    have b1 : (0 : Int) ≤ (i : Int) ∧ (i : Int) < (m.length : Int) := by omega
    have b2 : (0 : Int) ≤ (i : Int) ∧ (i : Int) < (cl.length : Int) := by omega
    have b3 : (0 : Int) ≤ (i : Int) ∧ (i : Int) < (l.length : Int) := by omega
    rw [if_pos (by rw [decide_eq_true_eq]; omega), wrap_i64 (by omega) (by omega)]
    simp only [if_pos b1, if_pos b2, Int.toNat_natCast]
    suffices hv : ∀ X : Option (Bool × List Int × List Int × List Int × List Bool), X = some (false, ch, cl, fi, m) → (∃ s', (Option.bind X fun v9 => if v9.1 = true then some (Sum.inr (Sum.inr false)) else some (Sum.inl ((i : Int) + 1, v9.2.1, v9.2.2.1, v9.2.2.2.1, v9.2.2.2.2))) = some (.inl s') ∧ (∃ i : Nat, i ≤ cl.length ∧ s' = ((i : Int), ch, cl, fi, m)) ∧ ((cl.length : Int) - s'.1).toNat < ((cl.length : Int) - (i : Int)).toNat) ∨ ∃ e, (Option.bind X fun v9 => if v9.1 = true then some (Sum.inr (Sum.inr false)) else some (Sum.inl ((i : Int) + 1, v9.2.1, v9.2.2.1, v9.2.2.2.1, v9.2.2.2.2))) = some (.inr e) ∧ e = (Sum.inl () : Unit ⊕ Bool) by
      refine hv _ ?_
      by_cases hmi : m.getD i false = true
      · rw [if_neg (by rw [hmi]; simp)]
        rcases q2 with q2 | q2 | q2
        · rw [if_neg (by rw [q2]; simp)]
        · split
          · rw [if_neg (by rw [q2]; decide)]
          · rfl
        · split
          · rw [if_pos (by rw [q2]; decide), q2]; rfl
          · rfl
      · rw [Bool.not_eq_true] at hmi
        rw [if_pos (by rw [hmi]; rfl), if_neg (by rw [q1 hmi]; simp), if_neg (by rw [q1 hmi]; simp)]
    rintro _ rfl
    exact .inl ⟨_, rfl, ⟨i + 1, hil, rfl⟩, by show ((cl.length : Int) - ((i : Int) + 1)).toNat < ((cl.length : Int) - (i : Int)).toNat; omega⟩
end Go.Sx
