/- Token, plain: one step of the reader, and all. -/
import Derived.Test.YtemngcdlgnconaaSxTKf
import Derived.Test.YtemngcdlgnconaaSxTKb
set_option linter.unusedVariables false
set_option linter.unusedSimpArgs false
namespace Go.Sx
noncomputable def Z.stp : RdT ⊕ RdT → Option ((RdT ⊕ RdT) ⊕ (RdT ⊕ (Int × Int))) :=
  fun (s3 : RdT ⊕ RdT) =>
  Sum.elim
    (fun (p4 : RdT) =>
      if decide (p4.snd.fst ≥ (↑(List.length p4.fst) : Int)) = true then some (Sum.inr (Sum.inl (p4.1, p4.snd.1, p4.snd.2)))
      else
        Option.bind
          (if (0 : Int) ≤ p4.snd.fst ∧ p4.snd.fst < (↑(List.length p4.fst) : Int) then
            if (List.getD p4.fst (Int.toNat p4.snd.fst) (0 : Int) == (91 : Int)) = true then
              Option.bind (Z.f64F ((94 : Int), p4.1, IntKind.wrap IntKind.i64 (p4.snd.fst + (1 : Int)), p4.snd.2))
                fun (v5 : Bool × RdT) =>
                if v5.fst = true then
                  Option.bind (Z.f65F (((7 : Int), (1 : Int), (0 : Int), (0 : Int), p4.snd.1), v5.snd.1, v5.snd.snd.1, v5.snd.snd.2))
                    fun (v6 : RdT) => some (Sum.inl (v6.1, v6.snd.1, v6.snd.2))
                else
                  Option.bind (Z.f65F (((7 : Int), (0 : Int), (0 : Int), (0 : Int), p4.snd.1), v5.snd.1, v5.snd.snd.1, v5.snd.snd.2))
                    fun (v6 : RdT) => some (Sum.inl (v6.1, v6.snd.1, v6.snd.2))
            else
              if (List.getD p4.fst (Int.toNat p4.snd.fst) (0 : Int) == (123 : Int)) = true then
                Option.bind (Z.f66F (p4.1, IntKind.wrap IntKind.i64 (p4.snd.fst + (1 : Int)), p4.snd.2))
                  fun (v5 : Int × Int × Bool × RdT ⊕ Int × Int) =>
                  Sum.elim
                    (fun (p6 : Int × Int × Bool × RdT) =>
                      if (!p6.snd.snd.fst) = true then some (Sum.inr (Sum.inl (p4.snd.1, (8 : Int))))
                      else
                        Option.bind (Z.f67F (p4.snd.1, p6.1, p6.snd.1, p6.snd.snd.snd.1, p6.snd.snd.snd.snd.1, p6.snd.snd.snd.snd.2))
                          fun (v7 : RdT) => some (Sum.inr (Sum.inr (v7.1, v7.snd.1, v7.snd.2))))
                    (fun (q6 : Int × Int) => some (Sum.inr (Sum.inl q6))) v5
              else
                Option.bind
                  (if (List.getD p4.fst (Int.toNat p4.snd.fst) (0 : Int) == (63 : Int)) = true then some (true, p4.1, p4.snd.1, p4.snd.2)
                  else
                    if (List.getD p4.fst (Int.toNat p4.snd.fst) (0 : Int) == (42 : Int)) = true then some (true, p4.1, p4.snd.1, p4.snd.2)
                    else some (List.getD p4.fst (Int.toNat p4.snd.fst) (0 : Int) == (43 : Int), p4.1, p4.snd.1, p4.snd.2))
                  fun (v5 : Bool × RdT) =>
                  if v5.fst = true then
                    if (List.getD p4.fst (Int.toNat p4.snd.fst) (0 : Int) == (63 : Int)) = true then
                      Option.bind (Z.f67F (p4.snd.1, (0 : Int), (1 : Int), v5.snd.1, IntKind.wrap IntKind.i64 (v5.snd.snd.fst + (1 : Int)), v5.snd.snd.2))
                        fun (v6 : RdT) => some (Sum.inr (Sum.inr (v6.1, v6.snd.1, v6.snd.2)))
                    else
                      if (List.getD p4.fst (Int.toNat p4.snd.fst) (0 : Int) == (43 : Int)) = true then
                        Option.bind (Z.f67F (p4.snd.1, (1 : Int), (-1 : Int), v5.snd.1, IntKind.wrap IntKind.i64 (v5.snd.snd.fst + (1 : Int)), v5.snd.snd.2))
                          fun (v6 : RdT) => some (Sum.inr (Sum.inr (v6.1, v6.snd.1, v6.snd.2)))
                      else
                        Option.bind (Z.f67F (p4.snd.1, (0 : Int), (-1 : Int), v5.snd.1, IntKind.wrap IntKind.i64 (v5.snd.snd.fst + (1 : Int)), v5.snd.snd.2))
                          fun (v6 : RdT) => some (Sum.inr (Sum.inr (v6.1, v6.snd.1, v6.snd.2)))
                  else
                    Option.bind
                      (if (List.getD p4.fst (Int.toNat p4.snd.fst) (0 : Int) == (46 : Int)) = true then some (true, v5.snd.1, v5.snd.snd.1, v5.snd.snd.2)
                      else
                        if (List.getD p4.fst (Int.toNat p4.snd.fst) (0 : Int) == (40 : Int)) = true then some (true, v5.snd.1, v5.snd.snd.1, v5.snd.snd.2)
                        else
                          if (List.getD p4.fst (Int.toNat p4.snd.fst) (0 : Int) == (41 : Int)) = true then some (true, v5.snd.1, v5.snd.snd.1, v5.snd.snd.2)
                          else some (List.getD p4.fst (Int.toNat p4.snd.fst) (0 : Int) == (124 : Int), v5.snd.1, v5.snd.snd.1, v5.snd.snd.2))
                      fun (v6 : Bool × RdT) =>
                      if v6.fst = true then
                        Option.bind
                          (Z.f68F
                            ({ data := #[(46 : UInt8), (40 : UInt8), (41 : UInt8), (124 : UInt8)] : ByteArray },
                              IntKind.wrap IntKind.u8 (List.getD p4.fst (Int.toNat p4.snd.fst) (0 : Int))))
                          fun (v7 : Int) =>
                          Option.bind
                            (Z.f65F
                              ((IntKind.wrap IntKind.i64 ((2 : Int) + v7), (0 : Int), (0 : Int), (0 : Int), p4.snd.1), v6.snd.1,
                                IntKind.wrap IntKind.i64 (v6.snd.snd.fst + (1 : Int)), v6.snd.snd.2))
                            fun (v8 : RdT) => some (Sum.inr (Sum.inr (v8.1, v8.snd.1, v8.snd.2)))
                      else
                        Option.bind
                          (if (List.getD p4.fst (Int.toNat p4.snd.fst) (0 : Int) == (94 : Int)) = true then some (true, v6.snd.1, v6.snd.snd.1, v6.snd.snd.2)
                          else some (List.getD p4.fst (Int.toNat p4.snd.fst) (0 : Int) == (36 : Int), v6.snd.1, v6.snd.snd.1, v6.snd.snd.2))
                          fun (v7 : Bool × RdT) =>
                          if v7.fst = true then
                            Option.bind
                              (Z.f68F ({ data := #[(94 : UInt8), (36 : UInt8)] : ByteArray }, IntKind.wrap IntKind.u8 (List.getD p4.fst (Int.toNat p4.snd.fst) (0 : Int))))
                              fun (v8 : Int) =>
                              Option.bind
                                (Z.f65F
                                  ((IntKind.wrap IntKind.i64 ((10 : Int) + v8), (0 : Int), (0 : Int), (0 : Int), p4.snd.1), v7.snd.1,
                                    IntKind.wrap IntKind.i64 (v7.snd.snd.fst + (1 : Int)), v7.snd.snd.2))
                                fun (v9 : RdT) => some (Sum.inr (Sum.inr (v9.1, v9.snd.1, v9.snd.2)))
                          else
                            Option.bind (Z.f69F (v7.snd.1, v7.snd.snd.1, v7.snd.snd.2))
                              fun (v8 : TknT × RdT ⊕ Int × Int) =>
                              Sum.elim
                                (fun (p9 : TknT × RdT) =>
                                  Option.bind (Z.f65F (p9.1, p9.snd.1, p9.snd.snd.1, p9.snd.snd.2)) fun (v10 : RdT) =>
                                    some (Sum.inr (Sum.inr (v10.1, v10.snd.1, v10.snd.2))))
                                (fun (q9 : Int × Int) => some (Sum.inr (Sum.inl q9))) v8
          else Option.none)
          fun (v5 : RdT ⊕ Int × Int ⊕ RdT) =>
          Sum.elim (fun (p6 : RdT) => some (Sum.inl (Sum.inr (p6.1, p6.snd.1, p6.snd.2))))
            (fun (q6 : Int × Int ⊕ RdT) =>
              Sum.elim (fun (p7 : Int × Int) => some (Sum.inr (Sum.inr p7)))
                (fun (q7 : RdT) => some (Sum.inl (Sum.inl (q7.1, q7.snd.1, q7.snd.2)))) q6)
            v5)
    (fun (q4 : RdT) =>
      Option.bind (Z.f70F (q4.1, q4.snd.1, q4.snd.2)) fun (v5 : Int ⊕ Int × Int) =>
        Sum.elim
          (fun (p6 : Int) =>
            Option.bind (Z.f64F ((93 : Int), q4.1, q4.snd.1, q4.snd.2)) fun (v7 : Bool × RdT) =>
              if v7.fst = true then
                Option.bind (Z.f65F (((8 : Int), (0 : Int), (0 : Int), (0 : Int), q4.snd.1), v7.snd.1, v7.snd.snd.1, v7.snd.snd.2))
                  fun (v8 : RdT) => some (Sum.inl (Sum.inl (v8.1, v8.snd.1, v8.snd.2)))
              else
                Option.bind (Z.f71F (v7.snd.1, v7.snd.snd.1, v7.snd.snd.2))
                  fun (v8 : TknT × RdT ⊕ Int × Int) =>
                  Sum.elim
                    (fun (p9 : TknT × RdT) =>
                      Option.bind (Z.f65F (p9.1, p9.snd.1, p9.snd.snd.1, p9.snd.snd.2)) fun (v10 : RdT) =>
                        some (Sum.inl (Sum.inr (v10.1, v10.snd.1, v10.snd.2))))
                    (fun (q9 : Int × Int) => some (Sum.inr (Sum.inr q9))) v8)
          (fun (q6 : Int × Int) => some (Sum.inr (Sum.inr q6))) v5)
    s3
theorem iter_first {S E R : Type} (f : S → Option (S ⊕ E)) (s : S) : Option.bind (f s) (fun v => Sum.elim (fun p => iter f p) (fun q => some q) v) = iter f s := by
  cases h : f s with
  | none =>
    symm
    cases hi : iter f s with
    | none => rfl
    | some e =>
      obtain ⟨n, hn⟩ := iter_iff.1 hi
      cases n with
      | zero => cases hn
      | succ n => rw [iterN, h] at hn; cases hn
  | some r =>
    cases r with
    | inl s' => rw [iter_inl h]; rfl
    | inr e => rw [iter_inr h]; rfl
theorem z44_stp (x : RdT) : Z.f44F x = iter Z.stp (.inl x) := by
  have h : Z.f44F x = (iter Z.stp (.inl x)).bind (fun v => Sum.elim (fun p => some (Sum.inl (p.1, p.2.1, p.2.2))) (fun q => some (Sum.inr q)) v) := by
    rw [← iter_first (R := Unit) Z.stp (.inl x)]
    rfl
  rw [h]
  cases iter Z.stp (.inl x) with
  | none => rfl
  | some v => cases v <;> rfl
inductive Nx
  | done
  | err (p : Nat) (e : Int)
  | go (ts : List TknT) (j : Nat) (m : Bool)
def Nx.one : (TknT × Nat) ⊕ (Nat × Int) → Bool → Nx
  | .inl r, m => .go [r.1] r.2 m
  | .inr e, _ => .err e.1 e.2
def Nx.rep (r : List TknT × Nat) : Nx := .go r.1 r.2 false
def outM (l : List Int) (i : Nat) : Nx :=
  match l[i]? with
  | none => .done
  | some c =>
    if c = 91 then (if l[i + 1]? = some 94 then .go [(7, 1, 0, 0, (i : Int))] (i + 2) true else .go [(7, 0, 0, 0, (i : Int))] (i + 1) true)
    else if c = 123 then (match bracesM l (i + 1) with
      | .inr e => .err e.1 e.2
      | .inl r => if r.2.2.1 = false then .err i 8 else .rep (repM l i r.1 r.2.1 r.2.2.2))
    else if c = 63 then .rep (repM l i 0 1 (i + 1))
    else if c = 42 then .rep (repM l i 0 (-1) (i + 1))
    else if c = 43 then .rep (repM l i 1 (-1) (i + 1))
    else if c = 46 then .go [(2, 0, 0, 0, (i : Int))] (i + 1) false
    else if c = 40 then .go [(3, 0, 0, 0, (i : Int))] (i + 1) false
    else if c = 41 then .go [(4, 0, 0, 0, (i : Int))] (i + 1) false
    else if c = 124 then .go [(5, 0, 0, 0, (i : Int))] (i + 1) false
    else if c = 94 then .go [(10, 0, 0, 0, (i : Int))] (i + 1) false
    else if c = 36 then .go [(11, 0, 0, 0, (i : Int))] (i + 1) false
    else .one (singleM l i) false
def clsM (l : List Int) (i : Nat) : Nx :=
  match l[i]? with
  | none => .err i 4
  | some c => if c = 93 then .go [(8, 0, 0, 0, (i : Int))] (i + 1) false else .one (itemM l i) true
def stepM (l : List Int) (m : Bool) (i : Nat) : Nx := if m = true then clsM l i else outM l i
def stOf (m : Bool) (x : RdT) : RdT ⊕ RdT := if m = true then .inr x else .inl x
def nxR (l : List Int) (i : Nat) (t : List TknT) : Nx → (RdT ⊕ RdT) ⊕ (RdT ⊕ (Int × Int))
  | .done => .inr (.inl (l, (i : Int), t))
  | .err p e => .inr (.inr ((p : Int), e))
  | .go ts j m => .inl (stOf m (l, (j : Int), t ++ ts))
section
variable {l : List Int} {i : Nat} {t : List TknT}
theorem idx_any : firstIdx ⟨#[46, 40, 41, 124]⟩ ((46 : Int).toNat.toUInt8) = 0 ∧ firstIdx ⟨#[46, 40, 41, 124]⟩ ((40 : Int).toNat.toUInt8) = 1 ∧ firstIdx ⟨#[46, 40, 41, 124]⟩ ((41 : Int).toNat.toUInt8) = 2 ∧ firstIdx ⟨#[46, 40, 41, 124]⟩ ((124 : Int).toNat.toUInt8) = 3 := by decide +kernel
theorem idx_start : firstIdx ⟨#[94, 36]⟩ ((94 : Int).toNat.toUInt8) = 0 ∧ firstIdx ⟨#[94, 36]⟩ ((36 : Int).toNat.toUInt8) = 1 := by decide +kernel
theorem bracesM_in {r : Int × Int × Bool × Nat} (hi : i ≤ l.length) (h : bracesM l i = .inl r) : i ≤ r.2.2.2 ∧ r.2.2.2 ≤ l.length ∧ (r.2.2.1 = true → (0 ≤ r.1 ∧ r.1 ≤ 20) ∧ r.2.1 ≤ 20 ∧ (r.2.1 ≥ 0 → r.1 ≤ r.2.1)) := by
  unfold bracesM at h
  obtain ⟨⟨d1, d2⟩, d3, d4⟩ := digM_in (l := l) hi
  generalize hq : digM l i = q at d1 d2 d3 d4 h
  obtain ⟨v, s, j⟩ := q
  dsimp only at d1 d2 d3 d4 h
  cases hc : l[j]? with
  | none => rw [hc] at h; cases h
  | some c =>
    have hj : j < l.length := (List.getElem?_eq_some_iff.1 hc).1
    rw [hc] at h
    dsimp only at h
    by_cases hs : s = false
    · rw [if_pos hs] at h; cases h; exact ⟨d3, d4, fun h => by cases h⟩
    · rw [if_neg hs] at h
      by_cases h125 : c = 125
      · rw [if_pos h125] at h
        cases h
        exact ⟨by dsimp only; omega, by dsimp only; omega, fun h => by dsimp only at h ⊢; rw [decide_eq_true_eq] at h; omega⟩
      · rw [if_neg h125] at h
        by_cases h44 : c ≠ 44
        · rw [if_pos h44] at h; cases h; exact ⟨d3, d4, fun h => by cases h⟩
        · rw [if_neg h44] at h
          cases hd : l[j + 1]? with
          | none => rw [hd] at h; cases h
          | some d =>
            have hj1 : j + 1 < l.length := (List.getElem?_eq_some_iff.1 hd).1
            rw [hd] at h
            dsimp only at h
            by_cases g125 : d = 125
            · rw [if_pos g125] at h
              cases h
              exact ⟨by dsimp only; omega, by dsimp only; omega, fun h => by dsimp only at h ⊢; rw [decide_eq_true_eq] at h; omega⟩
            · rw [if_neg g125] at h
              obtain ⟨⟨e1, e2⟩, e3, e4⟩ := digM_in (l := l) (i := j + 1) (by omega)
              generalize hp : digM l (j + 1) = p at e1 e2 e3 e4 h
              obtain ⟨w, s', k⟩ := p
              dsimp only at e1 e2 e3 e4 h
              cases he : l[k]? with
              | none => rw [he] at h; cases h
              | some e =>
                have hk : k < l.length := (List.getElem?_eq_some_iff.1 he).1
                rw [he] at h
                dsimp only at h
                by_cases hs' : s' = false
                · rw [if_pos hs'] at h; cases h; exact ⟨by dsimp only; omega, by dsimp only; omega, fun h => by cases h⟩
                · rw [if_neg hs'] at h
                  by_cases k125 : e ≠ 125
                  · rw [if_pos k125] at h; cases h; exact ⟨by dsimp only; omega, by dsimp only; omega, fun h => by cases h⟩
                  · rw [if_neg k125] at h
                    cases h
                    exact ⟨by dsimp only; omega, by dsimp only; omega, fun h => by dsimp only at h ⊢; rw [Bool.and_eq_true, decide_eq_true_eq, decide_eq_true_eq] at h; omega⟩
theorem stp_cls (hl : l.length ≤ 200) (hi : i ≤ l.length) (ht : t.length ≤ 900) : Z.stp (.inr (l, (i : Int), t)) = some (nxR l i t (clsM l i)) := by
  unfold Z.stp clsM
  simp only [Sum.elim_inr]
  rw [z70_eq hi]
  simp only [Option.bind_some]
  cases hc : l[i]? with
  | none => rfl
  | some c =>
    have hj : i < l.length := (List.getElem?_eq_some_iff.1 hc).1
    simp only [Sum.elim_inl]
    rw [z64_eq 93 (by omega) hi, hc]
    simp only [Option.bind_some, Option.some.injEq]
    by_cases h : c = 93
    · rw [if_pos h, if_pos h]
      simp only [if_true]
      rw [z65_eq _ (by omega)]
      rfl
    · rw [if_neg h, if_neg h]
      simp only [Bool.false_eq_true, if_false]
      rw [z71_eq (by omega) hi]
      simp only [Option.bind_some]
      cases itemM l i with
      | inl r =>
        simp only [Sum.map_inl, Sum.elim_inl]
        rw [z65_eq _ (by omega)]
        rfl
      | inr e => rfl
theorem stp_out (hl : l.length ≤ 200) (hi : i ≤ l.length) (ht : t.length ≤ 900) : Z.stp (.inl (l, (i : Int), t)) = some (nxR l i t (outM l i)) := by
  unfold Z.stp outM
  simp only [Sum.elim_inl]
  by_cases h : i < l.length
  · rw [if_neg (by rw [decide_eq_true_eq]; omega), if_pos (by omega), Int.toNat_natCast, tgetD h, List.getElem?_eq_getElem h]
    have hw : IntKind.i64.wrap ((i : Int) + 1) = ((i + 1 : Nat) : Int) := by rw [wrap_i64 (by omega) (by omega)]; push_cast; rfl
    rw [hw]
    generalize hc : l[i] = c
    dsimp only
    by_cases h91 : c = 91
    · rw [if_pos (by rw [beq_iff_eq]; exact h91), if_pos h91, z64_eq 94 (by omega) (by omega)]
      simp only [Option.bind_some]
      by_cases h94 : l[i + 1]? = some 94
      · rw [if_pos h94, if_pos h94]
        simp only [if_true]
        rw [z65_eq _ (by omega)]
        rfl
      · rw [if_neg h94, if_neg h94]
        simp only [Bool.false_eq_true, if_false]
        rw [z65_eq _ (by omega)]
        rfl
    · rw [if_neg (by rw [beq_iff_eq]; exact h91), if_neg h91]
      by_cases h123 : c = 123
      · rw [if_pos (by rw [beq_iff_eq]; exact h123), if_pos h123, z66_eq (by omega) (by omega)]
        simp only [Option.bind_some]
        cases hb : bracesM l (i + 1) with
        | inr e => rfl
        | inl r =>
          obtain ⟨b1, b2, b3⟩ := bracesM_in (by omega) hb
          obtain ⟨v, w, s, k⟩ := r
          dsimp only at b1 b2 b3
          simp only [Sum.map_inl, Sum.elim_inl]
          cases s with
          | false => rfl
          | true =>
            rw [if_neg (by simp), z67_eq _ _ _ (by omega) b2 ht]
            rfl
      · rw [if_neg (by rw [beq_iff_eq]; exact h123), if_neg h123]
        by_cases h63 : c = 63
        · subst h63
          simp only [BEq.rfl, if_true, Option.bind_some, hw]
          rw [z67_eq _ _ _ (by omega) (by omega) ht]
          rfl
        · by_cases h42 : c = 42
          · subst h42
            simp only [Int.reduceBEq, Int.reduceEq, Bool.false_eq_true, if_false, if_true, Option.bind_some, hw]
            rw [z67_eq _ _ _ (by omega) (by omega) ht]
            rfl
          · by_cases h43 : c = 43
            · subst h43
              simp only [Int.reduceBEq, Int.reduceEq, Bool.false_eq_true, if_false, if_true, Option.bind_some, hw]
              rw [z67_eq _ _ _ (by omega) (by omega) ht]
              rfl
            · have e1 : (c == 63) = false := by rw [beq_eq_false_iff_ne]; exact h63
              have e2 : (c == 42) = false := by rw [beq_eq_false_iff_ne]; exact h42
              have e3 : (c == 43) = false := by rw [beq_eq_false_iff_ne]; exact h43
              simp only [e1, e2, e3, h63, h42, h43, Bool.false_eq_true, if_false, Option.bind_some]
              by_cases h46 : c = 46
              · subst h46
                simp only [Int.reduceBEq, Int.reduceEq, Bool.false_eq_true, if_false, if_true, Option.bind_some, hw, z68_eq]
                rw [wrap_u8 (by omega) (by omega), idx_any.1, z65_eq _ (by omega)]
                rfl
              · by_cases h40 : c = 40
                · subst h40
                  simp only [Int.reduceBEq, Int.reduceEq, Bool.false_eq_true, if_false, if_true, Option.bind_some, hw, z68_eq]
                  rw [wrap_u8 (by omega) (by omega), idx_any.2.1, z65_eq _ (by omega)]
                  rfl
                · by_cases h41 : c = 41
                  · subst h41
                    simp only [Int.reduceBEq, Int.reduceEq, Bool.false_eq_true, if_false, if_true, Option.bind_some, hw, z68_eq]
                    rw [wrap_u8 (by omega) (by omega), idx_any.2.2.1, z65_eq _ (by omega)]
                    rfl
                  · by_cases h124 : c = 124
                    · subst h124
                      simp only [Int.reduceBEq, Int.reduceEq, Bool.false_eq_true, if_false, if_true, Option.bind_some, hw, z68_eq]
                      rw [wrap_u8 (by omega) (by omega), idx_any.2.2.2, z65_eq _ (by omega)]
                      rfl
                    · have e4 : (c == 46) = false := by rw [beq_eq_false_iff_ne]; exact h46
                      have e5 : (c == 40) = false := by rw [beq_eq_false_iff_ne]; exact h40
                      have e6 : (c == 41) = false := by rw [beq_eq_false_iff_ne]; exact h41
                      have e7 : (c == 124) = false := by rw [beq_eq_false_iff_ne]; exact h124
                      simp only [e4, e5, e6, e7, h46, h40, h41, h124, Bool.false_eq_true, if_false, Option.bind_some]
                      by_cases h94 : c = 94
                      · subst h94
                        simp only [Int.reduceBEq, Int.reduceEq, Bool.false_eq_true, if_false, if_true, Option.bind_some, hw, z68_eq]
                        rw [wrap_u8 (by omega) (by omega), idx_start.1, z65_eq _ (by omega)]
                        rfl
                      · by_cases h36 : c = 36
                        · subst h36
                          simp only [Int.reduceBEq, Int.reduceEq, Bool.false_eq_true, if_false, if_true, Option.bind_some, hw, z68_eq]
                          rw [wrap_u8 (by omega) (by omega), idx_start.2, z65_eq _ (by omega)]
                          rfl
                        · have e8 : (c == 94) = false := by rw [beq_eq_false_iff_ne]; exact h94
                          have e9 : (c == 36) = false := by rw [beq_eq_false_iff_ne]; exact h36
                          simp only [e8, e9, h94, h36, Bool.false_eq_true, if_false, Option.bind_some]
                          rw [z69_eq (by omega) hi]
                          simp only [Option.bind_some]
                          cases singleM l i with
                          | inl r =>
                            simp only [Sum.map_inl, Sum.elim_inl]
                            rw [z65_eq _ (by omega)]
                            rfl
                          | inr e => rfl
  · rw [if_pos (by rw [decide_eq_true_eq]; omega), List.getElem?_eq_none (by omega)]
    rfl
theorem stp_eq (m : Bool) (hl : l.length ≤ 200) (hi : i ≤ l.length) (ht : t.length ≤ 900) : Z.stp (stOf m (l, (i : Int), t)) = some (nxR l i t (stepM l m i)) := by
  cases m with
  | true => exact stp_cls hl hi ht
  | false => exact stp_out hl hi ht
end
end Go.Sx
