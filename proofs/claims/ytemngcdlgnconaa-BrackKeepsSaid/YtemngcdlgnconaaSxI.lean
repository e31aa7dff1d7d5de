/- The symbolic evaluator, part I: what becomes of objects; an own array that is frozen. -/
import Derived.Test.YtemngcdlgnconaaSxH
set_option linter.unusedVariables false
set_option linter.unusedSimpArgs false
namespace Go.Sx
open Go.RowKit

section
variable {R : Type} {r : R} {P : Program} {C : Ctx} {B : Base} {E : Env} {fr : List SV} {hp : List HO} {a : Act} {w w' : World} {o : Oper} {k : SV → Option R}

theorem Base.ok_grown {T : Option Nat} (h : B.ok w) (k : w.grownBy w' T) (hT : ∀ b, T = some b → B.w0.heap.size ≤ b ∨ B.W b) : B.ok w' :=
  ⟨k.os.trans h.os, k.tape.trans h.tape, k.output.trans h.output, Nat.le_trans h.size k.size, fun i hi hn =>
    (k.block i (Nat.lt_of_lt_of_le hi h.size) (fun e => by
      rcases hT i e.symm with h1 | h1
      · omega
      · exact hn h1)).trans (h.block i hi hn)⟩

theorem agrees_grown {M : Mem} {T : Option Nat} (h : M.agrees w) (k : w.grownBy w' T) (hT : ∀ b, T = some b → M b = none) : M.agrees w' := fun b c hb => by
  obtain ⟨U, f, hh⟩ := h b c hb
  refine ⟨U, f, ?_⟩
  rw [k.block b (lt_of_some hh) (fun e => by rw [hT b e.symm] at hb; cases hb)]
  exact hh

theorem get_snoc {α : Type} {l : List α} {x y : α} {i : Nat} (h : (l ++ [x])[i]? = some y) : (l[i]? = some y ∧ i < l.length) ∨ (i = l.length ∧ y = x) := by
  rcases Nat.lt_trichotomy i l.length with hi | hi | hi
  · rw [List.getElem?_append_left hi] at h; exact .inl ⟨h, hi⟩
  · subst hi
    simp at h
    exact .inr ⟨rfl, h.symm⟩
  · rw [List.getElem?_eq_none (by simp; omega)] at h; cases h

/-- A block that no live object has, and that isn't frozen, may be turned. -/
structure MayTurn (B : Base) (E : Env) (hp : List HO) (b : Nat) : Prop where
  base : B.w0.heap.size ≤ b ∨ B.W b
  mem : E.M b = none
  obj : ∀ (j : Nat) (o : HO) (e : LE), hp[j]? = some o → o.live = true → E.L[j]? = some e → e.blk ≠ some b

def Env.snoc (E : Env) (e : LE) : Env := ⟨E.M, E.L ++ [e]⟩
theorem Env.le_snoc (E : Env) (e : LE) : E.le (E.snoc e) := ⟨Mem.le_refl _, fun i x h => by
  have hi : i < E.L.length := (List.getElem?_eq_some_iff.1 h).1
  show (E.L ++ [e])[i]? = some x
  rw [List.getElem?_append_left hi]; exact h⟩

/-- One object more. -/
theorem Hp.push (h : Hp B E hp w) {T : Option Nat} (k : w.grownBy w' T) (hT : ∀ b, T = some b → MayTurn B E hp b) {o' : HO} {e' : LE} (he : ∀ b, e'.blk = some b → w.heap.size ≤ b ∨ T = some b)
    (hs : o'.sat (E.snoc e') w' e') : Hp B (E.snoc e') (hp ++ [o']) w' where
  ag := agrees_grown h.ag k fun b hb => (hT b hb).mem
  base := h.base
  fresh := h.fresh
  ok := Base.ok_grown h.ok k fun b hb => (hT b hb).base
  len := by simp [Env.snoc, h.len]
  free := fun i o e b h1 h2 h3 h4 => by
    have hl := h.len
    rcases get_snoc h1 with ⟨p1, q1⟩ | ⟨q1, s1⟩ <;> rcases get_snoc h3 with ⟨p3, q3⟩ | ⟨q3, s3⟩
    · exact h.free i o e b p1 h2 p3 h4
    · omega
    · omega
    · subst s3
      rcases he b h4 with h5 | h5
      · refine ⟨?_, .inl (Nat.le_trans h.ok.size h5)⟩
        show E.M b = none
        cases hm : E.M b with
        | none => rfl
        | some c => have := Mem.agrees_lt h.ag hm; omega
      · exact ⟨(hT b h5).mem, (hT b h5).base⟩
  dist := fun i j o1 o2 e1 e2 b h1 h2 h3 h4 h5 h6 h7 h8 => by
    have key : ∀ {i : Nat} {o : HO} {e : LE}, hp[i]? = some o → o.live = true → E.L[i]? = some e → e.blk = some b → e'.blk = some b → False := by
      intro i o e g1 g2 g3 g4 g5
      rcases he b g5 with h9 | h9
      · have := HO.sat_lt g2 (h.ob i o e g1 g3) g4; omega
      · exact (hT b h9).obj i o e g1 g2 g3 g4
    have hl := h.len
    rcases get_snoc h1 with ⟨p1, l1⟩ | ⟨l1, s1⟩ <;> rcases get_snoc h3 with ⟨p3, l3⟩ | ⟨l3, s3⟩ <;> rcases get_snoc h5 with ⟨p5, l5⟩ | ⟨l5, s5⟩ <;> rcases get_snoc h6 with ⟨p6, l6⟩ | ⟨l6, s6⟩ <;> try omega
    · exact h.dist i j o1 o2 e1 e2 b p1 h2 p3 h4 p5 p6 h7 h8
    · exact (key p1 h2 p5 h7 (s6 ▸ h8)).elim
    · exact (key p3 h4 p6 h8 (s5 ▸ h7)).elim
  ob := fun i o e h1 h2 => by
    have hl := h.len
    rcases get_snoc h1 with ⟨p1, l1⟩ | ⟨l1, s1⟩ <;> rcases get_snoc h2 with ⟨p2, l2⟩ | ⟨l2, s2⟩
    · refine HO.sat_keep (Env.le_snoc E e') (h.ob i o e p1 p2) fun b hlv hb => ?_
      exact k.block b (HO.sat_lt hlv (h.ob i o e p1 p2) hb) (fun e1 => (hT b e1.symm).obj i o e p1 hlv p2 hb)
    · omega
    · omega
    · rw [s1, s2]; exact hs

/-- An object is let go. -/
theorem Hp.dropTo (h : Hp B E hp w) (i : Nat) {o' : HO} (hl : o'.live = false) (hs : ∀ e, E.L[i]? = some e → o'.sat E w e) : Hp B E (hp.set i o') w where
  ag := h.ag
  base := h.base
  fresh := h.fresh
  ok := h.ok
  len := by simp [h.len]
  free := fun j o e b h1 h2 h3 h4 => by
    rw [List.getElem?_set] at h1
    split at h1
    · split at h1
      · cases h1; rw [hl] at h2; cases h2
      · cases h1
    · exact h.free j o e b h1 h2 h3 h4
  dist := fun i1 j o1 o2 e1 e2 b h1 h2 h3 h4 h5 h6 h7 h8 => by
    rw [List.getElem?_set] at h1 h3
    split at h1
    · split at h1
      · cases h1; rw [hl] at h2; cases h2
      · cases h1
    · split at h3
      · split at h3
        · cases h3; rw [hl] at h4; cases h4
        · cases h3
      · exact h.dist i1 j o1 o2 e1 e2 b h1 h2 h3 h4 h5 h6 h7 h8
  ob := fun j o e h1 h2 => by
    rw [List.getElem?_set] at h1
    split at h1
    · rename_i hij
      split at h1
      · cases h1; subst hij; exact hs e h2
      · cases h1
    · exact h.ob j o e h1 h2

theorem Hp.drop (h : Hp B E hp w) (i : Nat) : Hp B E (hp.set i .gone) w := h.dropTo i rfl fun _ _ => trivial

/-- The block of an object that is let go may be turned. -/
theorem Hp.mayTurn (h : Hp B E hp w) {i : Nat} {o : HO} {e : LE} {b : Nat} (h1 : hp[i]? = some o) (h2 : o.live = true) (h3 : E.L[i]? = some e) (h4 : e.blk = some b) : MayTurn B E (hp.set i .gone) b where
  base := (h.free i o e b h1 h2 h3 h4).2
  mem := (h.free i o e b h1 h2 h3 h4).1
  obj := fun j o' e' g1 g2 g3 g4 => by
    rw [List.getElem?_set] at g1
    split at g1
    · split at g1
      · cases g1; simp [HO.live] at g2
      · cases g1
    · rename_i hne
      exact hne (h.dist i j o o' e e' b h1 h2 g1 g2 h3 g3 h4 g4)

/-- An object's content turned, its block as it was. -/
theorem Hp.turn (h : Hp B E hp w) {i : Nat} {o o' : HO} {e : LE} {b : Nat} (h1 : hp[i]? = some o) (h2 : o.live = true) (h3 : E.L[i]? = some e) (h4 : e.blk = some b) (k : w.grownBy w' (some b)) (hs : o'.sat E w' e) :
    Hp B E (hp.set i o') w' where
  ag := agrees_grown h.ag k fun b' hb => by cases hb; exact (h.free i o e b h1 h2 h3 h4).1
  base := h.base
  fresh := h.fresh
  ok := Base.ok_grown h.ok k fun b' hb => by cases hb; exact (h.free i o e b h1 h2 h3 h4).2
  len := by simp [h.len]
  free := fun j o1 e1 b1 g1 g2 g3 g4 => by
    rw [List.getElem?_set] at g1
    split at g1
    · split at g1
      · cases g1
        rename_i hij _
        subst hij
        rw [h3] at g3
        cases g3
        exact h.free i o e b1 h1 h2 h3 g4
      · cases g1
    · exact h.free j o1 e1 b1 g1 g2 g3 g4
  dist := fun i1 j o1 o2 e1 e2 b1 g1 g2 g3 g4 g5 g6 g7 g8 => by
    have key : ∀ {m : Nat} {om : HO}, (hp.set i o')[m]? = some om → om.live = true → ∃ om', hp[m]? = some om' ∧ om'.live = true := by
      intro m om hm hl
      rw [List.getElem?_set] at hm
      split at hm
      · rename_i him
        subst him
        exact ⟨o, h1, h2⟩
      · exact ⟨om, hm, hl⟩
    obtain ⟨p1, q1, q2⟩ := key g1 g2
    obtain ⟨p2, q3, q4⟩ := key g3 g4
    exact h.dist i1 j p1 p2 e1 e2 b1 q1 q2 q3 q4 g5 g6 g7 g8
  ob := fun j o1 e1 g1 g2 => by
    rw [List.getElem?_set] at g1
    split at g1
    · split at g1
      · cases g1
        rename_i hij _
        subst hij
        rw [h3] at g2
        cases g2
        exact hs
      · cases g1
    · rename_i hij
      refine HO.sat_keep (Env.le_refl E) (h.ob j o1 e1 g1 g2) fun b1 hl hb => ?_
      refine k.block b1 (HO.sat_lt hl (h.ob j o1 e1 g1 g2) hb) (fun eb => hij ?_)
      cases eb
      exact h.dist i j o o1 e e1 b h1 h2 g1 hl h3 g2 h4 hb

theorem takeO_length {α : Type} (xs : List α) (len : Option Nat) (h : len.getD xs.length ≤ xs.length) : (takeO xs len).length = len.getD xs.length := by
  cases len with
  | none => rfl
  | some n => simp only [takeO, List.length_take, Option.getD_some] at *; omega

/-- An own array is frozen: then it is data. -/
theorem Hp.freeze (h : Hp B E hp w) {i : Nat} {T : TypeId} {t : Ty} {xs : List t.den} {len : Option Nat} {v : Value} (h1 : hp[i]? = some (.arr T t xs)) (hs : SV.sat E (.own i len) v) :
    ∃ E' : Env, E.le E' ∧ E'.L = E.L ∧ Hp B E' (hp.set i (.fro t xs)) w ∧ ∃ cs, Rep E'.M (.sl t) (takeO xs len) cs ∧ v = valOf (.sl t) cs := by
  simp only [SV.sat] at hs
  obtain ⟨e, e1, e2, e3⟩ := hs
  have hob := h.ob _ _ _ h1 e1
  obtain ⟨g1, g2, g3, g4, g5⟩ := hob
  have hd := h.drop i
  have hlen : (takeO xs len).length = len.getD e.len := by
    rw [takeO_length xs len (by rw [g1]; exact e2), g1]
  cases hb : e.blk with
  | none =>
    have := g4 hb
    have hnil : xs = [] := List.eq_nil_of_length_eq_zero (by omega)
    refine ⟨E, Env.le_refl E, rfl, h.dropTo i rfl (fun e' he' => ?_), _, ⟨e.addr, e.cap, rfl, by omega, .inl (List.eq_nil_of_length_eq_zero (by omega))⟩, by rw [e3, hlen]; rfl⟩
    rw [e1] at he'
    cases he'
    exact ⟨g1, g2, .inl hnil⟩
  | some b =>
    obtain ⟨c, d, post, f1, f2, f3, f4⟩ := g5 b hb
    obtain ⟨hm, hbase⟩ := h.free _ _ _ _ h1 rfl e1 hb
    let M' : Mem := fun j => if j = b then some c else E.M j
    have hle : E.M.le M' := fun j c' hj => by
      show (if j = b then some c else E.M j) = some c'
      split
      · rename_i hjb; subst hjb; rw [hm] at hj; cases hj
      · exact hj
    have hEle : E.le ⟨M', E.L⟩ := ⟨hle, fun _ _ hh => hh⟩
    have hmt := h.mayTurn h1 rfl e1 hb
    have hgone : Hp B ⟨M', E.L⟩ (hp.set i .gone) w := {
      ag := fun j c' hj => by
        change (if j = b then some c else E.M j) = some c' at hj
        split at hj
        · rename_i hjb; subst hjb; cases hj; exact ⟨T, _, f1⟩
        · exact h.ag j c' hj
      base := Mem.le_trans h.base hle
      fresh := fun j c' hj => by
        change (if j = b then some c else E.M j) = some c' at hj
        split at hj
        · rename_i hjb; subst hjb; exact .inr hbase
        · exact h.fresh j c' hj
      ok := h.ok
      len := hd.len
      free := fun j o' e' b' k1 k2 k3 k4 => by
        obtain ⟨k5, k6⟩ := hd.free j o' e' b' k1 k2 k3 k4
        refine ⟨?_, k6⟩
        show (if b' = b then some c else E.M b') = none
        rw [if_neg (fun (hbb : b' = b) => hmt.obj j o' e' k1 k2 k3 (by rw [k4, hbb]))]
        exact k5
      dist := hd.dist
      ob := fun j o' e' k1 k2 => HO.sat_keep hEle (hd.ob j o' e' k1 k2) fun _ _ _ => rfl }
    have hfro : (HO.fro t xs).sat ⟨M', E.L⟩ w e :=
      ⟨g1, g2, .inr ⟨b, d, hb, ⟨c, [], post, by simp [M'], by rw [f2]; simp, rfl⟩, RepL_mono (fun x cs hx => Rep_mono hle t x cs hx) f3⟩⟩
    refine ⟨⟨M', E.L⟩, hEle, rfl, ?_, ?_⟩
    · have := hgone.dropTo i (o' := .fro t xs) rfl (fun e' he' => by
        rw [show E.L[i]? = some e' from he'] at e1
        cases e1
        exact hfro)
      rwa [List.set_set] at this
    · obtain ⟨c1, d1, p1, p2, p3, p4⟩ := RepL_take (Rep_length t) (len.getD e.len) f3
      have htk : takeO xs len = xs.take (len.getD e.len) := by
        cases len with
        | none => simp [takeO, ← g1]
        | some n => rfl
      refine ⟨_, ⟨e.addr, e.cap, rfl, by rw [hlen]; omega, .inr ⟨b, 0, c1, by simp [LE.addr, hb], ⟨c, [], d1 ++ post, by simp [M'], by rw [f2, p1]; simp, rfl⟩, ?_⟩⟩, by rw [e3, hlen]; rfl⟩
      rw [htk]
      exact RepL_mono (fun x cs hx => Rep_mono hle t x cs hx) p2

/-- What is frozen is data. -/
theorem fro_data (h : Hp B E hp w) {i : Nat} {t : Ty} {xs : List t.den} {len : Option Nat} {v : Value} (h1 : hp[i]? = some (.fro t xs)) (hs : SV.sat E (.own i len) v) :
    ∃ cs, Rep E.M (.sl t) (takeO xs len) cs ∧ v = valOf (.sl t) cs := by
  simp only [SV.sat] at hs
  obtain ⟨e, e1, e2, e3⟩ := hs
  obtain ⟨g1, g2, g3⟩ := h.ob _ _ _ h1 e1
  have hlen : (takeO xs len).length = len.getD e.len := by
    rw [takeO_length xs len (by rw [g1]; exact e2), g1]
  have htk : takeO xs len = xs.take (len.getD e.len) := by
    cases len with
    | none => simp [takeO, ← g1]
    | some n => rfl
  rcases g3 with rfl | ⟨b, d, hb, ⟨c, pre, post, m1, m2, m3⟩, f3⟩
  · refine ⟨_, ⟨e.addr, e.cap, rfl, by rw [hlen]; omega, .inl (by rw [htk]; simp)⟩, by rw [e3, hlen]; rfl⟩
  · obtain ⟨c1, d1, p1, p2, p3, p4⟩ := RepL_take (Rep_length t) (len.getD e.len) f3
    refine ⟨_, ⟨e.addr, e.cap, rfl, by rw [hlen]; omega, .inr ⟨b, 0, c1, by simp [LE.addr, hb], ⟨c, pre, d1 ++ post, m1, by rw [m2, p1]; simp, m3⟩, ?_⟩⟩, by rw [e3, hlen]; rfl⟩
    rw [htk]
    exact p2

theorem froK_some {k : SV → Option R} {v : Value} : ∀ {hp0 : List HO} {n i : Nat} {len : Option Nat}, froK hp0 n i len k = some r → (∀ o, hp0[n]? = some o → hp[i]? = some o) → Hp B E hp w → SV.sat E (.own i len) v → ∃ s, s.sat E v ∧ k s = some r
  | [], n, i, len, h, _, hh, hs => by
    cases n <;> exact ⟨_, hs, h⟩
  | o :: l, n + 1, i, len, h, hn, hh, hs => froK_some (hp0 := l) (n := n) (by cases o <;> exact h) (fun o' ho => hn o' (by simpa using ho)) hh hs
  | o :: l, 0, i, len, h, hn, hh, hs => by
    have h1 := hn o (by simp)
    cases o with
    | fro t xs =>
      obtain ⟨cs, c1, c2⟩ := fro_data hh h1 hs
      exact ⟨.val (.sl t) (takeO xs len), by simp only [SV.sat]; exact ⟨cs, c1, c2⟩, h⟩
    | gone => exact ⟨_, hs, h⟩
    | cells _ => exact ⟨_, hs, h⟩
    | arr _ _ _ => exact ⟨_, hs, h⟩
    | frs _ _ => exact ⟨_, hs, h⟩
    | map _ _ _ => exact ⟨_, hs, h⟩

theorem frs_data (h : Hp B E hp w) {i : Nat} {t : Ty} {x : t.den} {v : Value} (h1 : hp[i]? = some (.frs t x)) (hs : SV.sat E (.ptr i 0) v) : SV.sat E (.ro t x) v := by
  simp only [SV.sat] at hs ⊢
  obtain ⟨e, b, e1, e2, e3⟩ := hs
  obtain ⟨b', c, g1, g2, g3⟩ := h.ob _ _ _ h1 e1
  rw [e2] at g1
  cases g1
  exact ⟨b, 0, c.toList, e3, ⟨c, [], [], g2, by simp, rfl⟩, g3⟩

theorem frsK_some {k : SV → Option R} {v : Value} : ∀ {hp0 : List HO} {n i off : Nat}, frsK hp0 n i off k = some r → (∀ o, hp0[n]? = some o → hp[i]? = some o) → Hp B E hp w → SV.sat E (.ptr i off) v → ∃ s, s.sat E v ∧ k s = some r
  | [], n, i, off, h, _, hh, hs => by
    cases n <;> exact ⟨_, hs, h⟩
  | o :: l, n + 1, i, off, h, hn, hh, hs => frsK_some (hp0 := l) (n := n) (by cases o <;> exact h) (fun o' ho => hn o' (by simpa using ho)) hh hs
  | o :: l, 0, i, off, h, hn, hh, hs => by
    have h1 := hn o (by simp)
    cases o with
    | frs t x =>
      unfold frsK at h
      cases ho : Nat.beq off 0 with
      | false => rw [ho] at h; exact ⟨_, hs, h⟩
      | true =>
        rw [ho] at h
        have := Nat.eq_of_beq_eq_true ho
        subst this
        exact ⟨_, frs_data hh h1 hs, h⟩
    | gone => exact ⟨_, hs, h⟩
    | cells _ => exact ⟨_, hs, h⟩
    | arr _ _ _ => exact ⟨_, hs, h⟩
    | fro _ _ => exact ⟨_, hs, h⟩
    | map _ _ _ => exact ⟨_, hs, h⟩

theorem thawS_some {s : SV} {k : SV → Option R} {v : Value} (hh : Hp B E hp w) (hs : s.sat E v) (h : thawS hp s k = some r) : ∃ s', s'.sat E v ∧ k s' = some r := by
  unfold thawS at h
  split at h
  case h_1 id len => exact froK_some h (fun _ h => h) hh hs
  case h_2 id off => exact frsK_some h (fun _ h => h) hh hs
  case h_3 => exact ⟨s, hs, h⟩

theorem thawL_some : ∀ {fr : List SV} {vs : List Value} {k : List SV → Option R}, Hp B E hp w → SV.satL E fr vs → thawL hp fr k = some r → ∃ fr', SV.satL E fr' vs ∧ k fr' = some r
  | [], vs, k, hh, hs, h => ⟨[], hs, h⟩
  | s :: l, vs, k, hh, hs, h => by
    simp only [SV.satL] at hs
    obtain ⟨v, ws, rfl, h1, h2⟩ := hs
    unfold thawL at h
    obtain ⟨s', h3, h⟩ := thawS_some hh h1 h
    obtain ⟨l', h4, h⟩ := thawL_some hh h2 h
    exact ⟨s' :: l', by simp only [SV.satL]; exact ⟨v, ws, rfl, h3, h4⟩, h⟩

theorem thawK_some {fr : List SV} {vs : List Value} {k : List SV → Option R} (hh : Hp B E hp w) (hs : SV.satL E fr vs) (h : thawK hp fr k = some r) : ∃ fr', SV.satL E fr' vs ∧ k fr' = some r := by
  unfold thawK at h
  cases hb : hasFro hp with
  | true => rw [hb] at h; exact thawL_some hh hs h
  | false => rw [hb] at h; exact ⟨fr, hs, h⟩

/-- What freezing leaves. -/
structure Frz (B : Base) (E E' : Env) (hp hp' : List HO) (w : World) : Prop where
  le : E.le E'
  L : E'.L = E.L
  heap : Hp B E' hp' w
  len : hp'.length = hp.length
  obj : ∀ i : Nat, hp'[i]? = hp[i]? ∨ ∃ o, hp'[i]? = some o ∧ o.live = false

theorem Frz.refl (h : Hp B E hp w) : Frz B E E hp hp w := ⟨Env.le_refl E, rfl, h, rfl, fun _ => .inl rfl⟩
theorem Frz.trans {E' E'' : Env} {hp' hp'' : List HO} (h : Frz B E E' hp hp' w) (k : Frz B E' E'' hp' hp'' w) : Frz B E E'' hp hp'' w :=
  ⟨Env.le_trans h.le k.le, k.L.trans h.L, k.heap, k.len.trans h.len, fun i => by
    rcases k.obj i with h1 | h1
    · rcases h.obj i with h2 | ⟨o, h2, h3⟩
      · exact .inl (h1.trans h2)
      · exact .inr ⟨o, h1.trans h2, h3⟩
    · exact .inr h1⟩

theorem oneF_some {t : Ty} {s : SV} {v : Value} {k : t.den → List HO → Option R} (hh : Hp B E hp w) (hs : s.sat E v) (h : oneF t s hp k = some r) :
    ∃ E' hp' x, Frz B E E' hp hp' w ∧ (∃ cs, Rep E'.M t x cs ∧ v = valOf t cs) ∧ k x hp' = some r := by
  unfold oneF at h
  split at h
  case h_1 t' x =>
    split at h
    case isTrue ht =>
      subst ht
      simp only [SV.sat] at hs
      exact ⟨E, hp, x, Frz.refl hh, hs, h⟩
    case isFalse => cases h
  case h_2 b =>
    split at h
    case h_1 => exact ⟨E, hp, b, Frz.refl hh, ⟨[.bool b], rfl, by simp only [SV.sat] at hs; rw [hs]; rfl⟩, h⟩
    case h_2 => cases h
  case h_3 =>
    split at h
    case h_1 e k => exact ⟨E, hp, [], Frz.refl hh, ⟨[.slice none 0 0], ⟨none, 0, rfl, by simp, .inl rfl⟩, by simp only [SV.sat] at hs; rw [hs]; rfl⟩, h⟩
    case h_2 => cases h
  case h_4 =>
    split at h
    case h_1 e k =>
      simp only [SV.sat] at hs
      obtain ⟨ad, hv⟩ := hs
      exact ⟨E, hp, [], Frz.refl hh, ⟨[.slice ad 0 0], ⟨ad, 0, rfl, by simp, .inl rfl⟩, by rw [hv]; rfl⟩, h⟩
    case h_2 => cases h
  case h_5 id len =>
    split at h
    case h_1 e k =>
      replace h := nthK_some h; obtain ⟨ob, h1, h⟩ := h
      split at h
      case h_1 T e' xs =>
        split at h
        case isTrue he =>
          subst he
          rw [setK_eq] at h
          obtain ⟨E', f1, f2, f3, f4⟩ := hh.freeze h1 hs
          exact ⟨E', _, _, ⟨f1, f2, f3, by simp, fun i => by
            rw [List.getElem?_set]
            split
            · rename_i hi
              subst hi
              have := (List.getElem?_eq_some_iff.1 h1).1
              exact .inr ⟨.fro _ xs, by simp [this], rfl⟩
            · exact .inl rfl⟩, f4, h⟩
        case isFalse => cases h
      case h_2 e' xs =>
        split at h
        case isTrue he =>
          subst he
          exact ⟨E, hp, _, Frz.refl hh, fro_data hh h1 hs, h⟩
        case isFalse => cases h
      case h_3 => cases h
    case h_2 => cases h
  case h_6 => cases h

theorem cellsN_some {α : Type} {Rr : Mem → α → List Value → Prop} {E0 : Env}
    (hmono : ∀ {M M' : Mem}, M.le M' → ∀ x cs, Rr M x cs → Rr M' x cs)
    {step : List SV → List HO → (α → List SV → List HO → Option R) → Option R}
    (hstep : ∀ {E : Env} {l : List SV} {vs : List Value} {hp : List HO} {k : α → List SV → List HO → Option R}, Hp B E hp w → SV.satL E l vs → step l hp k = some r →
      ∃ E' hp' x l' c ws, Frz B E E' hp hp' w ∧ vs = c ++ ws ∧ Rr E'.M x c ∧ SV.satL E' l' ws ∧ k x l' hp' = some r) :
    ∀ {n : Nat} {E : Env} {l : List SV} {vs : List Value} {hp : List HO} {k : List α → List SV → List HO → Option R}, Hp B E hp w → SV.satL E l vs → cellsN step n l hp k = some r →
      ∃ E' hp' xs l' c ws, Frz B E E' hp hp' w ∧ vs = c ++ ws ∧ xs.length = n ∧ RepL (Rr E'.M) xs c ∧ SV.satL E' l' ws ∧ k xs l' hp' = some r
  | 0, E, l, vs, hp, k, hh, hl, h => ⟨E, hp, [], l, [], vs, Frz.refl hh, rfl, rfl, rfl, hl, h⟩
  | n + 1, E, l, vs, hp, k, hh, hl, h => by
    unfold cellsN at h
    obtain ⟨E1, hp1, x, l1, c, ws, f1, e1, r1, s1, h⟩ := hstep hh hl h
    obtain ⟨E2, hp2, xs, l2, c2, ws2, f2, e2, n2, r2, s2, h⟩ := cellsN_some (E0 := E0) hmono hstep f1.heap s1 h
    exact ⟨E2, hp2, x :: xs, l2, c ++ c2, ws2, f1.trans f2, by rw [e1, e2]; simp, by simp [n2], ⟨c, c2, rfl, hmono f2.le.1 x c r1, r2⟩, s2, h⟩

theorem cellsF_some : ∀ {t : Ty} {E : Env} {l : List SV} {vs : List Value} {hp : List HO} {k : t.den → List SV → List HO → Option R}, Hp B E hp w → SV.satL E l vs → cellsF t l hp k = some r →
    ∃ E' hp' x l' c ws, Frz B E E' hp hp' w ∧ vs = c ++ ws ∧ Rep E'.M t x c ∧ SV.satL E' l' ws ∧ k x l' hp' = some r := by
  have one : ∀ {t : Ty} (_ : t.one = true) {E : Env} {s : SV} {l : List SV} {vs : List Value} {hp : List HO} {k : t.den → List SV → List HO → Option R}, Hp B E hp w → SV.satL E (s :: l) vs → (oneF t s hp fun x hp => k x l hp) = some r →
      ∃ E' hp' x l' c ws, Frz B E E' hp hp' w ∧ vs = c ++ ws ∧ Rep E'.M t x c ∧ SV.satL E' l' ws ∧ k x l' hp' = some r := by
    intro t ht E s l vs hp k hh hl h
    simp only [SV.satL] at hl
    obtain ⟨v, ws, e, hs, hl⟩ := hl
    obtain ⟨E', hp', x, f, ⟨cs, r1, r2⟩, h⟩ := oneF_some hh hs h
    have hlen := Rep_length _ _ _ r1
    rw [Ty.size_one ht] at hlen
    obtain ⟨u, rfl⟩ : ∃ u, cs = [u] := by
      match cs, hlen with
      | [u], _ => exact ⟨u, rfl⟩
    have : v = u := by rw [r2, valOf, Ty.one_not_agg ht]; rfl
    subst this
    exact ⟨E', hp', x, l, [v], ws, f, by simpa using e, r1, SV.satL_mono f.le l ws hl, h⟩
  intro t
  induction t with
  | pair a b iha ihb =>
    intro E l vs hp k hh hl h
    unfold cellsF at h
    obtain ⟨E1, hp1, x, l1, c, ws, f1, e1, r1, s1, h⟩ := iha hh hl h
    obtain ⟨E2, hp2, y, l2, c2, ws2, f2, e2, r2, s2, h⟩ := ihb f1.heap s1 h
    exact ⟨E2, hp2, (x, y), l2, c ++ c2, ws2, f1.trans f2, by rw [e1, e2]; simp, ⟨c, c2, rfl, Rep_mono f2.le.1 a x c r1, r2⟩, s2, h⟩
  | unit =>
    intro E l vs hp k hh hl h
    unfold cellsF at h
    exact ⟨E, hp, (), l, [], vs, Frz.refl hh, rfl, rfl, hl, h⟩
  | st f ih =>
    intro E l vs hp k hh hl h
    unfold cellsF at h
    exact ih hh hl h
  | arr n e ih =>
    intro E l vs hp k hh hl h
    unfold cellsF at h
    obtain ⟨E2, hp2, xs, l2, c2, ws2, f2, e2, n2, r2, s2, h⟩ := cellsN_some (E0 := E) (Rr := fun M x cs => Rep M e x cs) (fun hM x cs hx => Rep_mono hM e x cs hx) ih hh hl h
    exact ⟨E2, hp2, xs, l2, c2, ws2, f2, e2, ⟨n2, r2⟩, s2, h⟩
  | int i =>
    intro E l vs hp k hh hl h
    cases l with
    | nil => simp [cellsF] at h
    | cons s l => exact one rfl hh hl h
  | bool =>
    intro E l vs hp k hh hl h
    cases l with
    | nil => simp [cellsF] at h
    | cons s l => exact one rfl hh hl h
  | str =>
    intro E l vs hp k hh hl h
    cases l with
    | nil => simp [cellsF] at h
    | cons s l => exact one rfl hh hl h
  | flt =>
    intro E l vs hp k hh hl h
    cases l with
    | nil => simp [cellsF] at h
    | cons s l => exact one rfl hh hl h
  | cplx =>
    intro E l vs hp k hh hl h
    cases l with
    | nil => simp [cellsF] at h
    | cons s l => exact one rfl hh hl h
  | sl e ih =>
    intro E l vs hp k hh hl h
    cases l with
    | nil => simp [cellsF] at h
    | cons s l => exact one rfl hh hl h

theorem dataF_some {t : Ty} {s : SV} {v : Value} {k : t.den → List HO → Option R} (hh : Hp B E hp w) (hs : s.sat E v) (h : dataF t s hp k = some r) :
    ∃ E' hp' x, Frz B E E' hp hp' w ∧ (∃ cs, Rep E'.M t x cs ∧ v = valOf t cs) ∧ k x hp' = some r := by
  unfold dataF at h
  split at h
  case h_1 l =>
    cases ha : t.isAgg with
    | false => rw [ha] at h; cases h
    | true =>
      rw [ha] at h
      simp only [SV.sat] at hs
      obtain ⟨cs, e1, e2⟩ := hs
      obtain ⟨E', hp', x, l', c, ws, f, g1, g2, g3, h⟩ := cellsF_some hh e2 h
      split at h
      case h_1 =>
        have : ws = [] := by simpa [SV.satL] using g3
        subst this
        exact ⟨E', hp', x, f, ⟨c, g2, by rw [e1, g1, valOf, ha]; simp⟩, h⟩
      case h_2 => cases h
  case h_2 => exact oneF_some hh hs h

/-- Struct cells are frozen: then they are data. -/
theorem Hp.freezeC (h : Hp B E hp w) {i : Nat} {l : List SV} {e : LE} {b : Nat} {c : Array Value} {T : TypeId} {t : Ty} {x : t.den} (h1 : hp[i]? = some (.cells l)) (e1 : E.L[i]? = some e) (hb : e.blk = some b)
    (f1 : w.heap[b]? = some (.cells c T (0, 0))) (hr : Rep E.M t x c.toList) : ∃ E' : Env, E.le E' ∧ E'.L = E.L ∧ Hp B E' (hp.set i (.frs t x)) w ∧ E'.M b = some c := by
  have hd := h.drop i
  obtain ⟨hm, hbase⟩ := h.free _ _ _ _ h1 rfl e1 hb
  let M' : Mem := fun j => if j = b then some c else E.M j
  have hle : E.M.le M' := fun j c' hj => by
    show (if j = b then some c else E.M j) = some c'
    split
    · rename_i hjb; subst hjb; rw [hm] at hj; cases hj
    · exact hj
  have hEle : E.le ⟨M', E.L⟩ := ⟨hle, fun _ _ hh => hh⟩
  have hmt := h.mayTurn h1 rfl e1 hb
  have hgone : Hp B ⟨M', E.L⟩ (hp.set i .gone) w := {
    ag := fun j c' hj => by
      change (if j = b then some c else E.M j) = some c' at hj
      split at hj
      · rename_i hjb; subst hjb; cases hj; exact ⟨T, _, f1⟩
      · exact h.ag j c' hj
    base := Mem.le_trans h.base hle
    fresh := fun j c' hj => by
      change (if j = b then some c else E.M j) = some c' at hj
      split at hj
      · rename_i hjb; subst hjb; exact .inr hbase
      · exact h.fresh j c' hj
    ok := h.ok
    len := hd.len
    free := fun j o' e' b' k1 k2 k3 k4 => by
      obtain ⟨k5, k6⟩ := hd.free j o' e' b' k1 k2 k3 k4
      refine ⟨?_, k6⟩
      show (if b' = b then some c else E.M b') = none
      rw [if_neg (fun (hbb : b' = b) => hmt.obj j o' e' k1 k2 k3 (by rw [k4, hbb]))]
      exact k5
    dist := hd.dist
    ob := fun j o' e' k1 k2 => HO.sat_keep hEle (hd.ob j o' e' k1 k2) fun _ _ _ => rfl }
  have hMb : M' b = some c := by simp [M']
  refine ⟨⟨M', E.L⟩, hEle, rfl, ?_, hMb⟩
  have := hgone.dropTo i (o' := .frs t x) rfl (fun e' he' => by
    rw [show E.L[i]? = some e' from he'] at e1
    cases e1
    exact ⟨b, c, hb, hMb, Rep_mono hle t x _ hr⟩)
  rwa [List.set_set] at this

theorem roF_some {t : Ty} {s : SV} {v : Value} {k : t.den → List HO → Option R} (hh : Hp B E hp w) (hs : s.sat E v) (h : roF t s hp k = some r) :
    ∃ E' hp' x, Frz B E E' hp hp' w ∧ SV.sat E' (.ro t x) v ∧ k x hp' = some r := by
  unfold roF at h
  split at h
  case h_1 t' x =>
    split at h
    case isTrue ht => subst ht; exact ⟨E, hp, x, Frz.refl hh, hs, h⟩
    case isFalse => cases h
  case h_2 id off =>
    cases ho : Nat.beq off 0 with
    | false => rw [ho] at h; cases h
    | true =>
      rw [ho, cond_true] at h
      have := Nat.eq_of_beq_eq_true ho
      subst this
      replace h := nthK_some h; obtain ⟨o, h1, h⟩ := h
      split at h
      case h_1 l =>
        have hs' := hs
        simp only [SV.sat] at hs'
        obtain ⟨e, b, e1, e2, e3⟩ := hs'
        obtain ⟨b', c, T, g1, g2, g3⟩ := hh.ob _ _ _ h1 e1
        rw [e2] at g1
        cases g1
        obtain ⟨E1, hp1, x, l', c1, ws, f1, f2, f3, f4, h⟩ := cellsF_some hh g3 h
        split at h
        case h_2 => cases h
        case h_1 =>
          have hws : ws = [] := by simpa [SV.satL] using f4
          subst hws
          rw [List.append_nil] at f2
          rw [← f2] at f3
          replace h := nthK_some h; obtain ⟨o2, h2, h⟩ := h
          split at h
          case h_2 => cases h
          case h_1 l2 =>
            rw [setK_eq] at h
            obtain ⟨E2, q1, q2, q3, q4⟩ := f1.heap.freezeC h2 (by rw [f1.L]; exact e1) e2 g2 f3
            refine ⟨E2, _, x, f1.trans ⟨q1, q2, q3, by simp, fun j => ?_⟩, ?_, h⟩
            · rw [List.getElem?_set]
              split
              · split
                · exact .inr ⟨_, rfl, rfl⟩
                · rename_i hj _; subst hj; exact .inl (by rw [List.getElem?_eq_none (by omega)])
              · exact .inl rfl
            · simp only [SV.sat]
              exact ⟨b, 0, c.toList, e3, ⟨c, [], [], q4, by simp, rfl⟩, Rep_mono q1.1 t x _ f3⟩
      case h_2 t' x =>
        split at h
        case isTrue ht => subst ht; exact ⟨E, hp, x, Frz.refl hh, frs_data hh h1 hs, h⟩
        case isFalse => cases h
      case h_3 => cases h
  case h_3 => cases h

end
end Go.Sx
