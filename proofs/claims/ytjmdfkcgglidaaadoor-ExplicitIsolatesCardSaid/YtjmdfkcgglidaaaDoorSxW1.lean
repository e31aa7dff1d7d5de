import Derived.Test.YtjmdfkcgglidaaaDoorSxU8
set_option linter.unusedVariables false
set_option linter.unusedSimpArgs false
namespace Go.Sx

abbrev Ent := Int × Int × Bool

/-- A stack (its top first), what is counted, what was told. -/
structure St where
  base : Int
  li : Int
  le : Int
  v : Int
  most : Int
  st : List Ent
  lv : List Int
  cl : List Int

abbrev pt (s : St) : Int × Int × Int × Int × Int × List Ent × List Int × List Int := (s.base, s.li, s.le, s.v, s.most, s.st.reverse, s.lv, s.cl)
abbrev rt (l : List Int) (s : St) : Int × Int × Int × Int × Int × List Int × List Ent × List Int × List Int := (s.base, s.li, s.le, s.v, s.most, l, s.st.reverse, s.lv, s.cl)

def nextS (level dir : Int) : Int := if dir = 1 then 2 * ((level + 1) / 2) + 1 else 2 * ((level + 2) / 2)

def St.top (s : St) : Ent := s.st.headD (0, 0, false)
def St.tell (s : St) (level c : Int) : St := { s with lv := s.lv ++ [level], cl := s.cl ++ [c] }
def St.place (s : St) (c : Int) : St := s.tell s.top.1 (if s.top.2.1 ≠ -1 then s.top.2.1 else c)
def St.fits (s : St) (n : Int) : Prop := n ≤ 125 ∧ s.li = 0 ∧ s.le = 0
instance (s : St) (n : Int) : Decidable (s.fits n) := inferInstanceAs (Decidable (_ ∧ _))
def St.push (s : St) (e : Ent) : St := { s with st := e :: s.st, most := max s.most (s.st.length + 1) }
def St.embed (s : St) (dir over : Int) : St := if s.fits (nextS s.top.1 dir) then s.push (nextS s.top.1 dir, over, false) else if s.li = 0 then { s with le := s.le + 1 } else s
def St.iso (s : St) (dir : Int) : St := if s.fits (nextS s.top.1 dir) then { s.push (nextS s.top.1 dir, -1, true) with v := s.v + 1 } else { s with li := s.li + 1 }
def popIso : List Ent → List Ent
  | [] => []
  | e :: r => if e.2.2 = true then r else popIso r
def St.fin (s : St) : St := if 0 < s.li then { s with li := s.li - 1 } else if 0 < s.v then { s with le := 0, v := s.v - 1, st := popIso s.st } else s
def St.back (s : St) : St := if 0 < s.li then s else if 0 < s.le then { s with le := s.le - 1 } else if 1 < s.st.length ∧ s.top.2.2 = false then { s with st := s.st.tail } else s
def St.reset (s : St) : St := { s with st := [(s.base, -1, false)], li := 0, le := 0, v := 0, most := max s.most 1 }

/-- How many isolates are in a stack. -/
def isos : List Ent → Nat
  | [] => 0
  | e :: r => (if e.2.2 = true then 1 else 0) + isos r

structure SInv (k m : Nat) (s : St) : Prop where
  lev : ∀ e ∈ s.st, 0 ≤ e.1 ∧ e.1 ≤ 125
  ov : ∀ e ∈ s.st, e.2.1 = -1 ∨ e.2.1 = 0 ∨ e.2.1 = 1
  len : s.st.length ≤ k + 1
  li0 : 0 ≤ s.li
  li1 : s.li ≤ k
  le0 : 0 ≤ s.le
  le1 : s.le ≤ k
  vn : s.v = isos s.st
  lv : s.lv.length ≤ m
  cl : s.cl.length ≤ m
  base : s.base = 0 ∨ s.base = 1
  bot : ∃ r, s.st = r ++ [(s.base, -1, false)]
  m0 : 0 ≤ s.most
  m1 : s.most ≤ k + 1

theorem SInv.ne {k m : Nat} {s : St} (h : SInv k m s) : ∃ e r, s.st = e :: r := by
  obtain ⟨r, hr⟩ := h.bot
  cases r with
  | nil => exact ⟨_, _, hr⟩
  | cons e r => exact ⟨e, _, hr⟩

theorem isos_le : ∀ (l : List Ent), isos l ≤ l.length
  | [] => Nat.le_refl _
  | e :: r => by
    have := isos_le r
    unfold isos
    simp only [List.length_cons]
    split <;> omega

theorem last_rev (e : Ent) (r : List Ent) (h : r.length ≤ 1000000) : IntKind.i64.wrap ((((e :: r).reverse).length : Int) - 1) = (r.length : Int) := by
  rw [wrap_i64 (by omega) (by simp; omega)]
  simp

theorem getD_rev (e : Ent) (r : List Ent) : ((e :: r).reverse).getD r.length (0, 0, false) = e := by
  simp [List.getD_eq_getElem?_getD]

theorem take_rev (e : Ent) (r : List Ent) : ((e :: r).reverse).take r.length = r.reverse := by
  rw [List.reverse_cons, List.take_left' (by simp)]

theorem f51_eq (e : Ent) (r : List Ent) (h : r.length ≤ 1000000) (a b c d f : Int) (lv cl : List Int) : G.f51F (a, (e :: r).reverse, b, c, d, f, lv, cl) = some e := by
  unfold G.f51F
  simp only [last_rev e r h]
  rw [if_pos (by simp; omega), Int.toNat_natCast, getD_rev]

theorem f50_eq (level c : Int) (s : St) (h1 : s.lv.length ≤ 1000000) (h2 : s.cl.length ≤ 1000000) : G.f50F (level, c, pt s) = some (pt (s.tell level c)) := by
  unfold G.f50F pt
  simp only []
  rw [if_pos (by unfold roomOk; simp; omega), if_pos (by unfold roomOk; simp; omega)]
  rfl

theorem f40_eq (s : St) : G.f40F (pt s) = some (pt s.reset) := by
  unfold G.f40F pt
  simp only []
  rw [if_pos (by omega), if_pos (by unfold roomOk; simp)]
  simp [St.reset, Int.max_def]
  omega

theorem f60_eq (e : Ent) (s : St) (h0 : 0 ≤ s.li) (h1 : 0 ≤ s.le) (hl : s.st.length ≤ 1000000) : G.f60F (e, pt s) = some (if s.fits e.1 then (true, pt (s.push e)) else (false, pt s)) := by
  unfold G.f60F pt
  simp only []
  by_cases c1 : e.1 > 125
  · rw [if_pos (by simpa using c1), if_neg (by unfold St.fits; omega)]
    rfl
  · rw [if_neg (by simpa using c1)]
    by_cases c2 : s.li > 0
    · rw [if_pos (by simpa using c2), if_neg (by unfold St.fits; omega)]
      rfl
    · rw [if_neg (by simpa using c2)]
      by_cases c3 : s.le > 0
      · rw [if_neg (by unfold St.fits; omega)]
        simp [c3]
      · rw [if_pos (show s.fits e.1 by unfold St.fits; omega)]
        simp only [c3, decide_false, Option.bind_some, Bool.false_eq_true, if_false]
        rw [if_pos (by unfold roomOk; simp; omega)]
        simp [St.push, Int.max_def]
        omega

theorem f61_eq (e : Ent) (r : List Ent) (s : St) (hs : s.st = e :: r) (h : r.length ≤ 1000000) : G.f61F (pt s) = some (e, pt { s with st := r }) := by
  unfold G.f61F pt
  simp only [hs, f51_eq e r h, Option.bind_some, last_rev e r h]
  rw [if_pos (by simp; omega), Int.toNat_natCast, take_rev]

theorem f28_eq (level dir : Int) (h0 : 0 ≤ level) (h1 : level ≤ 125) : G.f28F (level, dir) = some (nextS level dir) := by
  unfold G.f28F nextS
  simp only []
  rw [if_neg (by simp; omega)]
  simp only [Option.bind_some]
  rw [if_neg (by simp; omega)]
  obtain ⟨n, rfl⟩ := Int.eq_ofNat_of_zero_le h0
  have hn : n < 126 := by omega
  by_cases hd : dir = 1
  · rw [if_pos (by simpa using hd), if_pos hd]
    have key : ∀ n : Nat, n < 126 → IntKind.i64.wrap (((BitVec.ofInt IntKind.i64.bits (IntKind.i64.wrap ((n : Int) + 1)) ||| BitVec.ofInt IntKind.i64.bits 1).toNat : Int)) = 2 * (((n : Int) + 1) / 2) + 1 := by decide +kernel
    rw [key n hn]
  · rw [if_neg (by simpa using hd), if_neg hd]
    have key : ∀ n : Nat, n < 126 → IntKind.i64.wrap (((BitVec.ofInt IntKind.i64.bits (IntKind.i64.wrap ((n : Int) + 2)) &&& ~~~BitVec.ofInt IntKind.i64.bits 1).toNat : Int)) = 2 * (((n : Int) + 2) / 2) := by decide +kernel
    rw [key n hn]

theorem f28_none (level dir : Int) (h : level < 0 ∨ 125 < level) : G.f28F (level, dir) = some (-1) := by
  unfold G.f28F
  simp only []
  by_cases h0 : level < 0
  · rw [if_pos (by simpa using h0)]; rfl
  · rw [if_neg (by simpa using h0)]
    simp only [Option.bind_some]
    rw [if_pos (by simp; omega)]

theorem nextS_bounds {level dir : Int} (h0 : 0 ≤ level) : level < nextS level dir ∧ nextS level dir ≤ level + 2 := by
  unfold nextS
  split <;> omega
end Go.Sx
