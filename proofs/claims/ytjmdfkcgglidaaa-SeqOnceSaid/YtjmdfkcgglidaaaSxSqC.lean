/- Seq: the levels, as the document walks. -/
import Derived.Test.YtjmdfkcgglidaaaSxSqB
set_option linter.unusedVariables false
set_option linter.unusedSimpArgs false
namespace Go.Sx



abbrev Ent := Int × Int × Bool

/-- A stack (its top first), what is counted, what was told. -/
structure St where
  base : Int
  li : Int
  le : Int
  v : Int
  most : Int
  st : List Ent
  lv : List Int
  cl : List Int

abbrev pt (s : St) : Int × Int × Int × Int × Int × List Ent × List Int × List Int := (s.base, s.li, s.le, s.v, s.most, s.st.reverse, s.lv, s.cl)
abbrev rt (l : List Int) (s : St) : Int × Int × Int × Int × Int × List Int × List Ent × List Int × List Int := (s.base, s.li, s.le, s.v, s.most, l, s.st.reverse, s.lv, s.cl)

def nextS (level dir : Int) : Int := if dir = 1 then 2 * ((level + 1) / 2) + 1 else 2 * ((level + 2) / 2)

def St.top (s : St) : Ent := s.st.headD (0, 0, false)
def St.tell (s : St) (level c : Int) : St := { s with lv := s.lv ++ [level], cl := s.cl ++ [c] }
def St.place (s : St) (c : Int) : St := s.tell s.top.1 (if s.top.2.1 ≠ -1 then s.top.2.1 else c)
def St.fits (s : St) (n : Int) : Prop := n ≤ 125 ∧ s.li = 0 ∧ s.le = 0
instance (s : St) (n : Int) : Decidable (s.fits n) := inferInstanceAs (Decidable (_ ∧ _))
def St.push (s : St) (e : Ent) : St := { s with st := e :: s.st, most := max s.most (s.st.length + 1) }
def St.embed (s : St) (dir over : Int) : St := if s.fits (nextS s.top.1 dir) then s.push (nextS s.top.1 dir, over, false) else if s.li = 0 then { s with le := s.le + 1 } else s
def St.iso (s : St) (dir : Int) : St := if s.fits (nextS s.top.1 dir) then { s.push (nextS s.top.1 dir, -1, true) with v := s.v + 1 } else { s with li := s.li + 1 }
def popIso : List Ent → List Ent
  | [] => []
  | e :: r => if e.2.2 = true then r else popIso r
def St.fin (s : St) : St := if 0 < s.li then { s with li := s.li - 1 } else if 0 < s.v then { s with le := 0, v := s.v - 1, st := popIso s.st } else s
def St.back (s : St) : St := if 0 < s.li then s else if 0 < s.le then { s with le := s.le - 1 } else if 1 < s.st.length ∧ s.top.2.2 = false then { s with st := s.st.tail } else s
def St.reset (s : St) : St := { s with st := [(s.base, -1, false)], li := 0, le := 0, v := 0, most := max s.most 1 }

/-- How many isolates are in a stack. -/
def isos : List Ent → Nat
  | [] => 0
  | e :: r => (if e.2.2 = true then 1 else 0) + isos r

structure SInv (k m : Nat) (s : St) : Prop where
  lev : ∀ e ∈ s.st, 0 ≤ e.1 ∧ e.1 ≤ 125
  ov : ∀ e ∈ s.st, e.2.1 = -1 ∨ e.2.1 = 0 ∨ e.2.1 = 1
  len : s.st.length ≤ k + 1
  li0 : 0 ≤ s.li
  li1 : s.li ≤ k
  le0 : 0 ≤ s.le
  le1 : s.le ≤ k
  vn : s.v = isos s.st
  lv : s.lv.length ≤ m
  cl : s.cl.length ≤ m
  base : s.base = 0 ∨ s.base = 1
  bot : ∃ r, s.st = r ++ [(s.base, -1, false)]
  m0 : 0 ≤ s.most
  m1 : s.most ≤ k + 1

theorem SInv.ne {k m : Nat} {s : St} (h : SInv k m s) : ∃ e r, s.st = e :: r := by
  obtain ⟨r, hr⟩ := h.bot
  cases r with
  | nil => exact ⟨_, _, hr⟩
  | cons e r => exact ⟨e, _, hr⟩

theorem isos_le : ∀ (l : List Ent), isos l ≤ l.length
  | [] => Nat.le_refl _
  | e :: r => by
    have := isos_le r
    unfold isos
    simp only [List.length_cons]
    split <;> omega

theorem last_rev (e : Ent) (r : List Ent) (h : r.length ≤ 1000000) : IntKind.i64.wrap ((((e :: r).reverse).length : Int) - 1) = (r.length : Int) := by
  rw [wrap_i64 (by omega) (by simp; omega)]
  simp

theorem getD_rev (e : Ent) (r : List Ent) : ((e :: r).reverse).getD r.length (0, 0, false) = e := by
  simp [List.getD_eq_getElem?_getD]

theorem take_rev (e : Ent) (r : List Ent) : ((e :: r).reverse).take r.length = r.reverse := by
  rw [List.reverse_cons, List.take_left' (by simp)]

theorem nextS_bounds {level dir : Int} (h0 : 0 ≤ level) : level < nextS level dir ∧ nextS level dir ≤ level + 2 := by
  unfold nextS
  split <;> omega



theorem top_mem {k m : Nat} {s : St} (h : SInv k m s) : s.top ∈ s.st := by
  obtain ⟨e, r, hs⟩ := h.ne
  unfold St.top
  rw [hs]
  simp




theorem SInv.mono {k m k' m' : Nat} {s : St} (h : SInv k m s) (hk : k ≤ k') (hm : m ≤ m') : SInv k' m' s :=
  { h with len := by have := h.len; omega, li1 := by have := h.li1; omega, le1 := by have := h.le1; omega, lv := by have := h.lv; omega, cl := by have := h.cl; omega, m1 := by have := h.m1; omega }

theorem SInv.tell {k m : Nat} {s : St} (h : SInv k m s) (a b : Int) : SInv k (m + 1) (s.tell a b) :=
  { h with lv := by have := h.lv; simp [St.tell]; omega, cl := by have := h.cl; simp [St.tell]; omega }

theorem SInv.place {k m : Nat} {s : St} (h : SInv k m s) (c : Int) : SInv k (m + 1) (s.place c) := h.tell _ _

theorem SInv.push {k m : Nat} {s : St} (h : SInv k m s) {e : Ent} (h1 : 0 ≤ e.1 ∧ e.1 ≤ 125) (h2 : e.2.1 = -1 ∨ e.2.1 = 0 ∨ e.2.1 = 1) (v : Int) (hv : v = isos (e :: s.st)) : SInv (k + 1) m { s.push e with v := v } where
  lev := fun x hx => by
    rcases List.mem_cons.1 hx with hx | hx
    · subst hx; exact h1
    · exact h.lev x hx
  ov := fun x hx => by
    rcases List.mem_cons.1 hx with hx | hx
    · subst hx; exact h2
    · exact h.ov x hx
  len := by have := h.len; simp [St.push]; omega
  li0 := h.li0
  li1 := by have := h.li1; simp [St.push]; omega
  le0 := h.le0
  le1 := by have := h.le1; simp [St.push]; omega
  vn := hv
  lv := h.lv
  cl := h.cl
  base := h.base
  bot := by
    obtain ⟨r, hr⟩ := h.bot
    exact ⟨e :: r, by simp [St.push, hr]⟩
  m0 := by have := h.m0; simp [St.push]; omega
  m1 := by have := h.m1; have := h.len; simp [St.push]; omega

theorem SInv.embed {k m : Nat} {s : St} (h : SInv k m s) (dir : Int) {over : Int} (ho : over = -1 ∨ over = 0 ∨ over = 1) : SInv (k + 1) m (s.embed dir over) := by
  have ht := h.lev _ (top_mem h)
  have hn := nextS_bounds (dir := dir) ht.1
  unfold St.embed
  split
  · rename_i hf
    have := h.push (e := (nextS s.top.1 dir, over, false)) ⟨by simp only; omega, hf.1⟩ ho s.v (by rw [h.vn]; simp [isos])
    exact this
  · split
    · have := h.mono (Nat.le_succ k) (Nat.le_refl m)
      exact { this with le0 := by have := h.le0; simp only; omega, le1 := by have := h.le1; simp only; omega }
    · exact h.mono (Nat.le_succ k) (Nat.le_refl m)

theorem SInv.iso {k m : Nat} {s : St} (h : SInv k m s) (dir : Int) : SInv (k + 1) m (s.iso dir) := by
  have ht := h.lev _ (top_mem h)
  have hn := nextS_bounds (dir := dir) ht.1
  unfold St.iso
  split
  · rename_i hf
    exact h.push (e := (nextS s.top.1 dir, -1, true)) ⟨by simp only; omega, hf.1⟩ (.inl rfl) (s.v + 1) (by rw [h.vn]; simp [isos]; omega)
  · have := h.mono (Nat.le_succ k) (Nat.le_refl m)
    exact { this with li0 := by have := h.li0; simp only; omega, li1 := by have := h.li1; simp only; omega }

theorem popIso_spec {b : Ent} (hb : b.2.2 = false) : ∀ (r : List Ent), 0 < isos (r ++ [b]) → ∃ r', popIso (r ++ [b]) = r' ++ [b] ∧ isos (r' ++ [b]) + 1 = isos (r ++ [b]) ∧ (∀ e ∈ r' ++ [b], e ∈ r ++ [b]) ∧ (r' ++ [b]).length ≤ (r ++ [b]).length
  | [], h => by simp [isos, hb] at h
  | e :: r, h => by
    simp only [List.cons_append]
    unfold popIso
    cases he : e.2.2 with
    | true =>
      have hi : isos (e :: (r ++ [b])) = 1 + isos (r ++ [b]) := by show (if e.2.2 = true then 1 else 0) + isos (r ++ [b]) = _; rw [if_pos he]
      exact ⟨r, rfl, by omega, fun x hx => List.mem_cons_of_mem _ hx, by simp⟩
    | false =>
      have hi : isos (e :: (r ++ [b])) = isos (r ++ [b]) := by show (if e.2.2 = true then 1 else 0) + isos (r ++ [b]) = _; rw [he]; simp
      simp only [List.cons_append] at h
      rw [hi] at h
      obtain ⟨r', h1, h2, h3, h4⟩ := popIso_spec hb r h
      refine ⟨r', ?_, by rw [hi]; exact h2, fun x hx => List.mem_cons_of_mem _ (h3 x hx), by simp at h4 ⊢; omega⟩
      rw [if_neg (by simp)]
      exact h1

theorem SInv.fin {k m : Nat} {s : St} (h : SInv k m s) : SInv k m s.fin := by
  unfold St.fin
  split
  · exact { h with li0 := by simp only; omega, li1 := by have := h.li1; simp only; omega }
  · split
    · rename_i hv
      obtain ⟨r, hr⟩ := h.bot
      have hvn := h.vn
      rw [hr] at hvn
      obtain ⟨r', h1, h2, h3, h4⟩ := popIso_spec (b := (s.base, -1, false)) rfl r (by omega)
      have hl := h.len
      rw [hr] at hl
      exact { h with
        lev := fun e he => h.lev e (by rw [hr]; simp only [hr, h1] at he; exact h3 e he)
        ov := fun e he => h.ov e (by rw [hr]; simp only [hr, h1] at he; exact h3 e he)
        len := by simp only [hr, h1]; omega
        le0 := Int.le_refl 0
        le1 := by simp only; omega
        vn := by simp only [hr, h1]; omega
        bot := ⟨r', by simp only [hr, h1]⟩ }
    · exact h

theorem SInv.back {k m : Nat} {s : St} (h : SInv k m s) : SInv k m s.back := by
  unfold St.back
  split
  · exact h
  · split
    · exact { h with le0 := by simp only; omega, le1 := by have := h.le1; simp only; omega }
    · split
      · rename_i hc
        obtain ⟨r, hr⟩ := h.bot
        cases r with
        | nil => rw [hr] at hc; simp at hc
        | cons e r =>
          have hl := h.len
          have hvn := h.vn
          have hst : s.st.tail = r ++ [(s.base, -1, false)] := by rw [hr]; rfl
          have htop : e.2.2 = false := by have := hc.2; unfold St.top at this; rw [hr] at this; exact this
          exact { h with
            lev := fun x hx => h.lev x (by simp only [hst] at hx; rw [hr]; exact List.mem_cons_of_mem _ hx)
            ov := fun x hx => h.ov x (by simp only [hst] at hx; rw [hr]; exact List.mem_cons_of_mem _ hx)
            len := by simp only [List.length_tail]; omega
            vn := by
              have hi : isos (e :: (r ++ [(s.base, -1, false)])) = isos (r ++ [(s.base, -1, false)]) := by show (if e.2.2 = true then 1 else 0) + isos _ = _; rw [htop]; simp
              simp only [hst]; rw [hvn, hr, List.cons_append, hi]
            bot := ⟨r, hst⟩ }
      · exact h

theorem SInv.reset {k m : Nat} {s : St} (h : SInv k m s) : SInv k m s.reset where
  lev := fun e he => by
    simp only [St.reset, List.mem_singleton] at he
    subst he
    have := h.base
    simp only
    omega
  ov := fun e he => by
    simp only [St.reset, List.mem_singleton] at he
    subst he
    exact .inl rfl
  len := by simp [St.reset]
  li0 := Int.le_refl 0
  li1 := by simp [St.reset]
  le0 := Int.le_refl 0
  le1 := by simp [St.reset]
  vn := by simp [St.reset, isos]
  lv := h.lv
  cl := h.cl
  base := h.base
  bot := ⟨[], rfl⟩
  m0 := by have := h.m0; simp [St.reset]; omega
  m1 := by have := h.m1; simp [St.reset]; omega

/-- A place. -/
def St.step (l : List Int) (s : St) (i : Nat) : St :=
  let c := l.getD i 0
  if c = 14 then (s.tell s.top.1 c).embed 0 (-1)
  else if c = 16 then (s.tell s.top.1 c).embed 1 (-1)
  else if c = 15 then (s.tell s.top.1 c).embed 0 0
  else if c = 17 then (s.tell s.top.1 c).embed 1 1
  else if c = 18 then (s.tell s.top.1 c).back
  else if c = 9 then s.tell s.top.1 c
  else if opens c = true then (s.place c).iso (isoS l i)
  else if c = 22 then s.fin.place c
  else if c = 10 then s.reset.tell s.base c
  else if c < 0 ∨ 23 ≤ c then s.place 0
  else s.place c

theorem SInv.step {k : Nat} {s : St} (h : SInv k k s) (l : List Int) (i : Nat) : SInv (k + 1) (k + 1) (s.step l i) := by
  unfold St.step
  simp only []
  split
  · exact (h.tell _ _).embed 0 (.inl rfl)
  · split
    · exact (h.tell _ _).embed 1 (.inl rfl)
    · split
      · exact (h.tell _ _).embed 0 (.inr (.inl rfl))
      · split
        · exact (h.tell _ _).embed 1 (.inr (.inr rfl))
        · split
          · exact (h.tell _ _).back.mono (Nat.le_succ k) (Nat.le_refl _)
          · split
            · exact (h.tell _ _).mono (Nat.le_succ k) (Nat.le_refl _)
            · split
              · exact (h.place _).iso _
              · split
                · exact (h.fin.place _).mono (Nat.le_succ k) (Nat.le_refl _)
                · split
                  · exact (h.reset.tell _ _).mono (Nat.le_succ k) (Nat.le_refl _)
                  · split
                    · exact (h.place _).mono (Nat.le_succ k) (Nat.le_refl _)
                    · exact (h.place _).mono (Nat.le_succ k) (Nat.le_refl _)







def St.init (b : Int) : St := ⟨b, 0, 0, 0, 1, [(b, -1, false)], [], []⟩
def runS (l : List Int) (b : Int) (n : Nat) : St := (List.range n).foldl (fun s i => s.step l i) (St.init b)

theorem runS_succ (l : List Int) (b : Int) (n : Nat) : runS l b (n + 1) = (runS l b n).step l n := by
  unfold runS
  rw [List.range_succ, List.foldl_append]
  rfl

theorem runS_inv {b : Int} (hb : b = 0 ∨ b = 1) (l : List Int) : ∀ n, SInv n n (runS l b n)
  | 0 => {
    lev := fun e he => by
      simp only [runS, List.range_zero, List.foldl_nil, St.init, List.mem_singleton] at he
      subst he; simp only; omega
    ov := fun e he => by
      simp only [runS, List.range_zero, List.foldl_nil, St.init, List.mem_singleton] at he
      subst he; exact .inl rfl
    len := by simp [runS, St.init]
    li0 := Int.le_refl 0
    li1 := Int.le_refl 0
    le0 := Int.le_refl 0
    le1 := Int.le_refl 0
    vn := rfl
    lv := Nat.le_refl 0
    cl := Nat.le_refl 0
    base := hb
    bot := ⟨[], rfl⟩
    m0 := by simp [runS, St.init]
    m1 := by simp [runS, St.init] }
  | n + 1 => by
    rw [runS_succ]
    exact (runS_inv hb l n).step l n

def baseOf (n : Int) : Int := if n = 0 then 0 else 1
theorem baseOf_or (n : Int) : baseOf n = 0 ∨ baseOf n = 1 := by unfold baseOf; split <;> simp




theorem f42_top {k m : Nat} {s : St} (h : SInv k m s) (hk : k ≤ 100000) (a b c d f : Int) (x y z : List Int) : Q.f42F (a, s.st.reverse, b, c, d, f, x, y, z) = some s.top := by
  obtain ⟨e, r, hs⟩ := h.ne
  have hl := h.len
  rw [hs] at hl
  have hr : r.length ≤ 1000000 := by simp at hl; omega
  unfold St.top Q.f42F
  rw [hs]
  simp only [last_rev e r hr]
  rw [if_pos (by simp; omega), Int.toNat_natCast, getD_rev]
  rfl

theorem f46_eq (e : Ent) (l : List Int) (s : St) (h : s.st.length ≤ 1000000) : Q.f46F (e, rt l s) = some (rt l (s.push e)) := by
  unfold Q.f46F
  simp only [rt]
  rw [if_pos (by unfold roomOk; first | omega | (simp; omega)), if_pos (by unfold roomOk; first | omega | (simp; omega))]
  simp [St.push, Int.max_def, maxI]
  omega

theorem f37_eq (l : List Int) (s : St) : Q.f37F (rt l s) = some (rt l s.reset) := by
  have h57 := f46_eq (s.base, -1, false) l { s with st := [] } (by simp)
  simp only [rt, List.reverse_nil] at h57
  unfold Q.f37F
  simp only [rt, h57, Option.bind_some]
  simp [St.push, St.reset]

theorem f50_eq (e : Ent) (r : List Ent) (l : List Int) (s : St) (hs : s.st = e :: r) (h : r.length ≤ 1000000) : Q.f50F (rt l s) = some (rt l { s with st := r }) := by
  unfold Q.f50F
  simp only [rt, hs, last_rev e r h]
  rw [if_pos (by simp; omega), Int.toNat_natCast, take_rev]

theorem f47_eq (level dir : Int) (h0 : 0 ≤ level) (h1 : level ≤ 125) : Q.f47F (level, dir) = some (nextS level dir) := by
  unfold Q.f47F nextS
  simp only []
  rw [if_neg (by rw [decide_eq_true_eq]; omega)]
  simp only [Option.bind_some]
  rw [if_neg (by rw [decide_eq_true_eq]; omega), wrap_i64 (by omega) (by omega)]
  have key : ∀ odd : Int, odd = 0 ∨ odd = 1 → iter (fun (s3 : Int) => if (Int.tmod s3 2 != odd) = true then some (Sum.inl (IntKind.i64.wrap (s3 + 1))) else some (Sum.inr s3)) (level + 1) =
      some (if (level + 1) % 2 = odd then level + 1 else level + 2) := by
    intro odd ho
    by_cases hm : (level + 1) % 2 = odd
    · rw [iter_inr (e := level + 1) (by rw [Int.tmod_eq_emod_of_nonneg (by omega), if_neg (by rw [bne_iff_ne]; exact fun h => h hm)]), if_pos hm]
    · rw [iter_inl (s' := level + 2) (by rw [Int.tmod_eq_emod_of_nonneg (by omega), if_pos (by rw [bne_iff_ne]; exact hm), wrap_i64 (by omega) (by omega)]; congr 2; omega),
        iter_inr (e := level + 2) (by rw [Int.tmod_eq_emod_of_nonneg (by omega), if_neg (by rw [bne_iff_ne]; omega)]), if_neg hm]
  by_cases hd : dir = 1
  · rw [if_pos (by rw [beq_iff_eq]; exact hd), if_pos hd]
    simp only [Option.bind_some, key 1 (.inr rfl)]
    congr 1
    split <;> omega
  · rw [if_neg (by rw [beq_iff_eq]; exact hd), if_neg hd]
    simp only [Option.bind_some, key 0 (.inl rfl)]
    congr 1
    split <;> omega

theorem f47_none (level dir : Int) (h : level < 0 ∨ 125 < level) : Q.f47F (level, dir) = some (-1) := by
  unfold Q.f47F
  simp only []
  by_cases h0 : level < 0
  · rw [if_pos (by rw [decide_eq_true_eq]; exact h0)]; rfl
  · rw [if_neg (by rw [decide_eq_true_eq]; exact h0)]
    simp only [Option.bind_some]
    rw [if_pos (by rw [decide_eq_true_eq]; omega)]

theorem f48_eq (s : St) (st : List Ent) (x y z : List Int) (a b c n : Int) : Q.f48F ((a, st, s.li, s.le, b, c, x, y, z), n) = some (decide (s.fits n)) := by
  unfold Q.f48F St.fits
  simp only []
  by_cases h1 : n ≤ 125
  · rw [if_pos (by rw [decide_eq_true_eq]; exact h1)]
    by_cases h2 : s.li = 0
    · rw [if_pos (by rw [beq_iff_eq]; exact h2)]
      by_cases h3 : s.le = 0
      · simp [h1, h2, h3]
      · simp [h1, h2, h3]
    · rw [if_neg (by rw [beq_iff_eq]; exact h2)]
      simp [h2]
  · rw [if_neg (by rw [decide_eq_true_eq]; exact h1)]
    simp [h1]

theorem f44_eq {k m : Nat} {s : St} (h : SInv k m s) (hk : k ≤ 100000) (hm : m ≤ 100000) (c : Int) (l : List Int) : Q.f44F (c, rt l s) = some (rt l (s.place c)) := by
  have h1 := h.lv
  have h2 := h.cl
  have ho := h.ov _ (top_mem h)
  unfold Q.f44F
  simp only [rt, f42_top h hk, Option.bind_some]
  rw [if_pos (by unfold roomOk; first | omega | (simp; omega))]
  by_cases hc : s.top.2.1 ≥ 0
  · rw [if_pos (by rw [decide_eq_true_eq]; exact hc)]
    simp only [Option.bind_some]
    rw [if_pos (by unfold roomOk; first | omega | (simp; omega))]
    simp only [St.place, St.tell]
    rw [if_pos (by omega)]
  · rw [if_neg (by rw [decide_eq_true_eq]; exact hc)]
    simp only [Option.bind_some]
    rw [if_pos (by unfold roomOk; first | omega | (simp; omega))]
    simp only [St.place, St.tell]
    rw [if_neg (by omega)]

theorem f38_eq {k m : Nat} {s : St} (h : SInv k m s) (hk : k ≤ 100000) (hm : m ≤ 100000) (c : Int) (hc : c = 14 ∨ c = 15 ∨ c = 16 ∨ c = 17) (l : List Int) :
    Q.f38F (c, rt l s) = some (rt l ((s.tell s.top.1 c).embed (if c = 16 ∨ c = 17 then 1 else 0) (if c = 15 then 0 else if c = 17 then 1 else -1))) := by
  have h1 := h.lv
  have h2 := h.cl
  have hl := h.len
  have ht := h.lev _ (top_mem h)
  have hle := h.le1
  have hle0 := h.le0
  unfold Q.f38F
  simp only [rt, f42_top h hk, Option.bind_some]
  rw [if_pos (by unfold roomOk; first | omega | (simp; omega)), if_pos (by unfold roomOk; first | omega | (simp; omega))]
  have e57 : ∀ e, Q.f46F (e, rt l (s.tell s.top.1 c)) = some (rt l ((s.tell s.top.1 c).push e)) := fun e => f46_eq e l _ (by simp only [St.tell]; omega)
  simp only [rt, St.tell] at e57
  have e58 := fun n => f48_eq s s.st.reverse (s.lv ++ [s.top.1]) (s.cl ++ [c]) l s.base s.v s.most n
  have emb : ∀ dir over, (s.tell s.top.1 c).embed dir over = if s.fits (nextS s.top.1 dir) then (s.tell s.top.1 c).push (nextS s.top.1 dir, over, false) else if s.li = 0 then { s.tell s.top.1 c with le := s.le + 1 } else s.tell s.top.1 c := fun _ _ => rfl
  rcases hc with rfl | rfl | rfl | rfl
  all_goals
    simp only [Int.reduceBEq, Int.reduceEq, reduceIte, Option.bind_some, Bool.false_eq_true, f42_top h hk, f47_eq _ _ ht.1 ht.2, e58, or_true, true_or, or_self]
    rw [emb]
    have hwr := wrap_i64 (show -9223372036854775808 ≤ s.le + 1 by omega) (show s.le + 1 ≤ 9223372036854775807 by omega)
    have hbe : (s.li == (0 : Int)) = decide (s.li = 0) := rfl
    by_cases h0 : s.li = 0
    · by_cases hf : s.fits (nextS s.top.1 0) <;> by_cases hf1 : s.fits (nextS s.top.1 1) <;>
        simp only [hf, hf1, decide_true, decide_false, if_true, if_false, e57, Option.bind_some, Bool.false_eq_true, St.tell, if_pos h0, hbe, decide_eq_true h0, hwr] <;> rfl
    · by_cases hf : s.fits (nextS s.top.1 0) <;> by_cases hf1 : s.fits (nextS s.top.1 1) <;>
        simp only [hf, hf1, decide_true, decide_false, if_true, if_false, e57, Option.bind_some, Bool.false_eq_true, St.tell, if_neg h0, hbe, decide_eq_false h0, hwr] <;> rfl



theorem f39_eq {k m : Nat} {s : St} (h : SInv k m s) (hk : k ≤ 99000) (hm : m ≤ 99000) {l : List Int} (hl : l.length ≤ 100000) (i c : Int) : Q.f39F (i, c, rt l s) = some (rt l ((s.place c).iso (isoS l i))) := by
  have hp := h.place c
  have ht := hp.lev _ (top_mem hp)
  have hlen := hp.len
  have hv := isos_le (s.place c).st
  have hvn := hp.vn
  have hli := hp.li1
  have hli0 := hp.li0
  have e48 := f44_eq h (by omega) (by omega) c l
  have e57 := fun e => f46_eq e l { s.place c with v := (s.place c).v + 1 } (by simp only; omega)
  have e58 := fun n st x y z a b d => f48_eq (s.place c) st x y z a b d n
  simp only [rt] at e48 e57
  unfold Q.f39F
  simp only [rt, e48, Option.bind_some, f42_top hp (by omega), f49_eq hl, f47_eq _ _ ht.1 ht.2, e58]
  unfold St.iso
  by_cases hf : (s.place c).fits (nextS (s.place c).top.1 (isoS l i))
  · rw [if_pos hf, if_pos (by rw [decide_eq_true_eq]; exact hf), wrap_i64 (by omega) (by omega)]
    simp only [e57, Option.bind_some]
    rfl
  · rw [if_neg hf, if_neg (by rw [decide_eq_true_eq]; exact hf), wrap_i64 (by omega) (by omega)]

def popTo : List Ent → List Ent
  | [] => []
  | e :: r => if e.2.2 = true then e :: r else popTo r

theorem popTo_spec : ∀ (st : List Ent), 0 < isos st → ∃ e r, popTo st = e :: r ∧ popIso st = r ∧ r.length ≤ st.length
  | [], h => by simp [isos] at h
  | e :: r, h => by
    unfold popTo popIso
    cases he : e.2.2 with
    | true => exact ⟨e, r, by simp, by simp, by simp⟩
    | false =>
      have hi : isos (e :: r) = isos r := by show (if e.2.2 = true then 1 else 0) + isos r = _; rw [he]; simp
      rw [hi] at h
      obtain ⟨e', r', h1, h2, h3⟩ := popTo_spec r h
      exact ⟨e', r', by simpa using h1, by simpa using h2, by simp; omega⟩

theorem f42_cons (e : Ent) (r : List Ent) (h : r.length ≤ 1000000) (a b c d f : Int) (x y z : List Int) : Q.f42F (a, (e :: r).reverse, b, c, d, f, x, y, z) = some e := by
  unfold Q.f42F
  simp only [last_rev e r h]
  rw [if_pos (by simp; omega), Int.toNat_natCast, getD_rev]

theorem popTo_loop (l : List Int) : ∀ (st : List Ent) (a b c d f : Int) (lv cl : List Int), 0 < isos st → st.length ≤ 1000000 →
    iter (fun (s1 : Int × Int × Int × Int × Int × List Int × List Ent × List Int × List Int) =>
      Option.bind (Q.f42F (s1.1, s1.snd.snd.snd.snd.snd.snd.1, s1.snd.1, s1.snd.snd.1, s1.snd.snd.snd.1, s1.snd.snd.snd.snd.1, s1.snd.snd.snd.snd.snd.snd.snd.1, s1.snd.snd.snd.snd.snd.snd.snd.2, s1.snd.snd.snd.snd.snd.1))
        fun (v2 : Ent) =>
        if (!v2.snd.snd) = true then
          Option.bind (Q.f50F (s1.1, s1.snd.1, s1.snd.snd.1, s1.snd.snd.snd.1, s1.snd.snd.snd.snd.1, s1.snd.snd.snd.snd.snd.1, s1.snd.snd.snd.snd.snd.snd.1, s1.snd.snd.snd.snd.snd.snd.snd.1, s1.snd.snd.snd.snd.snd.snd.snd.2))
            fun (v3 : Int × Int × Int × Int × Int × List Int × List Ent × List Int × List Int) =>
            some (Sum.inl (v3.1, v3.snd.1, v3.snd.snd.1, v3.snd.snd.snd.1, v3.snd.snd.snd.snd.1, v3.snd.snd.snd.snd.snd.1, v3.snd.snd.snd.snd.snd.snd.1, v3.snd.snd.snd.snd.snd.snd.snd.1, v3.snd.snd.snd.snd.snd.snd.snd.2))
        else
          some (Sum.inr (s1.1, s1.snd.1, s1.snd.snd.1, s1.snd.snd.snd.1, s1.snd.snd.snd.snd.1, s1.snd.snd.snd.snd.snd.1, s1.snd.snd.snd.snd.snd.snd.1, s1.snd.snd.snd.snd.snd.snd.snd.1, s1.snd.snd.snd.snd.snd.snd.snd.2)))
      (a, b, c, d, f, l, st.reverse, lv, cl) = some (a, b, c, d, f, l, (popTo st).reverse, lv, cl)
  | [], a, b, c, d, f, lv, cl, h, _ => by simp [isos] at h
  | e :: r, a, b, c, d, f, lv, cl, h, hl => by
    have h47 := f42_cons e r (by simp at hl; omega)
    have h59 := f50_eq e r l ⟨a, b, c, d, f, e :: r, lv, cl⟩ rfl (by simp at hl; omega)
    simp only [rt] at h59
    cases he : e.2.2 with
    | true =>
      rw [iter_inr (e := (a, b, c, d, f, l, (e :: r).reverse, lv, cl)) (by simp only [h47, Option.bind_some, he]; rfl)]
      unfold popTo
      rw [if_pos he]
    | false =>
      rw [iter_inl (s' := (a, b, c, d, f, l, r.reverse, lv, cl)) (by simp only [h47, Option.bind_some, he, Bool.not_false, if_true, h59])]
      rw [popTo_loop l r a b c d f lv cl (by unfold isos at h; rw [he] at h; simpa using h) (by simp at hl; omega)]
      conv => rhs; unfold popTo
      rw [if_neg (by rw [he]; simp)]

theorem f40_eq {k m : Nat} {s : St} (h : SInv k m s) (hk : k ≤ 99000) (hm : m ≤ 99000) (c : Int) (l : List Int) : Q.f40F (c, rt l s) = some (rt l (s.fin.place c)) := by
  have hlen := h.len
  have hvn := h.vn
  have hv := isos_le s.st
  have e48 := f44_eq h.fin (by omega) (by omega) c l
  unfold Q.f40F
  simp only [rt] at e48 ⊢
  by_cases h1 : s.li > 0
  · rw [if_pos (by rw [decide_eq_true_eq]; exact h1), wrap_i64 (by omega) (by have := h.li1; omega)]
    have hf : s.fin = { s with li := s.li - 1 } := by unfold St.fin; rw [if_pos h1]
    rw [hf] at e48 ⊢
    simp only [e48, Option.bind_some]
  · rw [if_neg (by rw [decide_eq_true_eq]; exact h1)]
    by_cases h2 : s.v > 0
    · rw [if_pos (by rw [decide_eq_true_eq]; exact h2), popTo_loop l s.st _ _ _ _ _ _ _ (by omega) (by omega)]
      obtain ⟨e, r, p1, p2, p3⟩ := popTo_spec s.st (by omega)
      have hf : s.fin = { s with le := 0, v := s.v - 1, st := r } := by unfold St.fin; rw [if_neg h1, if_pos h2, p2]
      rw [hf] at e48 ⊢
      have e59 := f50_eq e r l { s with le := 0, st := e :: r } rfl (by omega)
      simp only [rt] at e59
      simp only [p1, Option.bind_some, e59]
      rw [wrap_i64 (by omega) (by omega)]
      simp only [e48, Option.bind_some]
    · rw [if_neg (by rw [decide_eq_true_eq]; exact h2)]
      have hf : s.fin = s := by unfold St.fin; rw [if_neg h1, if_neg h2]
      rw [hf] at e48 ⊢
      simp only [e48, Option.bind_some]

theorem f41_eq {k m : Nat} {s : St} (h : SInv k m s) (hk : k ≤ 99000) (hm : m ≤ 99000) (l : List Int) : Q.f41F (rt l s) = some (rt l (s.tell s.top.1 18).back) := by
  have hlen := h.len
  have h1 := h.lv
  have h2 := h.cl
  have hb : (s.tell s.top.1 18).back = if 0 < s.li then s.tell s.top.1 18 else if 0 < s.le then { s.tell s.top.1 18 with le := s.le - 1 } else if 1 < s.st.length ∧ s.top.2.2 = false then { s.tell s.top.1 18 with st := s.st.tail } else s.tell s.top.1 18 := rfl
  rw [hb]
  unfold Q.f41F
  simp only [rt, f42_top h (show k ≤ 100000 by omega), Option.bind_some]
  rw [if_pos (by unfold roomOk; first | omega | (simp; omega)), if_pos (by unfold roomOk; first | omega | (simp; omega))]
  by_cases c1 : s.li > 0
  · rw [if_pos (by rw [decide_eq_true_eq]; exact c1), if_pos c1]
    rfl
  · rw [if_neg (by rw [decide_eq_true_eq]; exact c1), if_neg c1]
    by_cases c2 : s.le > 0
    · rw [if_pos (by rw [decide_eq_true_eq]; exact c2), if_pos c2, wrap_i64 (by omega) (by have := h.le1; omega)]
      rfl
    · rw [if_neg (by rw [decide_eq_true_eq]; exact c2), if_neg c2]
      cases ho : s.top.2.2 with
      | true =>
        simp only [Bool.not_true, Bool.false_eq_true, if_false, Option.bind_some]
        rw [if_neg (by simp)]
        rfl
      | false =>
        simp only [Bool.not_false, if_true, Option.bind_some]
        by_cases c3 : 1 < s.st.length
        · rw [if_pos (by rw [decide_eq_true_eq, List.length_reverse]; omega), if_pos (by simp [c3])]
          obtain ⟨e, r, hs⟩ := h.ne
          have e59 := f50_eq e r l { s with lv := s.lv ++ [s.top.1], cl := s.cl ++ [18] } hs (by rw [hs] at hlen; simp at hlen; omega)
          simp only [rt] at e59
          simp only [e59, Option.bind_some, St.tell]
          rw [hs]
          rfl
        · rw [if_neg (by rw [decide_eq_true_eq, List.length_reverse]; omega), if_neg (fun hh => c3 hh.1)]
          rfl

theorem f28_eq {l : List Int} (hl : l.length ≤ 98000) (n : Int) : Q.f28F (l, n) = some (rt l (runS l (baseOf n) l.length)) := by
  unfold Q.f28F
  have e0 : (if (n != (0 : Int)) = true then some ((1 : Int), (0 : Int), (0 : Int), (0 : Int), (0 : Int), l, ([] : List Ent), ([] : List Int), ([] : List Int)) else some ((0 : Int), (0 : Int), (0 : Int), (0 : Int), (0 : Int), l, [], [], [])) = some (rt l ⟨baseOf n, 0, 0, 0, 0, [], [], []⟩) := by
    unfold baseOf
    by_cases h : n = 0
    · rw [if_neg (by simpa using h), if_pos h]; rfl
    · rw [if_pos (by simpa using h), if_neg h]; rfl
  simp only []
  rw [e0]
  have e42 := f37_eq l ⟨baseOf n, 0, 0, 0, 0, [], [], []⟩
  simp only [rt] at e42
  simp only [Option.bind_some, rt, e42]
  have hinit : (St.mk (baseOf n) 0 0 0 0 [] [] []).reset = runS l (baseOf n) 0 := rfl
  rw [hinit]
  suffices h : ∃ e, iter _ _ = some e ∧ e = rt l (runS l (baseOf n) l.length) by
    obtain ⟨e, h1, rfl⟩ := h
    rw [h1]
    rfl
  refine iter_rule (I := fun s => ∃ i : Nat, i ≤ l.length ∧ s = ((i : Int), rt l (runS l (baseOf n) i))) (fun s => (l.length - s.1).toNat) ?_ _ ⟨0, Nat.zero_le _, rfl⟩
  rintro _ ⟨i, hi, rfl⟩
  dsimp only
  by_cases h : i < l.length
  · have hb : (0 : Int) ≤ i ∧ (i : Int) < l.length := ⟨by omega, by omega⟩
    rw [if_pos (by rw [decide_eq_true_eq]; omega)]
    have hS := runS_inv (baseOf_or n) l i
    have hwr : IntKind.i64.wrap ((i : Int) + 1) = ((i + 1 : Nat) : Int) := by rw [wrap_i64 (by omega) (by omega)]; rfl
    simp only [if_pos hb, Int.toNat_natCast, hwr]
    refine .inl ⟨((i + 1 : Nat), rt l (runS l (baseOf n) (i + 1))), ?_, ⟨i + 1, h, rfl⟩, by simp only []; omega⟩
    rw [runS_succ]
    generalize runS l (baseOf n) i = s at *
    have h1 := hS.lv
    have h2 := hS.cl
    have e43 := fun c hc => f38_eq hS (by omega) (by omega) c hc l
    have e44 := fun c => f39_eq hS (show i ≤ 99000 by omega) (by omega) (show l.length ≤ 100000 by omega) i c
    have e45 := fun c => f40_eq hS (show i ≤ 99000 by omega) (by omega) c l
    have e46 := f41_eq hS (show i ≤ 99000 by omega) (by omega) l
    have e48 := fun c => f44_eq hS (by omega) (by omega) c l
    have e42' := f37_eq l s
    have e47 := f42_top hS (show i ≤ 100000 by omega)
    simp only [rt] at e43 e44 e45 e46 e48 e42'
    unfold St.step
    simp only [rt]
    generalize l.getD i 0 = c
    obtain ⟨b, hb1, hb2⟩ := f43_eq c
    by_cases c14 : c = 14
    · subst c14
      have e43' := e43 14 (.inl rfl)
      simp only [Int.reduceEq, reduceIte, or_self] at e43'
      simp only [Int.reduceBEq, Int.reduceEq, reduceIte, Option.bind_some, e43', Bool.false_eq_true]
    by_cases c16 : c = 16
    · subst c16
      have e43' := e43 16 (.inr (.inr (.inl rfl)))
      simp only [Int.reduceEq, reduceIte, or_false, true_or] at e43'
      simp only [Int.reduceBEq, Int.reduceEq, reduceIte, Option.bind_some, e43', Bool.false_eq_true]
    by_cases c15 : c = 15
    · subst c15
      have e43' := e43 15 (.inr (.inl rfl))
      simp only [Int.reduceEq, reduceIte, or_self] at e43'
      simp only [Int.reduceBEq, Int.reduceEq, reduceIte, Option.bind_some, e43', Bool.false_eq_true]
    by_cases c17 : c = 17
    · subst c17
      have e43' := e43 17 (.inr (.inr (.inr rfl)))
      simp only [Int.reduceEq, reduceIte, or_true, false_or] at e43'
      simp only [Int.reduceBEq, Int.reduceEq, reduceIte, Option.bind_some, e43', Bool.false_eq_true]
    have f (n : Int) (hn : c ≠ n) : (c == n) = false := by simpa using hn
    simp only [f 14 c14, f 16 c16, f 15 c15, f 17 c17, c14, c16, c15, c17, Bool.false_eq_true, if_false, Option.bind_some, f35_eq]
    cases ho : opens c with
    | true =>
      have c18 : c ≠ 18 := by intro e; subst e; simp [opens] at ho
      have c9 : c ≠ 9 := by intro e; subst e; simp [opens] at ho
      simp only [if_true, e44, Option.bind_some, c18, c9, if_false]
    | false =>
      simp only [Bool.false_eq_true, if_false]
      by_cases c22 : c = 22
      · subst c22
        simp only [Int.reduceBEq, Int.reduceEq, reduceIte, Option.bind_some, e45]
      by_cases c18 : c = 18
      · subst c18
        simp only [Int.reduceBEq, Int.reduceEq, reduceIte, Option.bind_some, e46, Bool.false_eq_true]
      by_cases c9 : c = 9
      · subst c9
        simp only [Int.reduceBEq, Int.reduceEq, reduceIte, Option.bind_some, e47, Bool.false_eq_true]
        rw [if_pos (by unfold roomOk; first | omega | (simp; omega)), if_pos (by unfold roomOk; first | omega | (simp; omega))]
        rfl
      by_cases c10 : c = 10
      · subst c10
        simp only [Int.reduceBEq, Int.reduceEq, reduceIte, Option.bind_some, e42', Bool.false_eq_true]
        rw [if_pos (by unfold roomOk; simp [St.reset]; omega), if_pos (by unfold roomOk; simp [St.reset]; omega)]
        rfl
      simp only [f 22 c22, f 18 c18, f 9 c9, f 10 c10, c22, c18, c9, c10, Bool.false_eq_true, if_false, hb1, Option.bind_some, hb2]
      by_cases hw : c < 0 ∨ 23 ≤ c
      · simp only [hw, decide_true, if_true, e48, Option.bind_some]
      · simp only [hw, decide_false, Bool.false_eq_true, if_false, e48, Option.bind_some]
  · have : i = l.length := by omega
    subst this
    rw [if_neg (by rw [decide_eq_true_eq]; omega)]
    exact .inr ⟨_, rfl, rfl⟩

theorem f15_eq {l : List Int} (hl : l.length ≤ 98000) (n : Int) : Q.f15F (l, n) = some ((runS l (baseOf n) l.length).lv, (runS l (baseOf n) l.length).cl) := by
  unfold Q.f15F
  simp only [f28_eq hl, Option.bind_some]




/-- What is left out. -/
def outS (c : Int) : Bool := c == 9 || c == 14 || c == 15 || c == 16 || c == 17 || c == 18

theorem outS_eq (c : Int) : outS c = outC c := rfl

/-- The stack rises. -/
structure BInv (s : St) : Prop where
  pw : s.st.Pairwise fun a b => b.1 < a.1
  low : ∀ e ∈ s.st, s.base ≤ e.1
  m0 : 1 ≤ s.most
  m1 : s.most ≤ 126

theorem pw_len : ∀ (st : List Ent) (n : Nat), st.Pairwise (fun a b => b.1 < a.1) → (∀ e ∈ st, 0 ≤ e.1 ∧ e.1 < n) → st.length ≤ n
  | [], n, _, _ => Nat.zero_le _
  | e :: r, 0, _, h => by have := h e (by simp); omega
  | e :: r, n + 1, hp, h => by
    rw [List.pairwise_cons] at hp
    have := pw_len r n hp.2 fun x hx => by
      have h1 := hp.1 x hx
      have h2 := h e (by simp)
      have h3 := h x (by simp [hx])
      omega
    simp; omega

theorem BInv.push {k m : Nat} {s : St} (h : SInv k m s) (b : BInv s) {e : Ent} (h1 : ∀ x ∈ s.st, x.1 < e.1) (h2 : e.1 ≤ 125) (v : Int) : BInv { s.push e with v := v } where
  pw := List.pairwise_cons.2 ⟨h1, b.pw⟩
  low := fun x hx => by
    rcases List.mem_cons.1 hx with hx | hx
    · subst hx
      have := h1 _ (top_mem h)
      have := b.low _ (top_mem h)
      show s.base ≤ x.1
      omega
    · exact b.low x hx
  m0 := by have := b.m0; simp [St.push]; omega
  m1 := by
    have := b.m1
    have hl := pw_len (e :: s.st) 126 (List.pairwise_cons.2 ⟨h1, b.pw⟩) (fun x hx => by
      rcases List.mem_cons.1 hx with hx | hx
      · subst hx
        have := h1 _ (top_mem h)
        have := (h.lev _ (top_mem h)).1
        omega
      · have := h.lev x hx; omega)
    simp at hl
    simp [St.push]
    omega

theorem top_max {k m : Nat} {s : St} (h : SInv k m s) (b : BInv s) : ∀ x ∈ s.st, x.1 ≤ s.top.1 := by
  intro x hx
  obtain ⟨e, r, hs⟩ := h.ne
  have hp := b.pw
  rw [hs] at hx hp
  have ht : s.top = e := by unfold St.top; rw [hs]; rfl
  rw [ht]
  rw [List.pairwise_cons] at hp
  rcases List.mem_cons.1 hx with hx | hx
  · subst hx; exact Int.le_refl _
  · exact Int.le_of_lt (hp.1 x hx)

theorem BInv.embed {k m : Nat} {s : St} (h : SInv k m s) (b : BInv s) (dir over : Int) : BInv (s.embed dir over) := by
  have hn := nextS_bounds (dir := dir) (h.lev _ (top_mem h)).1
  unfold St.embed
  split
  · rename_i hf
    have := b.push h (e := (nextS s.top.1 dir, over, false)) (fun x hx => by have := top_max h b x hx; simp only; omega) hf.1 s.v
    exact this
  · split
    · exact ⟨b.pw, b.low, b.m0, b.m1⟩
    · exact b

theorem BInv.iso {k m : Nat} {s : St} (h : SInv k m s) (b : BInv s) (dir : Int) : BInv (s.iso dir) := by
  have hn := nextS_bounds (dir := dir) (h.lev _ (top_mem h)).1
  unfold St.iso
  split
  · rename_i hf
    exact b.push h (e := (nextS s.top.1 dir, -1, true)) (fun x hx => by have := top_max h b x hx; simp only; omega) hf.1 _
  · exact ⟨b.pw, b.low, b.m0, b.m1⟩

theorem popIso_sub : ∀ (st : List Ent), (popIso st).Sublist st
  | [] => List.Sublist.slnil
  | e :: r => by
    unfold popIso
    split
    · exact List.sublist_cons_self e r
    · exact (popIso_sub r).cons e

theorem BInv.fin {s : St} (b : BInv s) : BInv s.fin := by
  unfold St.fin
  split
  · exact ⟨b.pw, b.low, b.m0, b.m1⟩
  · split
    · exact ⟨b.pw.sublist (popIso_sub _), fun e he => b.low e ((popIso_sub _).subset he), b.m0, b.m1⟩
    · exact b

theorem BInv.back {s : St} (b : BInv s) : BInv s.back := by
  unfold St.back
  split
  · exact b
  · split
    · exact ⟨b.pw, b.low, b.m0, b.m1⟩
    · split
      · exact ⟨b.pw.sublist (List.tail_sublist _), fun e he => b.low e (List.mem_of_mem_tail he), b.m0, b.m1⟩
      · exact b

theorem BInv.reset {s : St} (b : BInv s) : BInv s.reset where
  pw := by simp [St.reset]
  low := fun e he => by simp [St.reset] at he; subst he; exact Int.le_refl _
  m0 := by have := b.m0; simp [St.reset]; omega
  m1 := by have := b.m1; simp [St.reset]; omega

theorem BInv.tell {s : St} (b : BInv s) (x y : Int) : BInv (s.tell x y) := ⟨b.pw, b.low, b.m0, b.m1⟩
theorem BInv.place {s : St} (b : BInv s) (c : Int) : BInv (s.place c) := b.tell _ _

/-- What a step tells. -/
structure Told (s s' : St) (c : Int) : Prop where
  told : ∃ a b, s'.lv = s.lv ++ [a] ∧ s'.cl = s.cl ++ [b] ∧ s.base ≤ a ∧ a ≤ 125 ∧ outS b = outS c ∧ (c = 10 → a = s.base)
  base : s'.base = s.base

theorem lv_embed (s : St) (d o : Int) : (s.embed d o).lv = s.lv ∧ (s.embed d o).cl = s.cl ∧ (s.embed d o).base = s.base := by
  unfold St.embed
  split
  · exact ⟨rfl, rfl, rfl⟩
  · split <;> exact ⟨rfl, rfl, rfl⟩
theorem lv_iso (s : St) (d : Int) : (s.iso d).lv = s.lv ∧ (s.iso d).cl = s.cl ∧ (s.iso d).base = s.base := by
  unfold St.iso
  split <;> exact ⟨rfl, rfl, rfl⟩
theorem lv_back (s : St) : s.back.lv = s.lv ∧ s.back.cl = s.cl ∧ s.back.base = s.base := by
  unfold St.back
  split
  · exact ⟨rfl, rfl, rfl⟩
  · split
    · exact ⟨rfl, rfl, rfl⟩
    · split <;> exact ⟨rfl, rfl, rfl⟩
theorem lv_fin (s : St) : s.fin.lv = s.lv ∧ s.fin.cl = s.cl ∧ s.fin.base = s.base := by
  unfold St.fin
  split
  · exact ⟨rfl, rfl, rfl⟩
  · split <;> exact ⟨rfl, rfl, rfl⟩

theorem Told.tell {k m : Nat} {s : St} (h : SInv k m s) (b : BInv s) (c : Int) (h10 : c ≠ 10) : Told s (s.tell s.top.1 c) c :=
  ⟨⟨_, _, rfl, rfl, b.low _ (top_mem h), (h.lev _ (top_mem h)).2, rfl, fun e => absurd e h10⟩, rfl⟩

theorem Told.place {k m : Nat} {s : St} (h : SInv k m s) (b : BInv s) (c c' : Int) (ho : outS c = false) (ho' : outS c' = false) (h10 : c ≠ 10) : Told s (s.place c') c := by
  refine ⟨⟨_, _, rfl, rfl, b.low _ (top_mem h), (h.lev _ (top_mem h)).2, ?_, fun e => absurd e h10⟩, rfl⟩
  rw [ho]
  split
  · rcases h.ov _ (top_mem h) with e | e | e
    · rename_i hne; exact absurd e hne
    · rw [e]; rfl
    · rw [e]; rfl
  · exact ho'

theorem Told.of {s s1 s' : St} {c : Int} (h : Told s s1 c) (h1 : s'.lv = s1.lv) (h2 : s'.cl = s1.cl) (h3 : s'.base = s1.base) : Told s s' c := by
  obtain ⟨⟨a, b, g1, g2, g3⟩, g4⟩ := h
  exact ⟨⟨a, b, h1.trans g1, h2.trans g2, g3⟩, h3.trans g4⟩

theorem step_told {k : Nat} {s : St} (h : SInv k k s) (b : BInv s) (l : List Int) (i : Nat) : Told s (s.step l i) (l.getD i 0) ∧ BInv (s.step l i) := by
  unfold St.step
  simp only []
  generalize l.getD i 0 = c
  have emb : ∀ d o, c ≠ 10 → Told s ((s.tell s.top.1 c).embed d o) c ∧ BInv ((s.tell s.top.1 c).embed d o) := fun d o h10 =>
    ⟨(Told.tell h b c h10).of (lv_embed _ _ _).1 (lv_embed _ _ _).2.1 (lv_embed _ _ _).2.2, (b.tell _ _).embed (h.tell _ _) d o⟩
  by_cases c14 : c = 14
  · rw [if_pos c14]; exact emb 0 (-1) (by omega)
  rw [if_neg c14]
  by_cases c16 : c = 16
  · rw [if_pos c16]; exact emb 1 (-1) (by omega)
  rw [if_neg c16]
  by_cases c15 : c = 15
  · rw [if_pos c15]; exact emb 0 0 (by omega)
  rw [if_neg c15]
  by_cases c17 : c = 17
  · rw [if_pos c17]; exact emb 1 1 (by omega)
  rw [if_neg c17]
  by_cases c18 : c = 18
  · rw [if_pos c18]; exact ⟨(Told.tell h b c (by omega)).of (lv_back _).1 (lv_back _).2.1 (lv_back _).2.2, (b.tell _ _).back⟩
  rw [if_neg c18]
  by_cases c9 : c = 9
  · rw [if_pos c9]; exact ⟨Told.tell h b c (by omega), b.tell _ _⟩
  rw [if_neg c9]
  have f (n : Int) (hn : c ≠ n) : (c == n) = false := by simpa using hn
  have ho : outS c = false := by unfold outS; rw [f 9 c9, f 14 c14, f 15 c15, f 16 c16, f 17 c17, f 18 c18]; rfl
  by_cases hop : opens c = true
  · rw [if_pos hop]
    have h10 : c ≠ 10 := by intro e; subst e; simp [opens] at hop
    exact ⟨(Told.place h b c c ho ho h10).of (lv_iso _ _).1 (lv_iso _ _).2.1 (lv_iso _ _).2.2, (b.place _).iso (h.place _) _⟩
  rw [if_neg hop]
  by_cases c22 : c = 22
  · rw [if_pos c22]
    have := Told.place h.fin b.fin c c ho ho (by omega)
    obtain ⟨⟨x, y, g1, g2, g3, g4⟩, g5⟩ := this
    obtain ⟨k1, k2, k3⟩ := lv_fin s
    rw [k1] at g1; rw [k2] at g2; rw [k3] at g3 g4 g5
    exact ⟨⟨⟨x, y, g1, g2, g3, g4⟩, g5⟩, b.fin.place _⟩
  rw [if_neg c22]
  by_cases c10 : c = 10
  · rw [if_pos c10]
    refine ⟨⟨⟨s.base, c, rfl, rfl, Int.le_refl _, ?_, rfl, fun _ => rfl⟩, rfl⟩, b.reset.tell _ _⟩
    have := h.base
    omega
  rw [if_neg c10]
  split
  · exact ⟨Told.place h b c 0 ho rfl c10, b.place _⟩
  · exact ⟨Told.place h b c c ho ho c10, b.place _⟩

theorem getD_app {l : List Int} {a : Int} {i n : Nat} (hl : l.length = n) : (l ++ [a]).getD i 0 = if i = n then a else l.getD i 0 := by
  simp only [List.getD_eq_getElem?_getD]
  by_cases h : i = n
  · rw [if_pos h, List.getElem?_append_right (by omega), h, hl]
    simp
  · rw [if_neg h]
    by_cases h1 : i < n
    · rw [List.getElem?_append_left (by omega)]
    · rw [List.getElem?_eq_none (by simp; omega), List.getElem?_eq_none (by omega)]

theorem runS_told {b : Int} (hb : b = 0 ∨ b = 1) (l : List Int) : ∀ n, BInv (runS l b n) ∧ (runS l b n).base = b ∧ (runS l b n).lv.length = n ∧ (runS l b n).cl.length = n ∧
    ∀ i, i < n → b ≤ (runS l b n).lv.getD i 0 ∧ (runS l b n).lv.getD i 0 ≤ 125 ∧ outS ((runS l b n).cl.getD i 0) = outS (l.getD i 0) ∧ (l.getD i 0 = 10 → (runS l b n).lv.getD i 0 = b)
  | 0 => ⟨⟨by simp [runS, St.init], fun e he => by simp [runS, St.init] at he; subst he; simp [runS, St.init], by simp [runS, St.init], by simp [runS, St.init]⟩, rfl, rfl, rfl, fun i hi => by omega⟩
  | n + 1 => by
    obtain ⟨h1, h2, h3, h4, h5⟩ := runS_told hb l n
    rw [runS_succ]
    obtain ⟨⟨⟨x, y, g1, g2, g3, g4, g5, g6⟩, g7⟩, g8⟩ := step_told (runS_inv hb l n) h1 l n
    rw [h2] at g3 g6 g7
    refine ⟨g8, g7, by rw [g1]; simp [h3], by rw [g2]; simp [h4], fun i hi => ?_⟩
    rw [g1, g2, getD_app h3, getD_app h4]
    by_cases hin : i = n
    · subst hin
      simp only [if_true]
      exact ⟨g3, g4, g5, g6⟩
    · simp only [hin, if_false]
      exact h5 i (by omega)

/-- Nothing that turns levels. -/
def plainK (c : Int) : Bool := !outS c && (!opens c && c != 22)

/-- Without what turns levels all stay. -/
theorem runS_plain {b : Int} (hb : b = 0 ∨ b = 1) (l : List Int) : ∀ n, (∀ i, i < n → plainK (l.getD i 0) = true) → (runS l b n).st = [(b, -1, false)] ∧ (runS l b n).base = b ∧
    ∀ i, i < n → (runS l b n).lv.getD i 0 = b ∧ (runS l b n).cl.getD i 0 = if l.getD i 0 < 0 ∨ 23 ≤ l.getD i 0 then 0 else l.getD i 0
  | 0, _ => ⟨rfl, rfl, fun i hi => by omega⟩
  | n + 1, h => by
    obtain ⟨h1, h2, h3⟩ := runS_plain hb l n fun i hi => h i (by omega)
    obtain ⟨_, _, k3, k4, _⟩ := runS_told hb l n
    rw [runS_succ]
    have hp := h n (by omega)
    have key : ∃ y, (runS l b n).step l n = { (runS l b n).tell b y with li := ((runS l b n).step l n).li, le := ((runS l b n).step l n).le, v := ((runS l b n).step l n).v, most := ((runS l b n).step l n).most } ∧ y = if l.getD n 0 < 0 ∨ 23 ≤ l.getD n 0 then 0 else l.getD n 0 := by
      unfold St.step
      simp only []
      generalize l.getD n 0 = c at *
      generalize runS l b n = s at *
      unfold plainK outS at hp
      simp only [Bool.and_eq_true, Bool.not_eq_true', Bool.or_eq_false_iff, beq_eq_false_iff_ne, bne_iff_ne] at hp
      obtain ⟨⟨⟨⟨⟨⟨p9, p14⟩, p15⟩, p16⟩, p17⟩, p18⟩, po, p22⟩ := hp
      have ht : s.top = (b, -1, false) := by unfold St.top; rw [h1]; rfl
      have hpl : ∀ c', s.place c' = s.tell b c' := fun c' => by unfold St.place; rw [ht]; rfl
      simp only [p9, p14, p15, p16, p17, p18, p22, po, Bool.false_eq_true, if_false]
      by_cases c10 : c = 10
      · simp only [c10, if_true]
        refine ⟨10, ?_, by rfl⟩
        simp only [St.tell, St.reset, h1, h2]
      · simp only [c10, if_false]
        by_cases hw : c < 0 ∨ 23 ≤ c
        · simp only [hw, if_true, hpl]
          exact ⟨0, rfl, rfl⟩
        · simp only [hw, if_false, hpl]
          exact ⟨c, rfl, rfl⟩
    obtain ⟨y, g1, g2⟩ := key
    generalize hs' : (runS l b n).step l n = s' at *
    have e1 : s'.st = (runS l b n).st := by rw [g1]; rfl
    have e2 : s'.base = (runS l b n).base := by rw [g1]; rfl
    have e3 : s'.lv = (runS l b n).lv ++ [b] := by rw [g1]; rfl
    have e4 : s'.cl = (runS l b n).cl ++ [y] := by rw [g1]; rfl
    refine ⟨e1.trans h1, e2.trans h2, fun i hi => ?_⟩
    rw [e3, e4, getD_app k3, getD_app k4]
    by_cases hin : i = n
    · subst hin
      simp only [if_true]
      exact ⟨trivial, g2⟩
    · simp only [hin, if_false]
      exact h3 i (by omega)

end Go.Sx
