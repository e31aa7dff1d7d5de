/- The symbolic evaluator, part D: what a state means; the operations that turn nothing are told rightly. -/
import Derived.Test.YtemngcdlgnconaaSxC
set_option linter.unusedVariables false
set_option linter.unusedSimpArgs false
namespace Go.Sx
open Go.RowKit

structure Base where
  w0 : World
  W : Nat → Prop
  M0 : Mem

/-- A map's entries. -/
def RepM (M : Mem) (K V : Ty) : List (K.den × V.den) → List MapEntry → Prop
  | [], l => l = []
  | x :: xs, l => ∃ m ms, l = m :: ms ∧ (∃ ck, Rep M K x.1 ck ∧ m.key = valOf K ck) ∧ (∃ cv, Rep M V x.2 cv ∧ m.val = valOf V cv) ∧ RepM M K V xs ms

theorem RepM_mono {M M' : Mem} (h : M.le M') {K V : Ty} : ∀ {xs : List (K.den × V.den)} {l : List MapEntry}, RepM M K V xs l → RepM M' K V xs l
  | [], _, hr => hr
  | _ :: _, _, ⟨m, ms, e, ⟨ck, k1, k2⟩, ⟨cv, v1, v2⟩, hr⟩ => ⟨m, ms, e, ⟨ck, Rep_mono h _ _ _ k1, k2⟩, ⟨cv, Rep_mono h _ _ _ v1, v2⟩, RepM_mono h hr⟩

theorem RepM_flat {M M' : Mem} {K V : Ty} (hK : K.flat = true) (hV : V.flat = true) : ∀ {xs : List (K.den × V.den)} {l : List MapEntry}, RepM M K V xs l → RepM M' K V xs l
  | [], _, hr => hr
  | _ :: _, _, ⟨m, ms, e, ⟨ck, k1, k2⟩, ⟨cv, v1, v2⟩, hr⟩ => ⟨m, ms, e, ⟨ck, Rep_flat _ _ _ hK k1, k2⟩, ⟨cv, Rep_flat _ _ _ hV v1, v2⟩, RepM_flat hK hV hr⟩

/-- When a map's entries came. -/
def Stamped (l : List MapEntry) (clock : Nat) : Prop := (∀ x ∈ l, x.born < clock) ∧ (l.map (·.born)).Nodup

theorem Stamped.nil (n : Nat) : Stamped [] n := ⟨by simp, by simp⟩
theorem Stamped.snoc {l : List MapEntry} {n : Nat} (h : Stamped l n) {m : MapEntry} (hm : m.born = n) : Stamped (l ++ [m]) (n + 1) := by
  refine ⟨fun x hx => ?_, ?_⟩
  · rcases List.mem_append.1 hx with hx | hx
    · have := h.1 x hx; omega
    · simp at hx; subst hx; omega
  · rw [List.map_append, List.nodup_append]
    refine ⟨h.2, by simp, fun a ha b hb => ?_⟩
    obtain ⟨x, hx, rfl⟩ := List.mem_map.1 ha
    have := h.1 x hx
    simp at hb; omega
theorem Stamped.set {l : List MapEntry} {n j : Nat} {m m' : MapEntry} (h : Stamped l n) (hj : l[j]? = some m) (hm : m'.born = m.born) : Stamped (l.set j m') n := by
  have hmem : m ∈ l := List.mem_of_getElem? hj
  refine ⟨fun x hx => ?_, ?_⟩
  · rcases List.mem_or_eq_of_mem_set hx with hx | hx
    · exact h.1 x hx
    · subst hx; rw [hm]; exact h.1 m hmem
  · have : (l.set j m').map (·.born) = l.map (·.born) := by
      apply List.ext_getElem?
      intro i
      rw [List.getElem?_map, List.getElem?_map, List.getElem?_set]
      by_cases hi : j = i
      · subst hi
        have hjl : j < l.length := (List.getElem?_eq_some_iff.1 hj).1
        have hjm : l[j] = m := (List.getElem?_eq_some_iff.1 hj).2
        simp [hm, hjl, hjm]
      · simp [hi]
    rw [this]; exact h.2

def HO.sat (E : Env) (w : World) (e : LE) : HO → Prop
  | .gone => True
  | .cells l => ∃ b c T, e.blk = some b ∧ w.heap[b]? = some (.cells c T (0, 0)) ∧ SV.satL E l c.toList
  | .arr T t xs => xs.length = e.len ∧ e.len ≤ e.cap ∧ e.cap ≤ maxLen ∧ (e.blk = none → e.cap = 0) ∧
      ∀ b, e.blk = some b → ∃ c d post, w.heap[b]? = some (.cells c T (0, 0)) ∧ c.toList = d ++ post ∧ RepL (Rep E.M t) xs d ∧ c.size = e.cap * t.size

  | .map K V es => ∃ b arr clock, e.blk = some b ∧ w.heap[b]? = some (.map arr clock) ∧ RepM E.M K V es arr.toList ∧ Stamped arr.toList clock
  | .frs t x => ∃ b c, e.blk = some b ∧ E.M b = some c ∧ Rep E.M t x c.toList
  | .fro t xs => xs.length = e.len ∧ e.len ≤ e.cap ∧ (xs = [] ∨ ∃ b d, e.blk = some b ∧ E.M.seg b 0 d ∧ RepL (Rep E.M t) xs d)

def Mem.agrees (M : Mem) (w : World) : Prop := ∀ b c, M b = some c → ∃ T fr, w.heap[b]? = some (.cells c T fr)

/-- What was there when the call began, and isn't given over to it, is as it was. -/
structure Base.ok (B : Base) (w : World) : Prop where
  os : w.os = B.w0.os
  tape : w.tape = B.w0.tape
  output : w.output = B.w0.output
  size : B.w0.heap.size ≤ w.heap.size
  block : ∀ k, k < B.w0.heap.size → ¬ B.W k → w.heap[k]? = B.w0.heap[k]?

structure Hp (B : Base) (E : Env) (hp : List HO) (w : World) : Prop where
  ag : E.M.agrees w
  base : B.M0.le E.M
  fresh : ∀ b c, E.M b = some c → B.M0 b = some c ∨ B.w0.heap.size ≤ b ∨ B.W b
  ok : B.ok w
  len : E.L.length = hp.length
  free : ∀ (i : Nat) (o : HO) (e : LE) (b : Nat), hp[i]? = some o → o.live = true → E.L[i]? = some e → e.blk = some b → E.M b = none ∧ (B.w0.heap.size ≤ b ∨ B.W b)
  dist : ∀ (i j : Nat) (o o' : HO) (e e' : LE) (b : Nat), hp[i]? = some o → o.live = true → hp[j]? = some o' → o'.live = true → E.L[i]? = some e → E.L[j]? = some e' → e.blk = some b → e'.blk = some b → i = j
  ob : ∀ (i : Nat) (o : HO) (e : LE), hp[i]? = some o → E.L[i]? = some e → o.sat E w e

theorem lt_of_some {α : Type} {l : Array α} {i : Nat} {x : α} (h : l[i]? = some x) : i < l.size := (Array.getElem?_eq_some_iff.1 h).1

/-- A live object's block, and a frozen one's, are there. -/
theorem HO.sat_lt {E : Env} {w : World} {e : LE} {o : HO} (hl : o.live = true) (h : o.sat E w e) {b : Nat} (hb : e.blk = some b) : b < w.heap.size := by
  cases o with
  | gone => simp [HO.live] at hl
  | fro t xs => simp [HO.live] at hl
  | frs t x => simp [HO.live] at hl
  | cells l =>
    obtain ⟨b', c, T, h1, h2, _⟩ := h
    rw [hb] at h1
    cases h1
    exact lt_of_some h2
  | arr T t xs =>
    obtain ⟨_, _, _, _, h5⟩ := h
    obtain ⟨c, d, post, h6, _⟩ := h5 b hb
    exact lt_of_some h6
  | map K V es =>
    obtain ⟨b', arr, clock, h1, h2, _⟩ := h
    rw [hb] at h1
    cases h1
    exact lt_of_some h2

/-- An object is what it was, as long as its block is. -/
theorem HO.sat_keep {E E' : Env} {w w' : World} {e : LE} {o : HO} (hE : E.le E') (h : o.sat E w e) (hb : ∀ b, o.live = true → e.blk = some b → w'.heap[b]? = w.heap[b]?) : o.sat E' w' e := by
  cases o with
  | gone => trivial
  | fro t xs =>
    obtain ⟨h1, h2, h3⟩ := h
    exact ⟨h1, h2, h3.imp id fun ⟨b, d, k1, k2, k3⟩ => ⟨b, d, k1, Mem.seg_mono hE.1 k2, RepL_mono (fun x cs => Rep_mono hE.1 t x cs) k3⟩⟩
  | frs t x =>
    obtain ⟨b, c, h1, h2, h3⟩ := h
    exact ⟨b, c, h1, hE.1 _ _ h2, Rep_mono hE.1 t x _ h3⟩
  | cells l =>
    obtain ⟨b, c, T, h1, h2, h3⟩ := h
    exact ⟨b, c, T, h1, by rw [hb b rfl h1]; exact h2, SV.satL_mono hE l _ h3⟩
  | arr T t xs =>
    obtain ⟨h1, h2, h3, h4, h5⟩ := h
    refine ⟨h1, h2, h3, h4, fun b hbb => ?_⟩
    obtain ⟨c, d, post, h6, h7, h8, h9⟩ := h5 b hbb
    exact ⟨c, d, post, by rw [hb b rfl hbb]; exact h6, h7, RepL_mono (fun x cs => Rep_mono hE.1 t x cs) h8, h9⟩
  | map K V es =>
    obtain ⟨b, arr, clock, h1, h2, h3, h4⟩ := h
    exact ⟨b, arr, clock, h1, by rw [hb b rfl h1]; exact h2, RepM_mono hE.1 h3, h4⟩

theorem Mem.agrees_lt {M : Mem} {w : World} (h : M.agrees w) {b : Nat} {c : Array Value} (hb : M b = some c) : b < w.heap.size :=
  let ⟨_, _, hh⟩ := h b c hb; lt_of_some hh

theorem Base.ok_trans {B : Base} {w w' : World} (h : B.ok w) (k : Below w.heap.size w w') : B.ok w' :=
  ⟨k.os.trans h.os, k.tape.trans h.tape, k.output.trans h.output, Nat.le_trans h.size k.size, fun i hi hn => (k.block i (Nat.lt_of_lt_of_le hi h.size)).trans (h.block i hi hn)⟩

theorem Hp.grow {B : Base} {E : Env} {hp : List HO} {w w' : World} (h : Hp B E hp w) (k : Below w.heap.size w w') : Hp B E hp w' where
  ag := fun b c hb => by
    obtain ⟨T, fr, hh⟩ := h.ag b c hb
    exact ⟨T, fr, by rw [k.block b (lt_of_some hh)]; exact hh⟩
  base := h.base
  fresh := h.fresh
  ok := Base.ok_trans h.ok k
  len := h.len
  free := h.free
  dist := h.dist
  ob := fun i o e hi he => HO.sat_keep (Env.le_refl E) (h.ob i o e hi he) fun b hl hb => k.block b (HO.sat_lt hl (h.ob i o e hi he) hb)

/-! ### The types -/

def descAgg : TypeDesc → Bool
  | .struct _ | .array _ _ => true
  | _ => false

structure TIok (P : Program) (T : TypeId) (i : TI) : Prop where
  info : ∃ f z, P.info? T = some f ∧ f.size = i.size ∧ f.bytes = i.bytes ∧ f.zero = some z ∧ (∀ E, SV.satL E i.zero z.cells.toList) ∧ z.cells.size = i.size ∧
    (∀ t, i.ty = some t → t.size = i.size ∧ ∀ M, Rep M t t.dflt z.cells.toList) ∧ (i.kind.isAgg = false → z.cells = #[z])
  kind : match i.kind with
    | .other => ∃ d, P.underlying T = some d ∧ descAgg d = false
    | .bool => P.underlying T = some .bool
    | .str => P.underlying T = some .string
    | .int k => P.underlying T = some (.int k)
    | .ptr E => P.underlying T = some (.pointer E)
    | .slice E => P.underlying T = some (.slice E)
    | .array n E => P.underlying T = some (.array n E)
    | .map K V => P.underlying T = some (.map K V)
    | .struct fs => ∃ fds, P.underlying T = some (.struct fds) ∧ fds.size = fs.length ∧ ∀ (j : Nat) (x : TypeId × Nat × Nat × Bool), fs[j]? = some x →
        ∃ f fi d, fds[j]? = some f ∧ f.type = x.1 ∧ f.offset = x.2.1 ∧ P.info? f.type = some fi ∧ fi.size = x.2.2.1 ∧ P.underlying f.type = some d ∧ descAgg d = x.2.2.2

theorem TIok.under {P : Program} {T : TypeId} {i : TI} (h : TIok P T i) : ∃ d, P.underlying T = some d ∧ descAgg d = i.kind.isAgg := by
  have hk := h.kind
  cases hi : i.kind <;> simp only [hi] at hk
  case other => simpa [TK.isAgg] using hk
  case struct fs => obtain ⟨fds, h1, _⟩ := hk; exact ⟨_, h1, rfl⟩
  all_goals exact ⟨_, hk, rfl⟩

structure Ctx.ok (P : Program) (C : Ctx) : Prop where
  types : ∀ T i, (T, i) ∈ C.TT → TIok P T i

def Ctx.globsOk (C : Ctx) (M : Mem) : Prop := ∀ g d, (g, d) ∈ C.globs → ∃ cs, M.seg g 0 cs ∧ Rep M d.t d.x cs

theorem Ctx.globsOk_mono {C : Ctx} {M M' : Mem} (h : M.le M') (hg : C.globsOk M) : C.globsOk M' := fun g d hd =>
  let ⟨cs, h1, h2⟩ := hg g d hd; ⟨cs, Mem.seg_mono h h1, Rep_mono h _ _ _ h2⟩

section
variable {R : Type} {r : R}

theorem nthK_some {α : Type} {k : α → Option R} : ∀ {l : List α} {n : Nat}, nthK l n k = some r → ∃ x, l[n]? = some x ∧ k x = some r
  | [], n, h => by simp [nthK] at h
  | x :: l, 0, h => ⟨x, by simp, h⟩
  | x :: l, n + 1, h => by
    obtain ⟨y, h1, h2⟩ := nthK_some (l := l) (n := n) h
    exact ⟨y, by simpa using h1, h2⟩

theorem setK_eq {α : Type} : ∀ (l : List α) (n : Nat) (v : α) (k : List α → Option R), setK l n v k = k (l.set n v)
  | [], _, _, _ => rfl
  | _ :: _, 0, _, _ => rfl
  | x :: l, n + 1, v, k => by
    show setK l n v (fun l' => k (x :: l')) = _
    rw [setK_eq l n v]; rfl

theorem snocK_eq {α : Type} : ∀ (l : List α) (v : α) (k : List α → Option R), snocK l v k = k (l ++ [v])
  | [], _, _ => rfl
  | x :: l, v, k => by
    show snocK l v (fun l' => k (x :: l')) = _
    rw [snocK_eq l v]; rfl

theorem tinfo_some {k : TI → Option R} {T : TypeId} : ∀ {l : List (TypeId × TI)}, tinfo l T k = some r → ∃ i, (T, i) ∈ l ∧ k i = some r
  | [], h => by simp [tinfo] at h
  | (t, i) :: l, h => by
    unfold tinfo at h
    cases hb : Nat.beq t T with
    | true =>
      rw [hb] at h
      have := Nat.eq_of_beq_eq_true hb
      subst this
      exact ⟨i, by simp, h⟩
    | false =>
      rw [hb] at h
      obtain ⟨j, h1, h2⟩ := tinfo_some (l := l) h
      exact ⟨j, by simp [h1], h2⟩

theorem globK_some {k : SV → Option R} {g : Nat} : ∀ {l : List (Nat × DV)}, globK l g k = some r → ∃ d, (g, d) ∈ l ∧ k (.ro d.t d.x) = some r
  | [], h => by simp [globK] at h
  | (t, d) :: l, h => by
    unfold globK at h
    cases hb : Nat.beq t g with
    | true =>
      rw [hb] at h
      have := Nat.eq_of_beq_eq_true hb
      subst this
      exact ⟨d, by simp, h⟩
    | false =>
      rw [hb] at h
      obtain ⟨j, h1, h2⟩ := globK_some (l := l) h
      exact ⟨j, by simp [h1], h2⟩

theorem constCell_some {E : Env} {v : Value} {k : SV → Option R} (h : constCell v k = some r) : ∃ s, s.sat E v ∧ k s = some r := by
  unfold constCell at h
  split at h
  case h_1 i n => exact ⟨_, by simp only [SV.sat]; exact ⟨[.int i n], rfl, rfl⟩, h⟩
  case h_2 b => exact ⟨_, by simp [SV.sat], h⟩
  case h_3 s => exact ⟨_, by simp only [SV.sat]; exact ⟨[.string s], rfl, rfl⟩, h⟩
  case h_4 n => exact ⟨_, by simp only [SV.sat]; exact ⟨[.float .f64 n], rfl, rfl⟩, h⟩
  case h_5 a b => exact ⟨_, by simp only [SV.sat]; exact ⟨[.complex .f64 a b], rfl, rfl⟩, h⟩
  case h_6 => exact ⟨_, by simp [SV.sat], h⟩
  case h_7 => exact ⟨_, by simp [SV.sat], h⟩
  case h_8 => exact ⟨_, by simp [SV.sat], h⟩
  case h_9 => cases h

theorem constCells_some {E : Env} : ∀ {vs : List Value} {k : List SV → Option R}, constCells vs k = some r → ∃ l, SV.satL E l vs ∧ k l = some r
  | [], k, h => ⟨[], by simp [SV.satL], h⟩
  | v :: vs, k, h => by
    unfold constCells at h
    obtain ⟨s, h1, h2⟩ := constCell_some (E := E) h
    obtain ⟨l, h3, h4⟩ := constCells_some (E := E) h2
    exact ⟨s :: l, by simp only [SV.satL]; exact ⟨v, vs, rfl, h1, h3⟩, h4⟩

theorem constSV_some {E : Env} {v : Value} {k : SV → Option R} (h : constSV v k = some r) : ∃ s, s.sat E v ∧ k s = some r := by
  unfold constSV at h
  split at h
  case h_1 cs =>
    obtain ⟨l, h1, h2⟩ := constCells_some (E := E) h
    exact ⟨_, by simp only [SV.sat]; exact ⟨cs.toList, by simp, h1⟩, h2⟩
  case h_2 => exact constCell_some h

theorem opd_some {C : Ctx} {E : Env} {fr : List SV} {a : Act} (hf : SV.satL E fr a.tmps.toList) (hg : C.globsOk E.M) {x : Operand} {k : SV → Option R} (h : opd C fr x k = some r) :
    ∃ s, s.sat E (a.eval x) ∧ k s = some r := by
  cases x with
  | tmp t =>
    obtain ⟨s, h1, h2⟩ := nthK_some h
    obtain ⟨v, h3, h4⟩ := SV.satL_get t hf h1
    refine ⟨s, ?_, h2⟩
    have : a.eval (.tmp t) = v := by
      simp only [Act.eval]
      have h5 : a.tmps[t]? = some v := by simpa using h3
      simp [Array.getD_eq_getD_getElem?, h5]
    rw [this]; exact h4
  | const v => exact constSV_some h
  | global g =>
    obtain ⟨d, h1, h2⟩ := globK_some h
    obtain ⟨cs, h3, h4⟩ := hg g d h1
    exact ⟨_, by simp only [SV.sat, Act.eval]; exact ⟨g, 0, cs, rfl, h3, h4⟩, h2⟩
  | func f => exact ⟨_, by simp only [SV.sat, Act.eval]; exact ⟨[], rfl, by simp [SV.satL]⟩, h⟩

theorem opds_some {C : Ctx} {E : Env} {fr : List SV} {a : Act} (hf : SV.satL E fr a.tmps.toList) (hg : C.globsOk E.M) : ∀ {xs : List Operand} {k : List SV → Option R}, opds C fr xs k = some r →
    ∃ l, SV.satL E l (xs.map a.eval) ∧ k l = some r
  | [], k, h => ⟨[], by simp [SV.satL], h⟩
  | x :: xs, k, h => by
    obtain ⟨s, h1, h2⟩ := opd_some hf hg h
    obtain ⟨l, h3, h4⟩ := opds_some hf hg h2
    exact ⟨s :: l, by simp only [SV.satL, List.map_cons]; exact ⟨_, _, rfl, h1, h3⟩, h4⟩

theorem asI_some {E : Env} {s : SV} {v : Value} {k : Int → Option R} (hs : s.sat E v) (h : asI s k = some r) : ∃ i n, v = .int i n ∧ k n = some r := by
  unfold asI at h
  split at h
  case h_1 i n =>
    simp only [SV.sat] at hs
    obtain ⟨cs, h1, h2⟩ := hs
    simp only [Rep] at h1
    subst h1
    exact ⟨i, n, h2, h⟩
  case h_2 => cases h

theorem asB_some {E : Env} {s : SV} {v : Value} {k : Bool → Option R} (hs : s.sat E v) (h : asB s k = some r) : ∃ b, v = .bool b ∧ k b = some r := by
  unfold asB at h
  split at h
  case h_1 b => exact ⟨b, by simpa [SV.sat] using hs, h⟩
  case h_2 b =>
    simp only [SV.sat] at hs
    obtain ⟨cs, h1, h2⟩ := hs
    simp only [Rep] at h1
    subst h1
    exact ⟨b, h2, h⟩
  case h_3 => cases h

end
end Go.Sx
