import Derived.Test.YtemngcdlgnconaaSxP
import Derived.Test.YtemngcdlgnconaaSxO
import Derived.Test.YtemngcdlgnconaaSxS
import Derived.Test.YtemngcdlgnconaaProg
import Derived.KernelRfl
set_option maxHeartbeats 0
set_option maxRecDepth 100000
set_option linter.unusedVariables false
set_option linter.unusedSimpArgs false
namespace Go.Sx
open Go.Proofs

def K.brk : List (Int × Int) := [(0x28, 0x29), (0x5b, 0x5d), (0x7b, 0x7d), (0x2329, 0x232a), (0x3008, 0x3009), (0x300a, 0x300b), (0x300c, 0x300d), (0x300e, 0x300f), (0x3010, 0x3011)]
def K.otherF (c : Int) : Option (Int × Bool × Bool) := some (match K.brk.find? (fun p => p.1 == c) with | some p => (p.2, true, true) | none => match K.brk.find? (fun p => p.2 == c) with | some p => (p.1, false, true) | none => (0, false, false))
def K.other : Con := ⟨51, ⟨⟨[.hole (.int .i64)], []⟩, ⟨[.hole (.int .i64), .hole .bool, .hole .bool], []⟩⟩, K.otherF⟩
def K.TT : List (TypeId × TI) := [
  (3, ⟨(.int .i64), 1, 8, some (.int .i64), [.val (.int .i64) (0 : Int)]⟩),
  (4, ⟨.bool, 1, 1, some .bool, [.bit false]⟩),
  (5, ⟨(.int .u8), 1, 1, some (.int .u8), [.val (.int .u8) (0 : Int)]⟩),
  (9, ⟨.str, 1, 16, some .str, [.val .str ByteArray.empty]⟩),
  (22, ⟨(.slice 3), 1, 24, some (.sl (.int .i64)), [.nils]⟩),
  (34, ⟨.other, 1, 0, none, [.und]⟩),
  (41, ⟨(.array 3 3), 3, 24, some (.arr 3 (.int .i64)), [.val (.int .i64) (0 : Int), .val (.int .i64) (0 : Int), .val (.int .i64) (0 : Int)]⟩),
  (42, ⟨.other, 1, 0, none, [.und]⟩),
  (45, ⟨(.slice 52), 1, 24, some (.sl (.arr 2 (.int .i64))), [.nils]⟩),
  (49, ⟨(.struct [(22, 0, 1, false), (22, 1, 1, false), (22, 2, 1, false)]), 3, 72, some (.st (.pair (.sl (.int .i64)) (.pair (.sl (.int .i64)) (.sl (.int .i64))))), [.nils, .nils, .nils]⟩),
  (52, ⟨(.array 2 3), 2, 16, some (.arr 2 (.int .i64)), [.val (.int .i64) (0 : Int), .val (.int .i64) (0 : Int)]⟩),
  (53, ⟨(.slice 4), 1, 24, some (.sl .bool), [.nils]⟩),
  (55, ⟨(.int .u16), 1, 2, some (.int .u16), [.val (.int .u16) (0 : Int)]⟩),
  (56, ⟨(.array 2 55), 2, 4, some (.arr 2 (.int .u16)), [.val (.int .u16) (0 : Int), .val (.int .u16) (0 : Int)]⟩),
  (72, ⟨(.slice 74), 1, 24, some (.sl (.st (.pair (.int .i64) (.int .i64)))), [.nils]⟩),
  (74, ⟨(.struct [(3, 0, 1, false), (3, 1, 1, false)]), 2, 16, some (.st (.pair (.int .i64) (.int .i64))), [.val (.int .i64) (0 : Int), .val (.int .i64) (0 : Int)]⟩),
  (76, ⟨.other, 1, 8, none, [.und]⟩),
  (78, ⟨(.ptr 80), 1, 8, none, [.nilp]⟩),
  (80, ⟨(.struct [(22, 0, 1, false), (22, 1, 1, false), (3, 2, 1, false), (3, 3, 1, false)]), 4, 64, some (.st (.pair (.sl (.int .i64)) (.pair (.sl (.int .i64)) (.pair (.int .i64) (.int .i64))))), [.nils, .nils, .val (.int .i64) (0 : Int), .val (.int .i64) (0 : Int)]⟩),
  (94, ⟨(.int .u64), 1, 8, some (.int .u64), [.val (.int .u64) (0 : Int)]⟩),
  (95, ⟨(.map 3 3), 1, 8, none, [.und]⟩),
  (97, ⟨.other, 1, 0, none, [.und]⟩),
  (101, ⟨(.int .i64), 1, 8, some (.int .i64), [.val (.int .i64) (0 : Int)]⟩),
  (102, ⟨.other, 1, 0, none, [.und]⟩),
  (108, ⟨(.int .u32), 1, 4, some (.int .u32), [.val (.int .u32) (0 : Int)]⟩),
  (110, ⟨(.int .u64), 1, 8, some (.int .u64), [.val (.int .u64) (0 : Int)]⟩),
  (116, ⟨(.int .u64), 1, 8, some (.int .u64), [.val (.int .u64) (0 : Int)]⟩),
  (120, ⟨(.ptr 3), 1, 8, none, [.nilp]⟩),
  (124, ⟨(.ptr 116), 1, 8, none, [.nilp]⟩),
  (125, ⟨.other, 1, 0, none, [.und]⟩)]
noncomputable def K.C : Ctx := ⟨K.TT, []⟩
theorem K.Cok : K.C.ok Go.Proofs.Try.prog := checkTT_ok (by kernel_rfl)
theorem K.mixed : Go.Proofs.Try.prog.follows .mixedOrders = true := by kernel_rfl
def K.fuel : Nat := 1000000000
def K.f74sig : Sig := ⟨⟨[], []⟩, ⟨[.mp 0], [.map (.int .i64) (.int .i64)]⟩⟩
def K.f74F : Unit → Option (List (Int × Int)) := fun _ => some K.brk
def K.f74ann : Ann := .seq .leaf (.seq .leaf .leaf)
theorem K.f74eq : ∀ x, runFn K.C [] K.f74sig K.f74ann Go.Proofs.Try.f74 x = K.f74F x := by
  intro x
  kernel_rfl
def K.f74con : Con := ⟨74, K.f74sig, K.f74F⟩
theorem K.f74ok : Con.Ok Go.Proofs.Try.prog K.C K.f74con :=
  runFn_ok (Γ := []) (an := K.f74ann) ⟨K.Cok, (fun _ h => nomatch h), K.mixed⟩ Go.Proofs.Try.func74 rfl rfl (fun x y h => (K.f74eq x).trans h) (by decide)

section other
open Go.ChangeMaps (setBlock)
open Go.RowKit
def K.oK : Ks (Bool × List SV × List HO) := { n := fun fr hp => some (false, fr, hp), e := fun _ _ _ => none, r := fun fr hp => some (true, fr, hp) }
theorem K.oK_at {lv : Lv} {fr fr' : List SV} {hp hp' : List HO} {b : Bool} (h : K.oK.at lv fr hp = some (b, fr', hp')) : fr = fr' ∧ hp = hp' ∧ ((b = false ∧ lv = .normal) ∨ (b = true ∧ lv = .ret)) := by
  cases lv <;> simp [K.oK, Ks.at] at h <;> obtain ⟨h1, h2, h3⟩ := h <;> simp [h1.symm, h2, h3]

theorem K.otherF_hit {c : Int} {x : Int} (h : mget (K := .int .i64) (V := .int .i64) K.brk c = some x) : K.otherF c = some (x, true, true) := by
  have key : ∀ es : List (Int × Int), mget (K := .int .i64) (V := .int .i64) es c = some x → ∃ p, es.find? (fun p => p.1 == c) = some p ∧ p.2 = x := by
    intro es
    induction es with
    | nil => intro h; simp [mget] at h
    | cons p es ih =>
      intro h
      simp only [mget, Ty.eqb] at h
      rw [List.find?_cons]
      by_cases hc : c = p.1
      · subst hc
        simp at h
        exact ⟨p, by simp, h⟩
      · have h1 : (c == p.1) = false := by simpa using hc
        have h2 : (p.1 == c) = false := by simpa using fun e => hc e.symm
        rw [h1] at h
        rw [h2]
        exact ih h
  obtain ⟨p, h1, h2⟩ := key _ h
  simp only [K.otherF, h1, h2]

theorem K.mget_none {c : Int} (es : List (Int × Int)) (h : mget (K := .int .i64) (V := .int .i64) es c = none) : es.find? (fun p => p.1 == c) = none := by
  induction es with
  | nil => rfl
  | cons p es ih =>
    simp only [mget, Ty.eqb] at h
    rw [List.find?_cons]
    by_cases hc : c = p.1
    · subst hc; simp at h
    · have h1 : (c == p.1) = false := by simpa using hc
      have h2 : (p.1 == c) = false := by simpa using fun e => hc e.symm
      rw [h1] at h
      rw [h2]
      exact ih h

theorem K.otherF_miss {c : Int} (h : mget (K := .int .i64) (V := .int .i64) K.brk c = none) (h2 : ∀ p ∈ K.brk, p.2 ≠ c) : K.otherF c = some (0, false, false) := by
  have h3 : K.brk.find? (fun p => p.2 == c) = none := by
    rw [List.find?_eq_none]
    intro p hp; simpa using h2 p hp
  simp only [K.otherF, K.mget_none _ h, h3]

theorem K.otherF_back {c : Int} (h : mget (K := .int .i64) (V := .int .i64) K.brk c = none) {p : Int × Int} (hp : p ∈ K.brk) (h2 : p.2 = c) : K.otherF c = some (p.1, false, true) := by
  have h3 : K.brk.find? (fun q => q.2 == c) = some p := by
    subst h2
    simp only [K.brk, List.mem_cons, List.not_mem_nil, or_false] at hp
    rcases hp with rfl | rfl | rfl | rfl | rfl | rfl | rfl | rfl | rfl <;> rfl
  simp only [K.otherF, K.mget_none _ h, h3]

def K.fr2 (c : Int) : List SV := ((((((.val (.int .i64) c :: List.replicate 27 .skip : List SV).set 2 (.val (.int .i64) (0 : Int))).set 3 (.bit false)).set 4 (.bit false)).set 8 (.mp 0)).set 5 (.mp 0))
def K.fr3 (c : Int) (m : Option Int) : List SV := ((((((((K.fr2 c).set 10 (.mp 0)).set 11 (.val (.int .i64) c)).set 12 (.tup [.val (.int .i64) (m.getD 0), .val .bool m.isSome])).set 9 (.tup [.val (.int .i64) (m.getD 0), .val .bool m.isSome])).set 13 (.val (.int .i64) (m.getD 0))).set 14 (.val .bool m.isSome)).set 2 (.val (.int .i64) (m.getD 0))).set 4 (.val .bool m.isSome)
def K.frN (c : Int) (m : Option Int) : List SV := (K.fr3 c m).set 15 (.bit false)
def K.frR (c : Int) (m : Option Int) : List SV := (((((K.fr3 c m).set 15 (.bit true)).set 16 (.val (.int .i64) (m.getD 0))).set 2 (.val (.int .i64) (m.getD 0))).set 3 (.bit true)).set 4 (.bit true)

theorem K.at3 {E : Env} {fr : List SV} {a : Act} (hf : SV.satL E fr a.tmps.toList) {i : Nat} {s : SV} (hs : fr[i]? = some s) {p : Value → Prop} (hp : ∀ v, s.sat E v → p v) : p (a.eval (.tmp i)) := by
  obtain ⟨v, hv, hsv⟩ := tmp_get hf hs
  have hev : a.eval (.tmp i) = v := by simp [Act.eval, Array.getD_eq_getD_getElem?, hv]
  rw [hev]; exact hp v hsv

theorem K.otherok : K.other.Ok Go.Proofs.Try.prog K.C where
  there := ⟨_, Go.Proofs.Try.func51, rfl, rfl⟩
  calls := by
    intro E w args (c : Int) (y : Int × Bool × Bool) W hg hs hh hxy
    have hargs : ∃ v, args = [v] ∧ (SV.val (.int .i64) c).sat E v := by
      obtain ⟨v, ws, e, h1, h2⟩ := (show SV.satL E [.val (.int .i64) c] args from hs)
      simp only [SV.satL] at h2
      subst h2
      exact ⟨v, e, h1⟩
    obtain ⟨v0, rfl, hv0⟩ := hargs
    have hG : Given Go.Proofs.Try.prog K.C [K.f74con] := ⟨K.Cok, (List.forall_mem_cons.2 ⟨K.f74ok, (fun _ h => nomatch h)⟩), K.mixed⟩
    have hh0 : Hp ⟨w, W, E.M⟩ E [] w := hh
    have ev0 : v0 = .int .i64 c := rep_int (by simpa only [SV.sat] using hv0)
    refine calls_of_wp Go.Proofs.Try.func51 (c := _) rfl ?_
    have hfr : SV.satL E (.val (.int .i64) c :: List.replicate 27 .skip) (#[v0] ++ Array.replicate (Go.Proofs.Try.f51.ntmps - #[v0].size) undef).toList := by
      have hsk : ∀ n, SV.satL E (List.replicate n SV.skip) (List.replicate n undef) := by
        intro n
        induction n with
        | zero => simp [SV.satL]
        | succ n ih => rw [List.replicate_succ, List.replicate_succ]; simp only [SV.satL]; exact ⟨_, _, rfl, by simp [SV.sat], ih⟩
      rw [show Go.Proofs.Try.f51.ntmps - #[v0].size = 27 by kernel_rfl, Array.toList_append, Array.toList_replicate]
      show SV.satL E _ (v0 :: List.replicate 27 undef)
      simp only [SV.satL]
      exact ⟨_, _, rfl, by simpa only [SV.sat] using hv0, hsk 27⟩
    generalize hQ : bodyPost Go.Proofs.Try.prog Go.Proofs.Try.f51 _ = Q
    -- what is handed back
    have fin : ∀ (a' : Act) (w' : World) (E' : Env) (hp' : List HO), a'.defers = [] → Hp ⟨w, W, E.M⟩ E' hp' w' → a'.eval (.tmp 2) = .int .i64 y.1 → a'.eval (.tmp 3) = .bool y.2.1 → a'.eval (.tmp 4) = .bool y.2.2 → Q .ret a' w' := by
      intro a' w' E' hp' h1 h2 h3 h4 h5
      subst hQ
      refine ⟨h1, retVal [.int .i64 y.1, .bool y.2.1, .bool y.2.2], ?_, ⟨E'.M, []⟩, _, rfl, ?_, h2.nil, fun j e hj => by simp [K.other] at hj⟩
      · simp only [Act.eval] at h3 h4 h5
        refine run_results (vs := [.int .i64 y.1, .bool y.2.1, .bool y.2.2]) ?_
        rw [show Go.Proofs.Try.f51.results = #[.tmp 2, .tmp 3, .tmp 4] from rfl]
        rw [Array.getD_eq_getD_getElem?] at h3 h4 h5
        simp [h3, h4, h5]
      · show SV.satL _ [.val (.int .i64) y.1, .val .bool y.2.1, .val .bool y.2.2] _
        simp only [SV.satL]
        exact ⟨_, _, rfl, sat_int _, _, _, rfl, sat_bool _, _, _, rfl, sat_bool _, rfl⟩
    -- the ways up to the loop
    refine wp_seq ?_
    refine run_sound (an := .leaf) (r := (false, ((((.val (.int .i64) c :: List.replicate 27 .skip : List SV).set 2 (.val (.int .i64) (0 : Int))).set 3 (.bit false)).set 4 (.bit false)), [])) (K := K.oK) hG hh0 hfr hg (by kernel_rfl) ?_
    intro lv E1 fr1 hp1 a1 w1 le1 hh1 hf1 kp1 hk1
    obtain ⟨rfl, rfl, ⟨_, rfl⟩ | ⟨h, _⟩⟩ := K.oK_at hk1
    case inr => cases h
    show Code.wp _ _ _ _ _
    refine wp_seq ?_
    refine run_sound (an := .leaf) (r := (false, ((((((.val (.int .i64) c :: List.replicate 27 .skip : List SV).set 2 (.val (.int .i64) (0 : Int))).set 3 (.bit false)).set 4 (.bit false)).set 8 (.mp 0)).set 5 (.mp 0)), [.map (.int .i64) (.int .i64) K.brk])) (K := K.oK) hG hh1 hf1 (K.C.globsOk_mono le1.1 hg) (by kernel_rfl) ?_
    intro lv E2 fr2 hp2 a2 w2 le2 hh2 hf2 kp2 hk2
    obtain ⟨rfl, rfl, ⟨_, rfl⟩ | ⟨h, _⟩⟩ := K.oK_at hk2
    case inr => cases h
    have hg2 := K.C.globsOk_mono le2.1 (K.C.globsOk_mono le1.1 hg)
    show Code.wp _ _ _ _ _
    refine wp_seq ?_
    generalize hm : mget (K := .int .i64) (V := .int .i64) K.brk c = m
    have hX : ∀ (X : Code), X = X → True := fun _ _ => trivial
    clear hX
    refine run_sound (an := .seq .leaf (.seq .leaf (.cond (.seq .leaf .leaf) .leaf))) (r := if m.isSome = true then (true, K.frR c m, [.map (.int .i64) (.int .i64) K.brk]) else (false, K.frN c m, [.map (.int .i64) (.int .i64) K.brk])) (K := K.oK) hG hh2 hf2 hg2 ?_ ?_
    · subst hm
      refine Eq.trans (b := if (mget (K := .int .i64) (V := .int .i64) K.brk c).isSome = true then some (true, K.frR c (mget (K := .int .i64) (V := .int .i64) K.brk c), [.map (.int .i64) (.int .i64) K.brk]) else some (false, K.frN c (mget (K := .int .i64) (V := .int .i64) K.brk c), [.map (.int .i64) (.int .i64) K.brk])) (by kernel_rfl) ?_
      split <;> rfl
    intro lv E3 fr3 hp3 a3 w3 le3 hh3 hf3 kp3 hk3
    have hdef : a3.defers = [] := by rw [kp3.defers, kp2.defers, kp1.defers]
    cases m with
    | some x =>
      obtain ⟨rfl, rfl, ⟨h, _⟩ | ⟨_, rfl⟩⟩ := K.oK_at (b := true) hk3
      · cases h
      have hy : y = (x, true, true) := by
        have := K.otherF_hit hm
        have h2 : K.otherF c = some y := hxy
        rw [this] at h2
        exact (Option.some.inj h2).symm
      subst hy
      refine fin a3 w3 E3 _ hdef hh3 ?_ ?_ ?_
      · exact K.at3 hf3 (i := 2) (s := .val (.int .i64) x) (p := fun v => v = .int .i64 x) rfl fun v hv => rep_int (by simpa only [SV.sat] using hv)
      · exact K.at3 hf3 (i := 3) (s := .bit true) rfl fun v hv => by simpa only [SV.sat] using hv
      · exact K.at3 hf3 (i := 4) (s := .bit true) rfl fun v hv => by simpa only [SV.sat] using hv
    | none =>
      obtain ⟨rfl, rfl, ⟨_, rfl⟩ | ⟨h, _⟩⟩ := K.oK_at (b := false) hk3
      case inr => cases h
      have hc0 : a3.eval (.tmp 0) = .int .i64 c := K.at3 hf3 (i := 0) (s := .val (.int .i64) c) (p := fun v => v = .int .i64 c) rfl fun v hv => rep_int (by simpa only [SV.sat] using hv)
      have h5 : ∃ e b, E3.L[0]? = some e ∧ e.blk = some b ∧ a3.eval (.tmp 5) = .map (some b) := K.at3 hf3 (i := 5) (s := .mp 0) (p := fun v => ∃ e b, E3.L[0]? = some e ∧ e.blk = some b ∧ v = .map (some b)) rfl fun v hv => by simpa only [SV.sat] using hv
      obtain ⟨le, b, he5, hb5, hv5⟩ := h5
      obtain ⟨b', arr, clock, g1, g2, g3, gst⟩ := hh3.ob 0 _ _ rfl he5
      rw [hb5] at g1
      cases g1
      obtain ⟨rm1, rm2⟩ := repM_mem g3
      have hbl : b < w3.heap.size := (Array.getElem?_eq_some_iff.1 g2).1
      have hs3 : a3.tmps.size = 28 := by
        have := SV.satL_length hf3
        simpa [K.frN, K.fr3, K.fr2] using this
      show Code.wp _ _ _ _ _
      refine wp_seq (wp_seq (wp_region_list ?_))
      refine wpList_val rfl (v := .map (some b)) (w' := w3) (by simp [execOp, hv5]) ?_
      refine wpList_val rfl (v := .pointer (some ⟨w3.heap.size, 0, none⟩)) (w' := w3.alloc (.mapIter (some b) clock #[] clock)) ?_ ?_
      · simp only [execOp]
        rw [eval_put_same (by omega)]
        have := run_range_map (P := Go.Proofs.Try.prog) w3 95 3 3 b arr clock (by kernel_rfl) g2
        simp [this]
      refine wpList_nil ?_
      show Code.wp _ _ _ _ _
      refine wp_block (wp_loop_rounds (arr.size + 1) ?_)
      refine rounds_ind (I := fun n a' w' => ∃ seen, (leftOf arr seen).size < n ∧ a'.eval (.tmp 0) = .int .i64 c ∧ a'.eval (.tmp 18) = .pointer (some ⟨w3.heap.size, 0, none⟩) ∧ a'.tmps.size = 28 ∧ a'.defers = [] ∧ Below w3.heap.size w3 w' ∧
          w'.heap[w3.heap.size]? = some (.mapIter (some b) clock seen clock) ∧ (∀ e ∈ arr.toList, seen.contains e.born = true → e.val ≠ .int .i64 c)) ?_ ?_ (arr.size + 1) _ _ ?_
      · rintro a w ⟨seen, h, _⟩; omega
      · rintro n a' w' Kx hKx ⟨seen, hlt, k0, k18, ksz, kdef, kbel, khp, kseen⟩
        have hb' : w'.heap[b]? = some (.map arr clock) := by rw [kbel.block b hbl]; exact g2
        refine wp_seq (wp_region_list ?_)
        rcases run_next_at (P := Go.Proofs.Try.prog) w' 0 w3.heap.size b clock clock seen arr clock khp hb' gst.1 (Nat.le_refl _) with ⟨q1, q2⟩ | ⟨e, q1, w1, q2, q3⟩
        · refine wpList_val rfl (v := .tuple #[.bool false]) (w' := w') (by simp [execOp, k18, q2]) ?_
          refine wpList_val rfl (v := .bool false) (w' := w') ?_ ?_
          · simp only [execOp]
            rw [eval_put_same (by omega)]
            simp [Instr.extract]
          refine wpList_nil ?_
          show Code.wp _ _ _ _ _
          refine wp_seq (wp_cond_false ?_ (wp_exit ?_))
          · exact eval_put_same (by rw [size_put]; omega)
          -- behind the loop
          show Code.wp _ _ _ _ _
          have hmiss : K.otherF c = some (0, false, false) := by
            refine K.otherF_miss hm fun p hp e => ?_
            obtain ⟨m', hm', _, cv, hcv, hval⟩ := rm2 p hp
            have hsn := all_seen arr seen q1 m' hm'
            refine kseen m' hm' hsn ?_
            simp only [Rep] at hcv
            rw [hval, hcv, ← e]; rfl
          have hy : y = (0, false, false) := by
            have h2 : K.otherF c = some y := hxy
            rw [hmiss] at h2
            exact (Option.some.inj h2).symm
          subst hy
          refine wp_seq (wp_region_list ?_)
          refine wpList_val rfl (v := .int .i64 0) (w' := w') (by simp [execOp, eval_const]) ?_
          refine wpList_val rfl (v := .bool false) (w' := w') (by simp [execOp, eval_const]) ?_
          refine wpList_val rfl (v := .bool false) (w' := w') (by simp [execOp, eval_const]) ?_
          refine wpList_nil ?_
          show Code.wp _ _ _ _ _
          refine wp_ret (fin _ w' E3 _ ?_ (hh3.grow kbel) ?_ ?_ ?_)
          · simp only [defers_put]; exact kdef
          · rw [eval_put_ne (by decide), eval_put_ne (by decide)]; exact eval_put_same (by simp only [size_put]; omega)
          · rw [eval_put_ne (by decide)]; exact eval_put_same (by simp only [size_put]; omega)
          · exact eval_put_same (by simp only [size_put]; omega)
        · have kbel1 : Below w3.heap.size w3 w1 := by
            rcases q2 with rfl | rfl
            · exact kbel
            · exact kbel.drew
          have khp1 : w1.heap[w3.heap.size]? = some (.mapIter (some b) clock seen clock) := by
            rcases q2 with rfl | rfl <;> exact khp
          obtain ⟨hmem, hns⟩ := mem_left q1
          have khp2 := heap_setBlock_at khp1 (.mapIter (some b) clock (seen.push e.born) clock)
          have kbel2 := below_setBlock kbel1 (Nat.le_refl _) khp1 (.mapIter (some b) clock (seen.push e.born) clock)
          generalize hw2 : setBlock w1 w3.heap.size (.mapIter (some b) clock (seen.push e.born) clock) = w2 at q3 khp2 kbel2
          have hb2 : w2.heap[b]? = some (.map arr clock) := by rw [kbel2.block b hbl]; exact g2
          have hen := run_entry_at (P := Go.Proofs.Try.prog) w2 w3.heap.size b clock seen arr clock e khp2 hb2 hmem gst.2
          obtain ⟨p, hp, ⟨ck, hck, hkey⟩, cv, hcv, hval⟩ := rm1 e hmem
          have hkey' : e.key = .int .i64 p.1 := by rw [hkey]; simp only [Rep] at hck; rw [hck]; rfl
          have hval' : e.val = .int .i64 p.2 := by rw [hval]; simp only [Rep] at hcv; rw [hcv]; rfl
          rw [hkey', hval'] at q3 hen
          refine wpList_val rfl (v := .tuple #[.bool true, .int .i64 p.1, .int .i64 p.2]) (w' := w2) (by simp [execOp, k18, q3]) ?_
          refine wpList_val rfl (v := .bool true) (w' := w2) ?_ ?_
          · simp only [execOp]
            rw [eval_put_same (by omega)]
            simp [Instr.extract]
          refine wpList_nil ?_
          show Code.wp _ _ _ _ _
          refine wp_seq (wp_cond_true ?_ (wp_skip ?_))
          · exact eval_put_same (by rw [size_put]; omega)
          show Code.wp _ _ _ _ _
          refine wp_block (wp_seq (wp_region_list ?_))
          refine wpList_val rfl (v := .tuple #[.int .i64 p.1, .int .i64 p.2]) (w' := w2) ?_ ?_
          · simp only [execOp]
            rw [eval_put_ne (by decide), eval_put_ne (by decide), k18]
            simp [hen]
          refine wpList_val rfl (v := .int .i64 p.1) (w' := w2) ?_ ?_
          · simp only [execOp]
            rw [eval_put_same (by simp only [size_put]; omega)]
            simp [Instr.extract]
          refine wpList_val rfl (v := .int .i64 p.2) (w' := w2) ?_ ?_
          · simp only [execOp]
            rw [eval_put_ne (by decide), eval_put_same (by simp only [size_put]; omega)]
            simp [Instr.extract]
          refine wpList_val rfl (v := .int .i64 p.1) (w' := w2) ?_ ?_
          · simp only [execOp]
            rw [eval_put_ne (by decide), eval_put_same (by simp only [size_put]; omega)]
            simp
          refine wpList_val rfl (v := .int .i64 p.2) (w' := w2) ?_ ?_
          · simp only [execOp]
            rw [eval_put_ne (by decide), eval_put_same (by simp only [size_put]; omega)]
            simp
          refine wpList_nil ?_
          show Code.wp _ _ _ _ _
          generalize hA : Act.put _ (some 7) (Value.int .i64 p.2) = A
          have A0 : A.eval (.tmp 0) = .int .i64 c := by
            subst hA
            iterate 7 rw [eval_put_ne (by decide)]
            exact k0
          have A18 : A.eval (.tmp 18) = .pointer (some ⟨w3.heap.size, 0, none⟩) := by
            subst hA
            iterate 7 rw [eval_put_ne (by decide)]
            exact k18
          have A6 : A.eval (.tmp 6) = .int .i64 p.1 := by
            subst hA
            rw [eval_put_ne (by decide)]
            exact eval_put_same (by simp only [size_put]; omega)
          have A7 : A.eval (.tmp 7) = .int .i64 p.2 := by
            subst hA
            exact eval_put_same (by simp only [size_put]; omega)
          have As : A.tmps.size = 28 := by subst hA; simp only [size_put]; exact ksz
          have Ad : A.defers = [] := by subst hA; simp only [defers_put]; exact kdef
          clear hA
          refine wp_seq (wp_region_list ?_)
          refine wpList_val rfl (v := .int .i64 p.2) (w' := w2) (by simp [execOp, A7]) ?_
          refine wpList_val rfl (v := .int .i64 c) (w' := w2) ?_ ?_
          · simp only [execOp]
            rw [eval_put_ne (by decide), A0]
            simp
          refine wpList_val rfl (v := .bool (p.2 == c)) (w' := w2) ?_ ?_
          · simp only [execOp]
            rw [eval_put_ne (by decide), eval_put_same (by omega), eval_put_same (by simp only [size_put]; omega)]
            simp [eqGuard, binOp, Op.intCmp]
          refine wpList_nil ?_
          show Code.wp _ _ _ _ _
          generalize hA2 : Act.put _ (some 26) (Value.bool (p.2 == c)) = A2
          have B0 : A2.eval (.tmp 0) = .int .i64 c := by
            subst hA2
            iterate 3 rw [eval_put_ne (by decide)]
            exact A0
          have B18 : A2.eval (.tmp 18) = .pointer (some ⟨w3.heap.size, 0, none⟩) := by
            subst hA2
            iterate 3 rw [eval_put_ne (by decide)]
            exact A18
          have B6 : A2.eval (.tmp 6) = .int .i64 p.1 := by
            subst hA2
            iterate 3 rw [eval_put_ne (by decide)]
            exact A6
          have B26 : A2.eval (.tmp 26) = .bool (p.2 == c) := by
            subst hA2
            exact eval_put_same (by simp only [size_put]; omega)
          have Bs : A2.tmps.size = 28 := by subst hA2; simp only [size_put]; exact As
          have Bd : A2.defers = [] := by subst hA2; simp only [defers_put]; exact Ad
          clear hA2
          by_cases hpc : p.2 = c
          · have hback := K.otherF_back hm hp hpc
            have hy : y = (p.1, false, true) := by
              have h2 : K.otherF c = some y := hxy
              rw [hback] at h2
              exact (Option.some.inj h2).symm
            subst hy
            refine wp_cond_true (by rw [B26]; simp [hpc]) (wp_seq (wp_region_list ?_))
            refine wpList_val rfl (v := .int .i64 p.1) (w' := w2) (by simp [execOp, B6]) ?_
            refine wpList_val rfl (v := .int .i64 p.1) (w' := w2) ?_ ?_
            · simp only [execOp]
              rw [eval_put_same (by omega)]
              simp
            refine wpList_val rfl (v := .bool false) (w' := w2) (by simp [execOp, eval_const]) ?_
            refine wpList_val rfl (v := .bool true) (w' := w2) (by simp [execOp, eval_const]) ?_
            refine wpList_nil ?_
            show Code.wp _ _ _ _ _
            refine wp_ret (fin _ w2 E3 _ ?_ (hh3.grow kbel2) ?_ ?_ ?_)
            · simp only [defers_put]; exact Bd
            · rw [eval_put_ne (by decide), eval_put_ne (by decide)]; exact eval_put_same (by simp only [size_put]; omega)
            · rw [eval_put_ne (by decide)]; exact eval_put_same (by simp only [size_put]; omega)
            · exact eval_put_same (by simp only [size_put]; omega)
          · refine wp_cond_false (by rw [B26]; simp [hpc]) (wp_skip ?_)
            refine hKx _ _ ⟨seen.push e.born, ?_, B0, B18, Bs, Bd, kbel2, khp2, fun x hx hs => ?_⟩
            · have := left_shrinks arr seen e q1; omega
            · rw [Array.contains_eq_mem] at hs
              simp only [Array.mem_push, decide_eq_true_eq] at hs
              rcases hs with hs | hs
              · exact kseen x hx (by rw [Array.contains_eq_mem]; simpa using hs)
              · have : x = e := by
                  have hnd := gst.2
                  have f1 := find_born x _ hnd hx
                  have f2 := find_born e _ hnd hmem
                  rw [hs, f2] at f1
                  exact (Option.some.inj f1).symm
                subst this
                rw [hval']
                intro e; cases e; exact hpc rfl
      · refine ⟨#[], ?_, ?_, ?_, ?_, ?_, (Below.refl _ _).alloc (Nat.le_refl _) _, heap_alloc_new w3 _, fun e _ h => by simp at h⟩
        · have : (leftOf arr #[]).size ≤ arr.size := by unfold leftOf; exact Array.size_filter_le
          omega
        · rw [eval_put_ne (by decide), eval_put_ne (by decide)]; exact hc0
        · exact eval_put_same (by simp only [size_put]; omega)
        · simp only [size_put]; exact hs3
        · simp only [defers_put]; exact hdef
end other
def K.f75sig : Sig := ⟨⟨[.hole (.int .i64)], []⟩, ⟨[.hole (.int .i64)], []⟩⟩
noncomputable def K.f75Γ : List Con := []
def K.f75ann : Ann :=
  (.seq .leaf (.seq (.seq (.join [⟨.normal, [(8, .hole .bool)], []⟩] .leaf) (.cond (.seq .leaf .leaf) .leaf)) (.seq .leaf .leaf)))
/- ductus/pair.as -/
noncomputable def K.f75F : Int → Option (Int) :=
  fun (x : Int) =>
  Option.bind (if (x == (9001 : Int)) = Bool.true then Option.some Bool.true else Option.some (x == (9002 : Int))) fun (v1 : Bool) =>
    if v1 = Bool.true then Option.some (Go.IntKind.wrap Go.IntKind.i64 (Go.IntKind.wrap Go.IntKind.i64 (x - (9001 : Int)) + (12296 : Int))) else Option.some x
theorem K.f75eq : ∀ x, runFn K.C K.f75Γ K.f75sig K.f75ann Go.Proofs.Try.f75 x = K.f75F x := by
  intro x
  kernel_rfl
noncomputable def K.f75con : Con := ⟨75, K.f75sig, K.f75F⟩
theorem K.f75ok : Con.Ok Go.Proofs.Try.prog K.C K.f75con :=
  runFn_ok (Γ := K.f75Γ) (an := K.f75ann) ⟨K.Cok, (fun _ h => nomatch h), K.mixed⟩ Go.Proofs.Try.func75 rfl rfl (fun x y h => (K.f75eq x).trans h) (by decide)
def K.f52sig : Sig := ⟨⟨[.hole (.int .i64), .hole (.int .i64)], []⟩, ⟨[.hole .bool], []⟩⟩
noncomputable def K.f52Γ : List Con := [K.other, K.f75con]
def K.f52ann : Ann :=
  (.seq .leaf (.seq .leaf (.seq .leaf (.seq .leaf .leaf))))
/- ductus/pair.Same -/
noncomputable def K.f52F : Int × Int → Option (Bool) :=
  fun (x : Int × Int) =>
  Option.bind (Go.Sx.K.otherF x.1) fun (v1 : Int × Bool × Bool) =>
    Option.bind (Go.Sx.K.otherF x.2) fun (v2 : Int × Bool × Bool) =>
      if v1.snd.snd = Bool.true then
        if v2.snd.snd = Bool.true then Option.bind (Go.Sx.K.f75F x.1) fun (v3 : Int) => Option.bind (Go.Sx.K.f75F x.2) fun (v4 : Int) => Option.some (v3 == v4) else Option.some Bool.false
      else Option.some Bool.false
theorem K.f52eq : ∀ x, runFn K.C K.f52Γ K.f52sig K.f52ann Go.Proofs.Try.f52 x = K.f52F x := by
  intro x
  kernel_rfl
noncomputable def K.f52con : Con := ⟨52, K.f52sig, K.f52F⟩
theorem K.f52ok : Con.Ok Go.Proofs.Try.prog K.C K.f52con :=
  runFn_ok (Γ := K.f52Γ) (an := K.f52ann) ⟨K.Cok, (List.forall_mem_cons.2 ⟨K.otherok, (List.forall_mem_cons.2 ⟨K.f75ok, (fun _ h => nomatch h)⟩)⟩), K.mixed⟩ Go.Proofs.Try.func52 rfl rfl (fun x y h => (K.f52eq x).trans h) (by decide)
def K.f90sig : Sig := ⟨⟨[.hole (.int .u32)], []⟩, ⟨[.hole (.int .i64)], []⟩⟩
noncomputable def K.f90Γ : List Con := []
def K.f90ann : Ann :=
  (.seq .leaf (.seq (.join [⟨.normal, [(0, .hole (.int .u32)), (2, .hole (.int .i64))], []⟩] (.seq .leaf (.cond (.seq .leaf .leaf) .leaf))) (.seq (.join [⟨.normal, [(0, .hole (.int .u32)), (2, .hole (.int .i64))], []⟩] (.seq .leaf (.cond (.seq .leaf .leaf) .leaf))) (.seq .leaf .leaf))))
/- math/bits.Len32 -/
noncomputable def K.f90F : Int → Option (Int) :=
  fun (x : Int) =>
  Option.bind
    (if Decidable.decide (x ≥ (65536 : Int)) = Bool.true then Option.some (Int.fdiv x ((2 : Int) ^ Min.min (Int.toNat (16 : Int)) (Go.IntKind.bits Go.IntKind.u32)), (16 : Int))
    else Option.some (x, (0 : Int)))
    fun (v1 : Int × Int) =>
    Option.bind
      (if Decidable.decide (v1.fst ≥ (256 : Int)) = Bool.true then
        Option.some (Int.fdiv v1.fst ((2 : Int) ^ Min.min (Int.toNat (8 : Int)) (Go.IntKind.bits Go.IntKind.u32)), Go.IntKind.wrap Go.IntKind.i64 (v1.snd + (8 : Int)))
      else Option.some (v1.1, v1.2))
      fun (v2 : Int × Int) =>
      if
          (0 : Int) ≤ Go.IntKind.wrap Go.IntKind.u8 v2.fst ∧
            Go.IntKind.wrap Go.IntKind.u8 v2.fst <
              (↑(ByteArray.size
                    {
                      data :=
                        List.toArray
                          (List.append
                            (List.append
                              [(0 : UInt8), (1 : UInt8), (2 : UInt8), (2 : UInt8), (3 : UInt8), (3 : UInt8), (3 : UInt8), (3 : UInt8), (4 : UInt8), (4 : UInt8), (4 : UInt8), (4 : UInt8), (4 : UInt8),
                                (4 : UInt8), (4 : UInt8), (4 : UInt8), (5 : UInt8), (5 : UInt8), (5 : UInt8), (5 : UInt8), (5 : UInt8), (5 : UInt8), (5 : UInt8), (5 : UInt8), (5 : UInt8), (5 : UInt8),
                                (5 : UInt8), (5 : UInt8), (5 : UInt8), (5 : UInt8), (5 : UInt8), (5 : UInt8), (6 : UInt8), (6 : UInt8), (6 : UInt8), (6 : UInt8), (6 : UInt8), (6 : UInt8), (6 : UInt8),
                                (6 : UInt8), (6 : UInt8), (6 : UInt8), (6 : UInt8), (6 : UInt8), (6 : UInt8), (6 : UInt8), (6 : UInt8), (6 : UInt8), (6 : UInt8), (6 : UInt8), (6 : UInt8), (6 : UInt8),
                                (6 : UInt8), (6 : UInt8), (6 : UInt8), (6 : UInt8), (6 : UInt8), (6 : UInt8), (6 : UInt8), (6 : UInt8), (6 : UInt8), (6 : UInt8), (6 : UInt8), (6 : UInt8)]
                              [(7 : UInt8), (7 : UInt8), (7 : UInt8), (7 : UInt8), (7 : UInt8), (7 : UInt8), (7 : UInt8), (7 : UInt8), (7 : UInt8), (7 : UInt8), (7 : UInt8), (7 : UInt8), (7 : UInt8),
                                (7 : UInt8), (7 : UInt8), (7 : UInt8), (7 : UInt8), (7 : UInt8), (7 : UInt8), (7 : UInt8), (7 : UInt8), (7 : UInt8), (7 : UInt8), (7 : UInt8), (7 : UInt8), (7 : UInt8),
                                (7 : UInt8), (7 : UInt8), (7 : UInt8), (7 : UInt8), (7 : UInt8), (7 : UInt8), (7 : UInt8), (7 : UInt8), (7 : UInt8), (7 : UInt8), (7 : UInt8), (7 : UInt8), (7 : UInt8),
                                (7 : UInt8), (7 : UInt8), (7 : UInt8), (7 : UInt8), (7 : UInt8), (7 : UInt8), (7 : UInt8), (7 : UInt8), (7 : UInt8), (7 : UInt8), (7 : UInt8), (7 : UInt8), (7 : UInt8),
                                (7 : UInt8), (7 : UInt8), (7 : UInt8), (7 : UInt8), (7 : UInt8), (7 : UInt8), (7 : UInt8), (7 : UInt8), (7 : UInt8), (7 : UInt8), (7 : UInt8), (7 : UInt8)])
                            (List.append
                              [(8 : UInt8), (8 : UInt8), (8 : UInt8), (8 : UInt8), (8 : UInt8), (8 : UInt8), (8 : UInt8), (8 : UInt8), (8 : UInt8), (8 : UInt8), (8 : UInt8), (8 : UInt8), (8 : UInt8),
                                (8 : UInt8), (8 : UInt8), (8 : UInt8), (8 : UInt8), (8 : UInt8), (8 : UInt8), (8 : UInt8), (8 : UInt8), (8 : UInt8), (8 : UInt8), (8 : UInt8), (8 : UInt8), (8 : UInt8),
                                (8 : UInt8), (8 : UInt8), (8 : UInt8), (8 : UInt8), (8 : UInt8), (8 : UInt8), (8 : UInt8), (8 : UInt8), (8 : UInt8), (8 : UInt8), (8 : UInt8), (8 : UInt8), (8 : UInt8),
                                (8 : UInt8), (8 : UInt8), (8 : UInt8), (8 : UInt8), (8 : UInt8), (8 : UInt8), (8 : UInt8), (8 : UInt8), (8 : UInt8), (8 : UInt8), (8 : UInt8), (8 : UInt8), (8 : UInt8),
                                (8 : UInt8), (8 : UInt8), (8 : UInt8), (8 : UInt8), (8 : UInt8), (8 : UInt8), (8 : UInt8), (8 : UInt8), (8 : UInt8), (8 : UInt8), (8 : UInt8), (8 : UInt8)]
                              [(8 : UInt8), (8 : UInt8), (8 : UInt8), (8 : UInt8), (8 : UInt8), (8 : UInt8), (8 : UInt8), (8 : UInt8), (8 : UInt8), (8 : UInt8), (8 : UInt8), (8 : UInt8), (8 : UInt8),
                                (8 : UInt8), (8 : UInt8), (8 : UInt8), (8 : UInt8), (8 : UInt8), (8 : UInt8), (8 : UInt8), (8 : UInt8), (8 : UInt8), (8 : UInt8), (8 : UInt8), (8 : UInt8), (8 : UInt8),
                                (8 : UInt8), (8 : UInt8), (8 : UInt8), (8 : UInt8), (8 : UInt8), (8 : UInt8), (8 : UInt8), (8 : UInt8), (8 : UInt8), (8 : UInt8), (8 : UInt8), (8 : UInt8), (8 : UInt8),
                                (8 : UInt8), (8 : UInt8), (8 : UInt8), (8 : UInt8), (8 : UInt8), (8 : UInt8), (8 : UInt8), (8 : UInt8), (8 : UInt8), (8 : UInt8), (8 : UInt8), (8 : UInt8), (8 : UInt8),
                                (8 : UInt8), (8 : UInt8), (8 : UInt8), (8 : UInt8), (8 : UInt8), (8 : UInt8), (8 : UInt8), (8 : UInt8), (8 : UInt8), (8 : UInt8), (8 : UInt8), (8 : UInt8)])) :
                      ByteArray }) :
                Int) then
        Option.some
          (Go.IntKind.wrap Go.IntKind.i64
            (v2.snd +
              Go.IntKind.wrap Go.IntKind.i64
                (↑(UInt8.toNat
                      (List.getD
                        {
                              data :=
                                List.toArray
                                  (List.append
                                    (List.append
                                      [(0 : UInt8), (1 : UInt8), (2 : UInt8), (2 : UInt8), (3 : UInt8), (3 : UInt8), (3 : UInt8), (3 : UInt8), (4 : UInt8), (4 : UInt8), (4 : UInt8), (4 : UInt8),
                                        (4 : UInt8), (4 : UInt8), (4 : UInt8), (4 : UInt8), (5 : UInt8), (5 : UInt8), (5 : UInt8), (5 : UInt8), (5 : UInt8), (5 : UInt8), (5 : UInt8), (5 : UInt8),
                                        (5 : UInt8), (5 : UInt8), (5 : UInt8), (5 : UInt8), (5 : UInt8), (5 : UInt8), (5 : UInt8), (5 : UInt8), (6 : UInt8), (6 : UInt8), (6 : UInt8), (6 : UInt8),
                                        (6 : UInt8), (6 : UInt8), (6 : UInt8), (6 : UInt8), (6 : UInt8), (6 : UInt8), (6 : UInt8), (6 : UInt8), (6 : UInt8), (6 : UInt8), (6 : UInt8), (6 : UInt8),
                                        (6 : UInt8), (6 : UInt8), (6 : UInt8), (6 : UInt8), (6 : UInt8), (6 : UInt8), (6 : UInt8), (6 : UInt8), (6 : UInt8), (6 : UInt8), (6 : UInt8), (6 : UInt8),
                                        (6 : UInt8), (6 : UInt8), (6 : UInt8), (6 : UInt8)]
                                      [(7 : UInt8), (7 : UInt8), (7 : UInt8), (7 : UInt8), (7 : UInt8), (7 : UInt8), (7 : UInt8), (7 : UInt8), (7 : UInt8), (7 : UInt8), (7 : UInt8), (7 : UInt8),
                                        (7 : UInt8), (7 : UInt8), (7 : UInt8), (7 : UInt8), (7 : UInt8), (7 : UInt8), (7 : UInt8), (7 : UInt8), (7 : UInt8), (7 : UInt8), (7 : UInt8), (7 : UInt8),
                                        (7 : UInt8), (7 : UInt8), (7 : UInt8), (7 : UInt8), (7 : UInt8), (7 : UInt8), (7 : UInt8), (7 : UInt8), (7 : UInt8), (7 : UInt8), (7 : UInt8), (7 : UInt8),
                                        (7 : UInt8), (7 : UInt8), (7 : UInt8), (7 : UInt8), (7 : UInt8), (7 : UInt8), (7 : UInt8), (7 : UInt8), (7 : UInt8), (7 : UInt8), (7 : UInt8), (7 : UInt8),
                                        (7 : UInt8), (7 : UInt8), (7 : UInt8), (7 : UInt8), (7 : UInt8), (7 : UInt8), (7 : UInt8), (7 : UInt8), (7 : UInt8), (7 : UInt8), (7 : UInt8), (7 : UInt8),
                                        (7 : UInt8), (7 : UInt8), (7 : UInt8), (7 : UInt8)])
                                    (List.append
                                      [(8 : UInt8), (8 : UInt8), (8 : UInt8), (8 : UInt8), (8 : UInt8), (8 : UInt8), (8 : UInt8), (8 : UInt8), (8 : UInt8), (8 : UInt8), (8 : UInt8), (8 : UInt8),
                                        (8 : UInt8), (8 : UInt8), (8 : UInt8), (8 : UInt8), (8 : UInt8), (8 : UInt8), (8 : UInt8), (8 : UInt8), (8 : UInt8), (8 : UInt8), (8 : UInt8), (8 : UInt8),
                                        (8 : UInt8), (8 : UInt8), (8 : UInt8), (8 : UInt8), (8 : UInt8), (8 : UInt8), (8 : UInt8), (8 : UInt8), (8 : UInt8), (8 : UInt8), (8 : UInt8), (8 : UInt8),
                                        (8 : UInt8), (8 : UInt8), (8 : UInt8), (8 : UInt8), (8 : UInt8), (8 : UInt8), (8 : UInt8), (8 : UInt8), (8 : UInt8), (8 : UInt8), (8 : UInt8), (8 : UInt8),
                                        (8 : UInt8), (8 : UInt8), (8 : UInt8), (8 : UInt8), (8 : UInt8), (8 : UInt8), (8 : UInt8), (8 : UInt8), (8 : UInt8), (8 : UInt8), (8 : UInt8), (8 : UInt8),
                                        (8 : UInt8), (8 : UInt8), (8 : UInt8), (8 : UInt8)]
                                      [(8 : UInt8), (8 : UInt8), (8 : UInt8), (8 : UInt8), (8 : UInt8), (8 : UInt8), (8 : UInt8), (8 : UInt8), (8 : UInt8), (8 : UInt8), (8 : UInt8), (8 : UInt8),
                                        (8 : UInt8), (8 : UInt8), (8 : UInt8), (8 : UInt8), (8 : UInt8), (8 : UInt8), (8 : UInt8), (8 : UInt8), (8 : UInt8), (8 : UInt8), (8 : UInt8), (8 : UInt8),
                                        (8 : UInt8), (8 : UInt8), (8 : UInt8), (8 : UInt8), (8 : UInt8), (8 : UInt8), (8 : UInt8), (8 : UInt8), (8 : UInt8), (8 : UInt8), (8 : UInt8), (8 : UInt8),
                                        (8 : UInt8), (8 : UInt8), (8 : UInt8), (8 : UInt8), (8 : UInt8), (8 : UInt8), (8 : UInt8), (8 : UInt8), (8 : UInt8), (8 : UInt8), (8 : UInt8), (8 : UInt8),
                                        (8 : UInt8), (8 : UInt8), (8 : UInt8), (8 : UInt8), (8 : UInt8), (8 : UInt8), (8 : UInt8), (8 : UInt8), (8 : UInt8), (8 : UInt8), (8 : UInt8), (8 : UInt8),
                                        (8 : UInt8), (8 : UInt8), (8 : UInt8), (8 : UInt8)])) :
                              ByteArray }.data.toList
                        (Int.toNat (Go.IntKind.wrap Go.IntKind.u8 v2.fst)) (0 : UInt8))) :
                  Int)))
      else Option.none
theorem K.f90eq : ∀ x, runFn K.C K.f90Γ K.f90sig K.f90ann Go.Proofs.Try.f90 x = K.f90F x := by
  intro x
  kernel_rfl
noncomputable def K.f90con : Con := ⟨90, K.f90sig, K.f90F⟩
theorem K.f90ok : Con.Ok Go.Proofs.Try.prog K.C K.f90con :=
  runFn_ok (Γ := K.f90Γ) (an := K.f90ann) ⟨K.Cok, (fun _ h => nomatch h), K.mixed⟩ Go.Proofs.Try.func90 rfl rfl (fun x y h => (K.f90eq x).trans h) (by decide)
def K.f91sig : Sig := ⟨⟨[.hole (.int .u64)], []⟩, ⟨[.hole (.int .i64)], []⟩⟩
noncomputable def K.f91Γ : List Con := []
def K.f91ann : Ann :=
  (.seq .leaf (.seq (.join [⟨.normal, [(0, .hole (.int .u64)), (2, .hole (.int .i64))], []⟩] (.seq .leaf (.cond (.seq .leaf .leaf) .leaf))) (.seq (.join [⟨.normal, [(0, .hole (.int .u64)), (2, .hole (.int .i64))], []⟩] (.seq .leaf (.cond (.seq .leaf .leaf) .leaf))) (.seq (.join [⟨.normal, [(0, .hole (.int .u64)), (2, .hole (.int .i64))], []⟩] (.seq .leaf (.cond (.seq .leaf .leaf) .leaf))) (.seq .leaf .leaf)))))
/- math/bits.Len64 -/
noncomputable def K.f91F : Int → Option (Int) :=
  fun (x : Int) =>
  Option.bind
    (if Decidable.decide (x ≥ (4294967296 : Int)) = Bool.true then Option.some (Int.fdiv x ((2 : Int) ^ Min.min (Int.toNat (32 : Int)) (Go.IntKind.bits Go.IntKind.u64)), (32 : Int))
    else Option.some (x, (0 : Int)))
    fun (v1 : Int × Int) =>
    Option.bind
      (if Decidable.decide (v1.fst ≥ (65536 : Int)) = Bool.true then
        Option.some (Int.fdiv v1.fst ((2 : Int) ^ Min.min (Int.toNat (16 : Int)) (Go.IntKind.bits Go.IntKind.u64)), Go.IntKind.wrap Go.IntKind.i64 (v1.snd + (16 : Int)))
      else Option.some (v1.1, v1.2))
      fun (v2 : Int × Int) =>
      Option.bind
        (if Decidable.decide (v2.fst ≥ (256 : Int)) = Bool.true then
          Option.some (Int.fdiv v2.fst ((2 : Int) ^ Min.min (Int.toNat (8 : Int)) (Go.IntKind.bits Go.IntKind.u64)), Go.IntKind.wrap Go.IntKind.i64 (v2.snd + (8 : Int)))
        else Option.some (v2.1, v2.2))
        fun (v3 : Int × Int) =>
        if
            (0 : Int) ≤ Go.IntKind.wrap Go.IntKind.u8 v3.fst ∧
              Go.IntKind.wrap Go.IntKind.u8 v3.fst <
                (↑(ByteArray.size
                      {
                        data :=
                          List.toArray
                            (List.append
                              (List.append
                                [(0 : UInt8), (1 : UInt8), (2 : UInt8), (2 : UInt8), (3 : UInt8), (3 : UInt8), (3 : UInt8), (3 : UInt8), (4 : UInt8), (4 : UInt8), (4 : UInt8), (4 : UInt8),
                                  (4 : UInt8), (4 : UInt8), (4 : UInt8), (4 : UInt8), (5 : UInt8), (5 : UInt8), (5 : UInt8), (5 : UInt8), (5 : UInt8), (5 : UInt8), (5 : UInt8), (5 : UInt8),
                                  (5 : UInt8), (5 : UInt8), (5 : UInt8), (5 : UInt8), (5 : UInt8), (5 : UInt8), (5 : UInt8), (5 : UInt8), (6 : UInt8), (6 : UInt8), (6 : UInt8), (6 : UInt8),
                                  (6 : UInt8), (6 : UInt8), (6 : UInt8), (6 : UInt8), (6 : UInt8), (6 : UInt8), (6 : UInt8), (6 : UInt8), (6 : UInt8), (6 : UInt8), (6 : UInt8), (6 : UInt8),
                                  (6 : UInt8), (6 : UInt8), (6 : UInt8), (6 : UInt8), (6 : UInt8), (6 : UInt8), (6 : UInt8), (6 : UInt8), (6 : UInt8), (6 : UInt8), (6 : UInt8), (6 : UInt8),
                                  (6 : UInt8), (6 : UInt8), (6 : UInt8), (6 : UInt8)]
                                [(7 : UInt8), (7 : UInt8), (7 : UInt8), (7 : UInt8), (7 : UInt8), (7 : UInt8), (7 : UInt8), (7 : UInt8), (7 : UInt8), (7 : UInt8), (7 : UInt8), (7 : UInt8),
                                  (7 : UInt8), (7 : UInt8), (7 : UInt8), (7 : UInt8), (7 : UInt8), (7 : UInt8), (7 : UInt8), (7 : UInt8), (7 : UInt8), (7 : UInt8), (7 : UInt8), (7 : UInt8),
                                  (7 : UInt8), (7 : UInt8), (7 : UInt8), (7 : UInt8), (7 : UInt8), (7 : UInt8), (7 : UInt8), (7 : UInt8), (7 : UInt8), (7 : UInt8), (7 : UInt8), (7 : UInt8),
                                  (7 : UInt8), (7 : UInt8), (7 : UInt8), (7 : UInt8), (7 : UInt8), (7 : UInt8), (7 : UInt8), (7 : UInt8), (7 : UInt8), (7 : UInt8), (7 : UInt8), (7 : UInt8),
                                  (7 : UInt8), (7 : UInt8), (7 : UInt8), (7 : UInt8), (7 : UInt8), (7 : UInt8), (7 : UInt8), (7 : UInt8), (7 : UInt8), (7 : UInt8), (7 : UInt8), (7 : UInt8),
                                  (7 : UInt8), (7 : UInt8), (7 : UInt8), (7 : UInt8)])
                              (List.append
                                [(8 : UInt8), (8 : UInt8), (8 : UInt8), (8 : UInt8), (8 : UInt8), (8 : UInt8), (8 : UInt8), (8 : UInt8), (8 : UInt8), (8 : UInt8), (8 : UInt8), (8 : UInt8),
                                  (8 : UInt8), (8 : UInt8), (8 : UInt8), (8 : UInt8), (8 : UInt8), (8 : UInt8), (8 : UInt8), (8 : UInt8), (8 : UInt8), (8 : UInt8), (8 : UInt8), (8 : UInt8),
                                  (8 : UInt8), (8 : UInt8), (8 : UInt8), (8 : UInt8), (8 : UInt8), (8 : UInt8), (8 : UInt8), (8 : UInt8), (8 : UInt8), (8 : UInt8), (8 : UInt8), (8 : UInt8),
                                  (8 : UInt8), (8 : UInt8), (8 : UInt8), (8 : UInt8), (8 : UInt8), (8 : UInt8), (8 : UInt8), (8 : UInt8), (8 : UInt8), (8 : UInt8), (8 : UInt8), (8 : UInt8),
                                  (8 : UInt8), (8 : UInt8), (8 : UInt8), (8 : UInt8), (8 : UInt8), (8 : UInt8), (8 : UInt8), (8 : UInt8), (8 : UInt8), (8 : UInt8), (8 : UInt8), (8 : UInt8),
                                  (8 : UInt8), (8 : UInt8), (8 : UInt8), (8 : UInt8)]
                                [(8 : UInt8), (8 : UInt8), (8 : UInt8), (8 : UInt8), (8 : UInt8), (8 : UInt8), (8 : UInt8), (8 : UInt8), (8 : UInt8), (8 : UInt8), (8 : UInt8), (8 : UInt8),
                                  (8 : UInt8), (8 : UInt8), (8 : UInt8), (8 : UInt8), (8 : UInt8), (8 : UInt8), (8 : UInt8), (8 : UInt8), (8 : UInt8), (8 : UInt8), (8 : UInt8), (8 : UInt8),
                                  (8 : UInt8), (8 : UInt8), (8 : UInt8), (8 : UInt8), (8 : UInt8), (8 : UInt8), (8 : UInt8), (8 : UInt8), (8 : UInt8), (8 : UInt8), (8 : UInt8), (8 : UInt8),
                                  (8 : UInt8), (8 : UInt8), (8 : UInt8), (8 : UInt8), (8 : UInt8), (8 : UInt8), (8 : UInt8), (8 : UInt8), (8 : UInt8), (8 : UInt8), (8 : UInt8), (8 : UInt8),
                                  (8 : UInt8), (8 : UInt8), (8 : UInt8), (8 : UInt8), (8 : UInt8), (8 : UInt8), (8 : UInt8), (8 : UInt8), (8 : UInt8), (8 : UInt8), (8 : UInt8), (8 : UInt8),
                                  (8 : UInt8), (8 : UInt8), (8 : UInt8), (8 : UInt8)])) :
                        ByteArray }) :
                  Int) then
          Option.some
            (Go.IntKind.wrap Go.IntKind.i64
              (v3.snd +
                Go.IntKind.wrap Go.IntKind.i64
                  (↑(UInt8.toNat
                        (List.getD
                          {
                                data :=
                                  List.toArray
                                    (List.append
                                      (List.append
                                        [(0 : UInt8), (1 : UInt8), (2 : UInt8), (2 : UInt8), (3 : UInt8), (3 : UInt8), (3 : UInt8), (3 : UInt8), (4 : UInt8), (4 : UInt8), (4 : UInt8), (4 : UInt8),
                                          (4 : UInt8), (4 : UInt8), (4 : UInt8), (4 : UInt8), (5 : UInt8), (5 : UInt8), (5 : UInt8), (5 : UInt8), (5 : UInt8), (5 : UInt8), (5 : UInt8), (5 : UInt8),
                                          (5 : UInt8), (5 : UInt8), (5 : UInt8), (5 : UInt8), (5 : UInt8), (5 : UInt8), (5 : UInt8), (5 : UInt8), (6 : UInt8), (6 : UInt8), (6 : UInt8), (6 : UInt8),
                                          (6 : UInt8), (6 : UInt8), (6 : UInt8), (6 : UInt8), (6 : UInt8), (6 : UInt8), (6 : UInt8), (6 : UInt8), (6 : UInt8), (6 : UInt8), (6 : UInt8), (6 : UInt8),
                                          (6 : UInt8), (6 : UInt8), (6 : UInt8), (6 : UInt8), (6 : UInt8), (6 : UInt8), (6 : UInt8), (6 : UInt8), (6 : UInt8), (6 : UInt8), (6 : UInt8), (6 : UInt8),
                                          (6 : UInt8), (6 : UInt8), (6 : UInt8), (6 : UInt8)]
                                        [(7 : UInt8), (7 : UInt8), (7 : UInt8), (7 : UInt8), (7 : UInt8), (7 : UInt8), (7 : UInt8), (7 : UInt8), (7 : UInt8), (7 : UInt8), (7 : UInt8), (7 : UInt8),
                                          (7 : UInt8), (7 : UInt8), (7 : UInt8), (7 : UInt8), (7 : UInt8), (7 : UInt8), (7 : UInt8), (7 : UInt8), (7 : UInt8), (7 : UInt8), (7 : UInt8), (7 : UInt8),
                                          (7 : UInt8), (7 : UInt8), (7 : UInt8), (7 : UInt8), (7 : UInt8), (7 : UInt8), (7 : UInt8), (7 : UInt8), (7 : UInt8), (7 : UInt8), (7 : UInt8), (7 : UInt8),
                                          (7 : UInt8), (7 : UInt8), (7 : UInt8), (7 : UInt8), (7 : UInt8), (7 : UInt8), (7 : UInt8), (7 : UInt8), (7 : UInt8), (7 : UInt8), (7 : UInt8), (7 : UInt8),
                                          (7 : UInt8), (7 : UInt8), (7 : UInt8), (7 : UInt8), (7 : UInt8), (7 : UInt8), (7 : UInt8), (7 : UInt8), (7 : UInt8), (7 : UInt8), (7 : UInt8), (7 : UInt8),
                                          (7 : UInt8), (7 : UInt8), (7 : UInt8), (7 : UInt8)])
                                      (List.append
                                        [(8 : UInt8), (8 : UInt8), (8 : UInt8), (8 : UInt8), (8 : UInt8), (8 : UInt8), (8 : UInt8), (8 : UInt8), (8 : UInt8), (8 : UInt8), (8 : UInt8), (8 : UInt8),
                                          (8 : UInt8), (8 : UInt8), (8 : UInt8), (8 : UInt8), (8 : UInt8), (8 : UInt8), (8 : UInt8), (8 : UInt8), (8 : UInt8), (8 : UInt8), (8 : UInt8), (8 : UInt8),
                                          (8 : UInt8), (8 : UInt8), (8 : UInt8), (8 : UInt8), (8 : UInt8), (8 : UInt8), (8 : UInt8), (8 : UInt8), (8 : UInt8), (8 : UInt8), (8 : UInt8), (8 : UInt8),
                                          (8 : UInt8), (8 : UInt8), (8 : UInt8), (8 : UInt8), (8 : UInt8), (8 : UInt8), (8 : UInt8), (8 : UInt8), (8 : UInt8), (8 : UInt8), (8 : UInt8), (8 : UInt8),
                                          (8 : UInt8), (8 : UInt8), (8 : UInt8), (8 : UInt8), (8 : UInt8), (8 : UInt8), (8 : UInt8), (8 : UInt8), (8 : UInt8), (8 : UInt8), (8 : UInt8), (8 : UInt8),
                                          (8 : UInt8), (8 : UInt8), (8 : UInt8), (8 : UInt8)]
                                        [(8 : UInt8), (8 : UInt8), (8 : UInt8), (8 : UInt8), (8 : UInt8), (8 : UInt8), (8 : UInt8), (8 : UInt8), (8 : UInt8), (8 : UInt8), (8 : UInt8), (8 : UInt8),
                                          (8 : UInt8), (8 : UInt8), (8 : UInt8), (8 : UInt8), (8 : UInt8), (8 : UInt8), (8 : UInt8), (8 : UInt8), (8 : UInt8), (8 : UInt8), (8 : UInt8), (8 : UInt8),
                                          (8 : UInt8), (8 : UInt8), (8 : UInt8), (8 : UInt8), (8 : UInt8), (8 : UInt8), (8 : UInt8), (8 : UInt8), (8 : UInt8), (8 : UInt8), (8 : UInt8), (8 : UInt8),
                                          (8 : UInt8), (8 : UInt8), (8 : UInt8), (8 : UInt8), (8 : UInt8), (8 : UInt8), (8 : UInt8), (8 : UInt8), (8 : UInt8), (8 : UInt8), (8 : UInt8), (8 : UInt8),
                                          (8 : UInt8), (8 : UInt8), (8 : UInt8), (8 : UInt8), (8 : UInt8), (8 : UInt8), (8 : UInt8), (8 : UInt8), (8 : UInt8), (8 : UInt8), (8 : UInt8), (8 : UInt8),
                                          (8 : UInt8), (8 : UInt8), (8 : UInt8), (8 : UInt8)])) :
                                ByteArray }.data.toList
                          (Int.toNat (Go.IntKind.wrap Go.IntKind.u8 v3.fst)) (0 : UInt8))) :
                    Int)))
        else Option.none
theorem K.f91eq : ∀ x, runFn K.C K.f91Γ K.f91sig K.f91ann Go.Proofs.Try.f91 x = K.f91F x := by
  intro x
  kernel_rfl
noncomputable def K.f91con : Con := ⟨91, K.f91sig, K.f91F⟩
theorem K.f91ok : Con.Ok Go.Proofs.Try.prog K.C K.f91con :=
  runFn_ok (Γ := K.f91Γ) (an := K.f91ann) ⟨K.Cok, (fun _ h => nomatch h), K.mixed⟩ Go.Proofs.Try.func91 rfl rfl (fun x y h => (K.f91eq x).trans h) (by decide)
def K.f73sig : Sig := ⟨⟨[.hole (.int .u64)], []⟩, ⟨[.hole (.int .i64)], []⟩⟩
noncomputable def K.f73Γ : List Con := [K.f90con, K.f91con]
def K.f73ann : Ann :=
  (.seq .leaf (.seq (.cond .leaf .leaf) (.seq .leaf .leaf)))
/- math/bits.Len -/
noncomputable def K.f73F : Int → Option (Int) :=
  fun (x : Int) => Option.bind (Go.Sx.K.f91F x) fun (v1 : Int) => Option.some v1
theorem K.f73eq : ∀ x, runFn K.C K.f73Γ K.f73sig K.f73ann Go.Proofs.Try.f73 x = K.f73F x := by
  intro x
  kernel_rfl
noncomputable def K.f73con : Con := ⟨73, K.f73sig, K.f73F⟩
theorem K.f73ok : Con.Ok Go.Proofs.Try.prog K.C K.f73con :=
  runFn_ok (Γ := K.f73Γ) (an := K.f73ann) ⟨K.Cok, (List.forall_mem_cons.2 ⟨K.f90ok, (List.forall_mem_cons.2 ⟨K.f91ok, (fun _ h => nomatch h)⟩)⟩), K.mixed⟩ Go.Proofs.Try.func73 rfl rfl (fun x y h => (K.f73eq x).trans h) (by decide)
def K.f54sig : Sig := ⟨⟨[.hole (.arr 2 (.int .i64)), .hole (.arr 2 (.int .i64))], []⟩, ⟨[.hole (.int .i64)], []⟩⟩
noncomputable def K.f54Γ : List Con := []
def K.f54ann : Ann :=
  (.seq .leaf (.seq .leaf .leaf))
/- ductus/brack.Pairs$1 -/
noncomputable def K.f54F : List Int × List Int → Option (Int) :=
  fun (x : List Int × List Int) =>
  if (0 : Int) ≤ (0 : Int) ∧ (0 : Int) < (↑(2 : Nat) : Int) then
    if (0 : Int) ≤ (0 : Int) ∧ (0 : Int) < (↑(2 : Nat) : Int) then Option.some (Go.IntKind.wrap Go.IntKind.i64 (List.getD x.fst (nat_lit 0) (0 : Int) - List.getD x.snd (nat_lit 0) (0 : Int)))
    else Option.none
  else Option.none
theorem K.f54eq : ∀ x, runFn K.C K.f54Γ K.f54sig K.f54ann Go.Proofs.Try.f54 x = K.f54F x := by
  intro x
  kernel_rfl
noncomputable def K.f54con : Con := ⟨54, K.f54sig, K.f54F⟩
theorem K.f54ok : Con.Ok Go.Proofs.Try.prog K.C K.f54con :=
  runFn_ok (Γ := K.f54Γ) (an := K.f54ann) ⟨K.Cok, (fun _ h => nomatch h), K.mixed⟩ Go.Proofs.Try.func54 rfl rfl (fun x y h => (K.f54eq x).trans h) (by decide)
def K.f92sig : Sig := ⟨⟨[.own 0, .hole (.int .i64), .hole (.int .i64), .fnc 54 0], [.arr 52 (.arr 2 (.int .i64))]⟩, ⟨[], [.arr 52 (.arr 2 (.int .i64))]⟩⟩
noncomputable def K.f92Γ : List Con := [K.f54con]
def K.f92ann : Ann :=
  (.seq .leaf (.block (.loop ⟨.normal, [(8, .hole (.int .i64))], [.arr 52 (.arr 2 (.int .i64))]⟩ [⟨(.exit 0), [], [.arr 52 (.arr 2 (.int .i64))]⟩] (.seq (.seq .leaf (.cond .leaf .leaf)) (.seq (.block (.seq .leaf (.block (.loop ⟨.normal, [(9, .hole (.int .i64))], [.arr 52 (.arr 2 (.int .i64))]⟩ [⟨(.exit 2), [], [.arr 52 (.arr 2 (.int .i64))]⟩] (.seq (.seq (.join [⟨.normal, [(34, .hole .bool)], [.arr 52 (.arr 2 (.int .i64))]⟩] .leaf) (.cond .leaf .leaf)) (.seq (.block (.eff 1 [] [0, 0, 0, 0, 8, 0, 0, 64, 224, 480, 0, 0, 3072, 7168, 16355, 32739, 65535, 131071])) .leaf)))))) .leaf)))))
/- slices.insertionSortCmpFunc[[2]int] -/
noncomputable def K.f92F : Int × Int × List (List Int) → Option (List (List Int)) :=
  fun (x : Int × Int × List (List Int)) =>
  Option.bind
    (Go.Sx.iter
      (fun (s1 : Int × List (List Int)) =>
        if Decidable.decide (s1.fst < x.snd.fst) = Bool.true then
          Option.bind
            (Go.Sx.iter
              (fun (s2 : Int × List (List Int)) =>
                Option.bind
                  (if Decidable.decide (s2.fst > x.fst) = Bool.true then
                    if (0 : Int) ≤ s2.fst ∧ s2.fst < (↑(List.length s2.snd) : Int) then
                      if (0 : Int) ≤ Go.IntKind.wrap Go.IntKind.i64 (s2.fst - (1 : Int)) ∧ Go.IntKind.wrap Go.IntKind.i64 (s2.fst - (1 : Int)) < (↑(List.length s2.snd) : Int) then
                        Option.bind
                          (Go.Sx.K.f54F
                            (List.getD s2.2 (Int.toNat s2.fst) (List.replicate (2 : Nat) (0 : Int)),
                              List.getD s2.2 (Int.toNat (Go.IntKind.wrap Go.IntKind.i64 (s2.fst - (1 : Int)))) (List.replicate (2 : Nat) (0 : Int))))
                          fun (v3 : Int) => Option.some (Decidable.decide (v3 < (0 : Int)), s2.2)
                      else Option.none
                    else Option.none
                  else Option.some (Bool.false, s2.2))
                  fun (v3 : Bool × List (List Int)) =>
                  if v3.fst = Bool.true then
                    if (0 : Int) ≤ Go.IntKind.wrap Go.IntKind.i64 (s2.fst - (1 : Int)) ∧ Go.IntKind.wrap Go.IntKind.i64 (s2.fst - (1 : Int)) < (↑(List.length v3.snd) : Int) then
                      if (0 : Int) ≤ s2.fst ∧ s2.fst < (↑(List.length v3.snd) : Int) then
                        if (0 : Int) ≤ s2.fst ∧ s2.fst < (↑(List.length v3.snd) : Int) then
                          if
                              (0 : Int) ≤ Go.IntKind.wrap Go.IntKind.i64 (s2.fst - (1 : Int)) ∧
                                Go.IntKind.wrap Go.IntKind.i64 (s2.fst - (1 : Int)) <
                                  (↑(List.length
                                        (List.set v3.2 (Int.toNat s2.fst) (List.getD v3.2 (Int.toNat (Go.IntKind.wrap Go.IntKind.i64 (s2.fst - (1 : Int)))) (List.replicate (2 : Nat) (0 : Int))))) :
                                    Int) then
                            Option.some
                              (Sum.inl
                                (Go.IntKind.wrap Go.IntKind.i64 (s2.fst - (1 : Int)),
                                  List.set (List.set v3.2 (Int.toNat s2.fst) (List.getD v3.2 (Int.toNat (Go.IntKind.wrap Go.IntKind.i64 (s2.fst - (1 : Int)))) (List.replicate (2 : Nat) (0 : Int))))
                                    (Int.toNat (Go.IntKind.wrap Go.IntKind.i64 (s2.fst - (1 : Int)))) (List.getD v3.2 (Int.toNat s2.fst) (List.replicate (2 : Nat) (0 : Int)))))
                          else Option.none
                        else Option.none
                      else Option.none
                    else Option.none
                  else Option.some (Sum.inr v3.2))
              (s1.1, s1.2))
            fun (v2 : List (List Int)) => Option.some (Sum.inl (Go.IntKind.wrap Go.IntKind.i64 (s1.fst + (1 : Int)), v2))
        else Option.some (Sum.inr s1.2))
      (Go.IntKind.wrap Go.IntKind.i64 (x.fst + (1 : Int)), x.snd.2))
    fun (v1 : List (List Int)) => Option.some v1
theorem K.f92eq : ∀ x, runFn K.C K.f92Γ K.f92sig K.f92ann Go.Proofs.Try.f92 x = K.f92F x := by
  intro x
  kernel_rfl
noncomputable def K.f92con : Con := ⟨92, K.f92sig, K.f92F⟩
theorem K.f92ok : Con.Ok Go.Proofs.Try.prog K.C K.f92con :=
  runFn_ok (Γ := K.f92Γ) (an := K.f92ann) ⟨K.Cok, (List.forall_mem_cons.2 ⟨K.f54ok, (fun _ h => nomatch h)⟩), K.mixed⟩ Go.Proofs.Try.func92 rfl rfl (fun x y h => (K.f92eq x).trans h) (by decide)
def K.f107sig : Sig := ⟨⟨[.own 0, .hole (.int .i64), .hole (.int .i64), .hole (.int .i64), .fnc 54 0], [.arr 52 (.arr 2 (.int .i64))]⟩, ⟨[], [.arr 52 (.arr 2 (.int .i64))]⟩⟩
noncomputable def K.f107Γ : List Con := [K.f54con]
def K.f107ann : Ann :=
  (.seq .leaf (.block (.loop ⟨.normal, [(10, .hole (.int .i64))], [.arr 52 (.arr 2 (.int .i64))]⟩ [⟨(.exit 0), [], [.arr 52 (.arr 2 (.int .i64))]⟩, ⟨.ret, [], [.arr 52 (.arr 2 (.int .i64))]⟩] (.block (.seq .leaf (.seq (.seq .leaf (.cond .leaf .leaf)) (.seq (.join [⟨.normal, [(11, .hole (.int .i64))], [.arr 52 (.arr 2 (.int .i64))]⟩] (.seq (.join [⟨.normal, [(40, .hole .bool)], [.arr 52 (.arr 2 (.int .i64))]⟩] .leaf) (.cond .leaf .leaf))) (.seq (.seq .leaf (.cond .leaf .leaf)) (.seq (.eff 1 [] [0, 0, 0, 6, 0, 0, 0, 96, 0, 0, 0, 1536, 3840, 7936, 0, 0, 0, 98304, 245760, 507904, 1048335, 2096911, 4194303, 8388607]) .leaf)))))))))
/- slices.siftDownCmpFunc[[2]int] -/
noncomputable def K.f107F : Int × Int × Int × List (List Int) → Option (List (List Int)) :=
  fun (x : Int × Int × Int × List (List Int)) =>
  Option.bind
    (Go.Sx.iter
      (fun (s1 : Int × List (List Int)) =>
        if Decidable.decide (Go.IntKind.wrap Go.IntKind.i64 (Go.IntKind.wrap Go.IntKind.i64 ((2 : Int) * s1.fst) + (1 : Int)) ≥ x.snd.fst) = Bool.true then Option.some (Sum.inr (Sum.inl s1.2))
        else
          Option.bind
            (Option.bind
              (if
                  Decidable.decide (Go.IntKind.wrap Go.IntKind.i64 (Go.IntKind.wrap Go.IntKind.i64 (Go.IntKind.wrap Go.IntKind.i64 ((2 : Int) * s1.fst) + (1 : Int)) + (1 : Int)) < x.snd.fst) =
                    Bool.true then
                if
                    (0 : Int) ≤ Go.IntKind.wrap Go.IntKind.i64 (x.snd.snd.fst + Go.IntKind.wrap Go.IntKind.i64 (Go.IntKind.wrap Go.IntKind.i64 ((2 : Int) * s1.fst) + (1 : Int))) ∧
                      Go.IntKind.wrap Go.IntKind.i64 (x.snd.snd.fst + Go.IntKind.wrap Go.IntKind.i64 (Go.IntKind.wrap Go.IntKind.i64 ((2 : Int) * s1.fst) + (1 : Int))) <
                        (↑(List.length s1.snd) : Int) then
                  if
                      (0 : Int) ≤
                          Go.IntKind.wrap Go.IntKind.i64
                            (Go.IntKind.wrap Go.IntKind.i64 (x.snd.snd.fst + Go.IntKind.wrap Go.IntKind.i64 (Go.IntKind.wrap Go.IntKind.i64 ((2 : Int) * s1.fst) + (1 : Int))) + (1 : Int)) ∧
                        Go.IntKind.wrap Go.IntKind.i64
                            (Go.IntKind.wrap Go.IntKind.i64 (x.snd.snd.fst + Go.IntKind.wrap Go.IntKind.i64 (Go.IntKind.wrap Go.IntKind.i64 ((2 : Int) * s1.fst) + (1 : Int))) + (1 : Int)) <
                          (↑(List.length s1.snd) : Int) then
                    Option.bind
                      (Go.Sx.K.f54F
                        (List.getD s1.2 (Int.toNat (Go.IntKind.wrap Go.IntKind.i64 (x.snd.snd.fst + Go.IntKind.wrap Go.IntKind.i64 (Go.IntKind.wrap Go.IntKind.i64 ((2 : Int) * s1.fst) + (1 : Int)))))
                            (List.replicate (2 : Nat) (0 : Int)),
                          List.getD s1.2
                            (Int.toNat
                              (Go.IntKind.wrap Go.IntKind.i64
                                (Go.IntKind.wrap Go.IntKind.i64 (x.snd.snd.fst + Go.IntKind.wrap Go.IntKind.i64 (Go.IntKind.wrap Go.IntKind.i64 ((2 : Int) * s1.fst) + (1 : Int))) + (1 : Int))))
                            (List.replicate (2 : Nat) (0 : Int))))
                      fun (v2 : Int) => Option.some (Decidable.decide (v2 < (0 : Int)), s1.2)
                  else Option.none
                else Option.none
              else Option.some (Bool.false, s1.2))
              fun (v2 : Bool × List (List Int)) =>
              if v2.fst = Bool.true then
                Option.some (Go.IntKind.wrap Go.IntKind.i64 (Go.IntKind.wrap Go.IntKind.i64 (Go.IntKind.wrap Go.IntKind.i64 ((2 : Int) * s1.fst) + (1 : Int)) + (1 : Int)), v2.2)
              else Option.some (Go.IntKind.wrap Go.IntKind.i64 (Go.IntKind.wrap Go.IntKind.i64 ((2 : Int) * s1.fst) + (1 : Int)), v2.2))
            fun (v2 : Int × List (List Int)) =>
            if (0 : Int) ≤ Go.IntKind.wrap Go.IntKind.i64 (x.snd.snd.fst + s1.fst) ∧ Go.IntKind.wrap Go.IntKind.i64 (x.snd.snd.fst + s1.fst) < (↑(List.length v2.snd) : Int) then
              if (0 : Int) ≤ Go.IntKind.wrap Go.IntKind.i64 (x.snd.snd.fst + v2.fst) ∧ Go.IntKind.wrap Go.IntKind.i64 (x.snd.snd.fst + v2.fst) < (↑(List.length v2.snd) : Int) then
                Option.bind
                  (Go.Sx.K.f54F
                    (List.getD v2.2 (Int.toNat (Go.IntKind.wrap Go.IntKind.i64 (x.snd.snd.fst + s1.fst))) (List.replicate (2 : Nat) (0 : Int)),
                      List.getD v2.2 (Int.toNat (Go.IntKind.wrap Go.IntKind.i64 (x.snd.snd.fst + v2.fst))) (List.replicate (2 : Nat) (0 : Int))))
                  fun (v3 : Int) =>
                  if (!Decidable.decide (v3 < (0 : Int))) = Bool.true then Option.some (Sum.inr (Sum.inr v2.2))
                  else
                    if (0 : Int) ≤ Go.IntKind.wrap Go.IntKind.i64 (x.snd.snd.fst + v2.fst) ∧ Go.IntKind.wrap Go.IntKind.i64 (x.snd.snd.fst + v2.fst) < (↑(List.length v2.snd) : Int) then
                      if (0 : Int) ≤ Go.IntKind.wrap Go.IntKind.i64 (x.snd.snd.fst + s1.fst) ∧ Go.IntKind.wrap Go.IntKind.i64 (x.snd.snd.fst + s1.fst) < (↑(List.length v2.snd) : Int) then
                        if (0 : Int) ≤ Go.IntKind.wrap Go.IntKind.i64 (x.snd.snd.fst + s1.fst) ∧ Go.IntKind.wrap Go.IntKind.i64 (x.snd.snd.fst + s1.fst) < (↑(List.length v2.snd) : Int) then
                          if
                              (0 : Int) ≤ Go.IntKind.wrap Go.IntKind.i64 (x.snd.snd.fst + v2.fst) ∧
                                Go.IntKind.wrap Go.IntKind.i64 (x.snd.snd.fst + v2.fst) <
                                  (↑(List.length
                                        (List.set v2.2 (Int.toNat (Go.IntKind.wrap Go.IntKind.i64 (x.snd.snd.fst + s1.fst)))
                                          (List.getD v2.2 (Int.toNat (Go.IntKind.wrap Go.IntKind.i64 (x.snd.snd.fst + v2.fst))) (List.replicate (2 : Nat) (0 : Int))))) :
                                    Int) then
                            Option.some
                              (Sum.inl
                                (v2.1,
                                  List.set
                                    (List.set v2.2 (Int.toNat (Go.IntKind.wrap Go.IntKind.i64 (x.snd.snd.fst + s1.fst)))
                                      (List.getD v2.2 (Int.toNat (Go.IntKind.wrap Go.IntKind.i64 (x.snd.snd.fst + v2.fst))) (List.replicate (2 : Nat) (0 : Int))))
                                    (Int.toNat (Go.IntKind.wrap Go.IntKind.i64 (x.snd.snd.fst + v2.fst)))
                                    (List.getD v2.2 (Int.toNat (Go.IntKind.wrap Go.IntKind.i64 (x.snd.snd.fst + s1.fst))) (List.replicate (2 : Nat) (0 : Int)))))
                          else Option.none
                        else Option.none
                      else Option.none
                    else Option.none
              else Option.none
            else Option.none)
      (x.1, x.snd.snd.2))
    fun (v1 : List (List Int) ⊕ List (List Int)) => Sum.elim (fun (p2 : List (List Int)) => Option.some p2) (fun (q2 : List (List Int)) => Option.some q2) v1
theorem K.f107eq : ∀ x, runFn K.C K.f107Γ K.f107sig K.f107ann Go.Proofs.Try.f107 x = K.f107F x := by
  intro x
  kernel_rfl
noncomputable def K.f107con : Con := ⟨107, K.f107sig, K.f107F⟩
theorem K.f107ok : Con.Ok Go.Proofs.Try.prog K.C K.f107con :=
  runFn_ok (Γ := K.f107Γ) (an := K.f107ann) ⟨K.Cok, (List.forall_mem_cons.2 ⟨K.f54ok, (fun _ h => nomatch h)⟩), K.mixed⟩ Go.Proofs.Try.func107 rfl rfl (fun x y h => (K.f107eq x).trans h) (by decide)
def K.f93sig : Sig := ⟨⟨[.own 0, .hole (.int .i64), .hole (.int .i64), .fnc 54 0], [.arr 52 (.arr 2 (.int .i64))]⟩, ⟨[], [.arr 52 (.arr 2 (.int .i64))]⟩⟩
noncomputable def K.f93Γ : List Con := [K.f107con, K.f54con]
def K.f93ann : Ann :=
  (.seq .leaf (.seq .leaf (.seq .leaf (.seq (.seq .leaf (.block (.loop ⟨.normal, [(11, .hole (.int .i64))], [.arr 52 (.arr 2 (.int .i64))]⟩ [⟨(.exit 0), [], [.arr 52 (.arr 2 (.int .i64))]⟩] (.seq (.seq .leaf (.cond .leaf .leaf)) (.seq (.block .leaf) .leaf))))) (.seq .leaf (.block (.loop ⟨.normal, [(12, .hole (.int .i64))], [.arr 52 (.arr 2 (.int .i64))]⟩ [⟨(.exit 2), [], [.arr 52 (.arr 2 (.int .i64))]⟩] (.seq (.seq .leaf (.cond .leaf .leaf)) (.seq (.block (.seq (.eff 1 [] [0, 0, 0, 0, 0, 24, 0, 0, 0, 384, 960, 1984, 0, 0, 12288, 28672, 65475, 131011, 262143, 524287]) .leaf)) .leaf)))))))))
/- slices.heapSortCmpFunc[[2]int] -/
noncomputable def K.f93F : Int × Int × List (List Int) → Option (List (List Int)) :=
  fun (x : Int × Int × List (List Int)) =>
  Option.bind
    (Go.Sx.iter
      (fun (s1 : Int × List (List Int)) =>
        if Decidable.decide (s1.fst ≥ (0 : Int)) = Bool.true then
          Option.bind (Go.Sx.K.f107F (s1.1, Go.IntKind.wrap Go.IntKind.i64 (x.snd.fst - x.fst), x.1, s1.2)) fun (v2 : List (List Int)) =>
            Option.some (Sum.inl (Go.IntKind.wrap Go.IntKind.i64 (s1.fst - (1 : Int)), v2))
        else Option.some (Sum.inr s1.2))
      (Go.IntKind.wrap Go.IntKind.i64 (Int.tdiv (Go.IntKind.wrap Go.IntKind.i64 (Go.IntKind.wrap Go.IntKind.i64 (x.snd.fst - x.fst) - (1 : Int))) (2 : Int)), x.snd.2))
    fun (v1 : List (List Int)) =>
    Option.bind
      (Go.Sx.iter
        (fun (s2 : Int × List (List Int)) =>
          if Decidable.decide (s2.fst ≥ (0 : Int)) = Bool.true then
            if (0 : Int) ≤ Go.IntKind.wrap Go.IntKind.i64 (x.fst + s2.fst) ∧ Go.IntKind.wrap Go.IntKind.i64 (x.fst + s2.fst) < (↑(List.length s2.snd) : Int) then
              if (0 : Int) ≤ x.fst ∧ x.fst < (↑(List.length s2.snd) : Int) then
                if (0 : Int) ≤ x.fst ∧ x.fst < (↑(List.length s2.snd) : Int) then
                  if
                      (0 : Int) ≤ Go.IntKind.wrap Go.IntKind.i64 (x.fst + s2.fst) ∧
                        Go.IntKind.wrap Go.IntKind.i64 (x.fst + s2.fst) <
                          (↑(List.length (List.set s2.2 (Int.toNat x.fst) (List.getD s2.2 (Int.toNat (Go.IntKind.wrap Go.IntKind.i64 (x.fst + s2.fst))) (List.replicate (2 : Nat) (0 : Int))))) :
                            Int) then
                    Option.bind
                      (Go.Sx.K.f107F
                        ((0 : Int), s2.1, x.1,
                          List.set (List.set s2.2 (Int.toNat x.fst) (List.getD s2.2 (Int.toNat (Go.IntKind.wrap Go.IntKind.i64 (x.fst + s2.fst))) (List.replicate (2 : Nat) (0 : Int))))
                            (Int.toNat (Go.IntKind.wrap Go.IntKind.i64 (x.fst + s2.fst))) (List.getD s2.2 (Int.toNat x.fst) (List.replicate (2 : Nat) (0 : Int)))))
                      fun (v3 : List (List Int)) => Option.some (Sum.inl (Go.IntKind.wrap Go.IntKind.i64 (s2.fst - (1 : Int)), v3))
                  else Option.none
                else Option.none
              else Option.none
            else Option.none
          else Option.some (Sum.inr s2.2))
        (Go.IntKind.wrap Go.IntKind.i64 (Go.IntKind.wrap Go.IntKind.i64 (x.snd.fst - x.fst) - (1 : Int)), v1))
      fun (v2 : List (List Int)) => Option.some v2
theorem K.f93eq : ∀ x, runFn K.C K.f93Γ K.f93sig K.f93ann Go.Proofs.Try.f93 x = K.f93F x := by
  intro x
  kernel_rfl
noncomputable def K.f93con : Con := ⟨93, K.f93sig, K.f93F⟩
theorem K.f93ok : Con.Ok Go.Proofs.Try.prog K.C K.f93con :=
  runFn_ok (Γ := K.f93Γ) (an := K.f93ann) ⟨K.Cok, (List.forall_mem_cons.2 ⟨K.f107ok, (List.forall_mem_cons.2 ⟨K.f54ok, (fun _ h => nomatch h)⟩)⟩), K.mixed⟩ Go.Proofs.Try.func93 rfl rfl (fun x y h => (K.f93eq x).trans h) (by decide)
def K.f102sig : Sig := ⟨⟨[.hole (.int .i64)], []⟩, ⟨[.hole (.int .u64)], []⟩⟩
noncomputable def K.f102Γ : List Con := [K.f73con]
def K.f102ann : Ann :=
  (.seq .leaf (.seq .leaf .leaf))
/- slices.nextPowerOfTwo -/
noncomputable def K.f102F : Int → Option (Int) :=
  fun (x : Int) =>
  Option.bind (Go.Sx.K.f73F (Go.IntKind.wrap Go.IntKind.u64 x)) fun (v1 : Int) =>
    if v1 < (0 : Int) then Option.none else Option.some (Go.IntKind.wrap Go.IntKind.u64 ((1 : Int) * (2 : Int) ^ Min.min (Int.toNat v1) (Go.IntKind.bits Go.IntKind.u64)))
theorem K.f102eq : ∀ x, runFn K.C K.f102Γ K.f102sig K.f102ann Go.Proofs.Try.f102 x = K.f102F x := by
  intro x
  kernel_rfl
noncomputable def K.f102con : Con := ⟨102, K.f102sig, K.f102F⟩
theorem K.f102ok : Con.Ok Go.Proofs.Try.prog K.C K.f102con :=
  runFn_ok (Γ := K.f102Γ) (an := K.f102ann) ⟨K.Cok, (List.forall_mem_cons.2 ⟨K.f73ok, (fun _ h => nomatch h)⟩), K.mixed⟩ Go.Proofs.Try.func102 rfl rfl (fun x y h => (K.f102eq x).trans h) (by decide)
def K.f103sig : Sig := ⟨⟨[.ptr 0 0], [.cells [.hole (.int .u64)]]⟩, ⟨[.hole (.int .u64)], [.cells [.hole (.int .u64)]]⟩⟩
noncomputable def K.f103Γ : List Con := []
def K.f103ann : Ann :=
  (.seq .leaf (.seq (.tail 9) (.seq (.tail 9) (.seq (.tail 9) (.seq .leaf .leaf)))))
/- (*slices.xorshift).Next -/
noncomputable def K.f103F : Int → Option (Int × Int) :=
  fun (x : Int) =>
  Option.some
    (Go.IntKind.wrap Go.IntKind.u64
        (↑(BitVec.toNat
              (BitVec.ofInt (Go.IntKind.bits Go.IntKind.u64)
                  (Go.IntKind.wrap Go.IntKind.u64
                    (↑(BitVec.toNat
                          (BitVec.ofInt (Go.IntKind.bits Go.IntKind.u64)
                              (Go.IntKind.wrap Go.IntKind.u64
                                (↑(BitVec.toNat
                                      (BitVec.ofInt (Go.IntKind.bits Go.IntKind.u64) x ^^^
                                        BitVec.ofInt (Go.IntKind.bits Go.IntKind.u64)
                                          (Go.IntKind.wrap Go.IntKind.u64 (x * (2 : Int) ^ Min.min (Int.toNat (13 : Int)) (Go.IntKind.bits Go.IntKind.u64))))) :
                                  Int)) ^^^
                            BitVec.ofInt (Go.IntKind.bits Go.IntKind.u64)
                              (Int.fdiv
                                (Go.IntKind.wrap Go.IntKind.u64
                                  (↑(BitVec.toNat
                                        (BitVec.ofInt (Go.IntKind.bits Go.IntKind.u64) x ^^^
                                          BitVec.ofInt (Go.IntKind.bits Go.IntKind.u64)
                                            (Go.IntKind.wrap Go.IntKind.u64 (x * (2 : Int) ^ Min.min (Int.toNat (13 : Int)) (Go.IntKind.bits Go.IntKind.u64))))) :
                                    Int))
                                ((2 : Int) ^ Min.min (Int.toNat (7 : Int)) (Go.IntKind.bits Go.IntKind.u64))))) :
                      Int)) ^^^
                BitVec.ofInt (Go.IntKind.bits Go.IntKind.u64)
                  (Go.IntKind.wrap Go.IntKind.u64
                    (Go.IntKind.wrap Go.IntKind.u64
                        (↑(BitVec.toNat
                              (BitVec.ofInt (Go.IntKind.bits Go.IntKind.u64)
                                  (Go.IntKind.wrap Go.IntKind.u64
                                    (↑(BitVec.toNat
                                          (BitVec.ofInt (Go.IntKind.bits Go.IntKind.u64) x ^^^
                                            BitVec.ofInt (Go.IntKind.bits Go.IntKind.u64)
                                              (Go.IntKind.wrap Go.IntKind.u64 (x * (2 : Int) ^ Min.min (Int.toNat (13 : Int)) (Go.IntKind.bits Go.IntKind.u64))))) :
                                      Int)) ^^^
                                BitVec.ofInt (Go.IntKind.bits Go.IntKind.u64)
                                  (Int.fdiv
                                    (Go.IntKind.wrap Go.IntKind.u64
                                      (↑(BitVec.toNat
                                            (BitVec.ofInt (Go.IntKind.bits Go.IntKind.u64) x ^^^
                                              BitVec.ofInt (Go.IntKind.bits Go.IntKind.u64)
                                                (Go.IntKind.wrap Go.IntKind.u64 (x * (2 : Int) ^ Min.min (Int.toNat (13 : Int)) (Go.IntKind.bits Go.IntKind.u64))))) :
                                        Int))
                                    ((2 : Int) ^ Min.min (Int.toNat (7 : Int)) (Go.IntKind.bits Go.IntKind.u64))))) :
                          Int) *
                      (2 : Int) ^ Min.min (Int.toNat (17 : Int)) (Go.IntKind.bits Go.IntKind.u64))))) :
          Int),
      Go.IntKind.wrap Go.IntKind.u64
        (↑(BitVec.toNat
              (BitVec.ofInt (Go.IntKind.bits Go.IntKind.u64)
                  (Go.IntKind.wrap Go.IntKind.u64
                    (↑(BitVec.toNat
                          (BitVec.ofInt (Go.IntKind.bits Go.IntKind.u64)
                              (Go.IntKind.wrap Go.IntKind.u64
                                (↑(BitVec.toNat
                                      (BitVec.ofInt (Go.IntKind.bits Go.IntKind.u64) x ^^^
                                        BitVec.ofInt (Go.IntKind.bits Go.IntKind.u64)
                                          (Go.IntKind.wrap Go.IntKind.u64 (x * (2 : Int) ^ Min.min (Int.toNat (13 : Int)) (Go.IntKind.bits Go.IntKind.u64))))) :
                                  Int)) ^^^
                            BitVec.ofInt (Go.IntKind.bits Go.IntKind.u64)
                              (Int.fdiv
                                (Go.IntKind.wrap Go.IntKind.u64
                                  (↑(BitVec.toNat
                                        (BitVec.ofInt (Go.IntKind.bits Go.IntKind.u64) x ^^^
                                          BitVec.ofInt (Go.IntKind.bits Go.IntKind.u64)
                                            (Go.IntKind.wrap Go.IntKind.u64 (x * (2 : Int) ^ Min.min (Int.toNat (13 : Int)) (Go.IntKind.bits Go.IntKind.u64))))) :
                                    Int))
                                ((2 : Int) ^ Min.min (Int.toNat (7 : Int)) (Go.IntKind.bits Go.IntKind.u64))))) :
                      Int)) ^^^
                BitVec.ofInt (Go.IntKind.bits Go.IntKind.u64)
                  (Go.IntKind.wrap Go.IntKind.u64
                    (Go.IntKind.wrap Go.IntKind.u64
                        (↑(BitVec.toNat
                              (BitVec.ofInt (Go.IntKind.bits Go.IntKind.u64)
                                  (Go.IntKind.wrap Go.IntKind.u64
                                    (↑(BitVec.toNat
                                          (BitVec.ofInt (Go.IntKind.bits Go.IntKind.u64) x ^^^
                                            BitVec.ofInt (Go.IntKind.bits Go.IntKind.u64)
                                              (Go.IntKind.wrap Go.IntKind.u64 (x * (2 : Int) ^ Min.min (Int.toNat (13 : Int)) (Go.IntKind.bits Go.IntKind.u64))))) :
                                      Int)) ^^^
                                BitVec.ofInt (Go.IntKind.bits Go.IntKind.u64)
                                  (Int.fdiv
                                    (Go.IntKind.wrap Go.IntKind.u64
                                      (↑(BitVec.toNat
                                            (BitVec.ofInt (Go.IntKind.bits Go.IntKind.u64) x ^^^
                                              BitVec.ofInt (Go.IntKind.bits Go.IntKind.u64)
                                                (Go.IntKind.wrap Go.IntKind.u64 (x * (2 : Int) ^ Min.min (Int.toNat (13 : Int)) (Go.IntKind.bits Go.IntKind.u64))))) :
                                        Int))
                                    ((2 : Int) ^ Min.min (Int.toNat (7 : Int)) (Go.IntKind.bits Go.IntKind.u64))))) :
                          Int) *
                      (2 : Int) ^ Min.min (Int.toNat (17 : Int)) (Go.IntKind.bits Go.IntKind.u64))))) :
          Int))
theorem K.f103eq : ∀ x, runFn K.C K.f103Γ K.f103sig K.f103ann Go.Proofs.Try.f103 x = K.f103F x := by
  intro x
  kernel_rfl
noncomputable def K.f103con : Con := ⟨103, K.f103sig, K.f103F⟩
theorem K.f103ok : Con.Ok Go.Proofs.Try.prog K.C K.f103con :=
  runFn_ok (Γ := K.f103Γ) (an := K.f103ann) ⟨K.Cok, (fun _ h => nomatch h), K.mixed⟩ Go.Proofs.Try.func103 rfl rfl (fun x y h => (K.f103eq x).trans h) (by decide)
def K.f94sig : Sig := ⟨⟨[.own 0, .hole (.int .i64), .hole (.int .i64), .fnc 54 0], [.arr 52 (.arr 2 (.int .i64))]⟩, ⟨[], [.arr 52 (.arr 2 (.int .i64))]⟩⟩
noncomputable def K.f94Γ : List Con := [K.f102con, K.f103con, K.f54con]
def K.f94ann : Ann :=
  (.seq .leaf (.seq .leaf (.cond (.seq .leaf (.seq .leaf (.seq .leaf (.block (.loop ⟨.normal, [(11, .hole (.int .i64))], [.arr 52 (.arr 2 (.int .i64)), .cells [.hole (.int .u64)]]⟩ [⟨(.exit 0), [], [.arr 52 (.arr 2 (.int .i64)), .gone]⟩] (.seq (.seq .leaf (.cond .leaf .leaf)) (.seq (.block (.seq .leaf (.seq (.join [⟨.normal, [(12, .hole (.int .i64))], [.arr 52 (.arr 2 (.int .i64)), .cells [.hole (.int .u64)]]⟩] (.seq .leaf (.cond .leaf .leaf))) (.eff 2 [] [0, 0, 0, 0, 0, 24, 0, 0, 0, 384, 960, 1984, 0, 0, 12288, 28672, 65475, 131011, 262143, 524287])))) .leaf))))))) .leaf)))
/- slices.breakPatternsCmpFunc[[2]int] -/
noncomputable def K.f94F : Int × Int × List (List Int) → Option (List (List Int)) :=
  fun (x : Int × Int × List (List Int)) =>
  if Decidable.decide (Go.IntKind.wrap Go.IntKind.i64 (x.snd.fst - x.fst) ≥ (8 : Int)) = Bool.true then
    Option.bind (Go.Sx.K.f102F (Go.IntKind.wrap Go.IntKind.i64 (x.snd.fst - x.fst))) fun (v1 : Int) =>
      Option.bind
        (Go.Sx.iter
          (fun (s2 : Int × List (List Int) × Int) =>
            if
                Decidable.decide
                    (s2.fst ≤
                      Go.IntKind.wrap Go.IntKind.i64
                        (Go.IntKind.wrap Go.IntKind.i64
                            (x.fst + Go.IntKind.wrap Go.IntKind.i64 (Go.IntKind.wrap Go.IntKind.i64 (Int.tdiv (Go.IntKind.wrap Go.IntKind.i64 (x.snd.fst - x.fst)) (4 : Int)) * (2 : Int))) +
                          (1 : Int))) =
                  Bool.true then
              Option.bind (Go.Sx.K.f103F s2.snd.2) fun (v3 : Int × Int) =>
                Option.bind
                  (if
                      Decidable.decide
                          (Go.IntKind.wrap Go.IntKind.i64
                              (Go.IntKind.wrap Go.IntKind.u64
                                (↑(BitVec.toNat
                                      (BitVec.ofInt (Go.IntKind.bits Go.IntKind.u64) v3.fst &&& BitVec.ofInt (Go.IntKind.bits Go.IntKind.u64) (Go.IntKind.wrap Go.IntKind.u64 (v1 - (1 : Int))))) :
                                  Int)) ≥
                            Go.IntKind.wrap Go.IntKind.i64 (x.snd.fst - x.fst)) =
                        Bool.true then
                    Option.some
                      (Go.IntKind.wrap Go.IntKind.i64
                          (Go.IntKind.wrap Go.IntKind.i64
                              (Go.IntKind.wrap Go.IntKind.u64
                                (↑(BitVec.toNat
                                      (BitVec.ofInt (Go.IntKind.bits Go.IntKind.u64) v3.fst &&& BitVec.ofInt (Go.IntKind.bits Go.IntKind.u64) (Go.IntKind.wrap Go.IntKind.u64 (v1 - (1 : Int))))) :
                                  Int)) -
                            Go.IntKind.wrap Go.IntKind.i64 (x.snd.fst - x.fst)),
                        s2.snd.1, v3.2)
                  else
                    Option.some
                      (Go.IntKind.wrap Go.IntKind.i64
                          (Go.IntKind.wrap Go.IntKind.u64
                            (↑(BitVec.toNat
                                  (BitVec.ofInt (Go.IntKind.bits Go.IntKind.u64) v3.fst &&& BitVec.ofInt (Go.IntKind.bits Go.IntKind.u64) (Go.IntKind.wrap Go.IntKind.u64 (v1 - (1 : Int))))) :
                              Int)),
                        s2.snd.1, v3.2))
                  fun (v4 : Int × List (List Int) × Int) =>
                  if (0 : Int) ≤ Go.IntKind.wrap Go.IntKind.i64 (x.fst + v4.fst) ∧ Go.IntKind.wrap Go.IntKind.i64 (x.fst + v4.fst) < (↑(List.length v4.snd.fst) : Int) then
                    if (0 : Int) ≤ s2.fst ∧ s2.fst < (↑(List.length v4.snd.fst) : Int) then
                      if (0 : Int) ≤ s2.fst ∧ s2.fst < (↑(List.length v4.snd.fst) : Int) then
                        if
                            (0 : Int) ≤ Go.IntKind.wrap Go.IntKind.i64 (x.fst + v4.fst) ∧
                              Go.IntKind.wrap Go.IntKind.i64 (x.fst + v4.fst) <
                                (↑(List.length
                                      (List.set v4.snd.1 (Int.toNat s2.fst) (List.getD v4.snd.1 (Int.toNat (Go.IntKind.wrap Go.IntKind.i64 (x.fst + v4.fst))) (List.replicate (2 : Nat) (0 : Int))))) :
                                  Int) then
                          Option.some
                            (Sum.inl
                              (Go.IntKind.wrap Go.IntKind.i64 (s2.fst + (1 : Int)),
                                List.set (List.set v4.snd.1 (Int.toNat s2.fst) (List.getD v4.snd.1 (Int.toNat (Go.IntKind.wrap Go.IntKind.i64 (x.fst + v4.fst))) (List.replicate (2 : Nat) (0 : Int))))
                                  (Int.toNat (Go.IntKind.wrap Go.IntKind.i64 (x.fst + v4.fst))) (List.getD v4.snd.1 (Int.toNat s2.fst) (List.replicate (2 : Nat) (0 : Int))),
                                v4.snd.2))
                        else Option.none
                      else Option.none
                    else Option.none
                  else Option.none
            else Option.some (Sum.inr s2.snd.1))
          (Go.IntKind.wrap Go.IntKind.i64
              (Go.IntKind.wrap Go.IntKind.i64
                  (x.fst + Go.IntKind.wrap Go.IntKind.i64 (Go.IntKind.wrap Go.IntKind.i64 (Int.tdiv (Go.IntKind.wrap Go.IntKind.i64 (x.snd.fst - x.fst)) (4 : Int)) * (2 : Int))) -
                (1 : Int)),
            x.snd.2, Go.IntKind.wrap Go.IntKind.u64 (Go.IntKind.wrap Go.IntKind.i64 (x.snd.fst - x.fst))))
        fun (v2 : List (List Int)) => Option.some v2
  else Option.some x.snd.2
theorem K.f94eq : ∀ x, runFn K.C K.f94Γ K.f94sig K.f94ann Go.Proofs.Try.f94 x = K.f94F x := by
  intro x
  kernel_rfl
noncomputable def K.f94con : Con := ⟨94, K.f94sig, K.f94F⟩
theorem K.f94ok : Con.Ok Go.Proofs.Try.prog K.C K.f94con :=
  runFn_ok (Γ := K.f94Γ) (an := K.f94ann) ⟨K.Cok, (List.forall_mem_cons.2 ⟨K.f102ok, (List.forall_mem_cons.2 ⟨K.f103ok, (List.forall_mem_cons.2 ⟨K.f54ok, (fun _ h => nomatch h)⟩)⟩)⟩), K.mixed⟩ Go.Proofs.Try.func94 rfl rfl (fun x y h => (K.f94eq x).trans h) (by decide)
def K.f111sig : Sig := ⟨⟨[.own 0, .hole (.int .i64), .hole (.int .i64), .ptr 1 0, .fnc 54 0], [.arr 52 (.arr 2 (.int .i64)), .cells [.hole (.int .i64)]]⟩, ⟨[.hole (.int .i64), .hole (.int .i64)], [.arr 52 (.arr 2 (.int .i64)), .cells [.hole (.int .i64)]]⟩⟩
noncomputable def K.f111Γ : List Con := [K.f54con]
def K.f111ann : Ann :=
  (.seq .leaf (.seq (.seq .leaf (.cond (.seq .leaf (.seq .leaf .leaf)) .leaf)) (.seq .leaf .leaf)))
/- slices.order2CmpFunc[[2]int] -/
noncomputable def K.f111F : Int × Int × List (List Int) × Int → Option (Int × Int × List (List Int) × Int) :=
  fun (x : Int × Int × List (List Int) × Int) =>
  if (0 : Int) ≤ x.snd.fst ∧ x.snd.fst < (↑(List.length x.snd.snd.fst) : Int) then
    if (0 : Int) ≤ x.fst ∧ x.fst < (↑(List.length x.snd.snd.fst) : Int) then
      Option.bind (Go.Sx.K.f54F (List.getD x.snd.snd.1 (Int.toNat x.snd.fst) (List.replicate (2 : Nat) (0 : Int)), List.getD x.snd.snd.1 (Int.toNat x.fst) (List.replicate (2 : Nat) (0 : Int))))
        fun (v1 : Int) =>
        if Decidable.decide (v1 < (0 : Int)) = Bool.true then Option.some (x.snd.1, x.1, x.snd.snd.1, Go.IntKind.wrap Go.IntKind.i64 (x.snd.snd.snd + (1 : Int)))
        else Option.some (x.1, x.snd.1, x.snd.snd.1, x.snd.snd.2)
    else Option.none
  else Option.none
theorem K.f111eq : ∀ x, runFn K.C K.f111Γ K.f111sig K.f111ann Go.Proofs.Try.f111 x = K.f111F x := by
  intro x
  kernel_rfl
noncomputable def K.f111con : Con := ⟨111, K.f111sig, K.f111F⟩
theorem K.f111ok : Con.Ok Go.Proofs.Try.prog K.C K.f111con :=
  runFn_ok (Γ := K.f111Γ) (an := K.f111ann) ⟨K.Cok, (List.forall_mem_cons.2 ⟨K.f54ok, (fun _ h => nomatch h)⟩), K.mixed⟩ Go.Proofs.Try.func111 rfl rfl (fun x y h => (K.f111eq x).trans h) (by decide)
def K.f109sig : Sig := ⟨⟨[.own 0, .hole (.int .i64), .hole (.int .i64), .hole (.int .i64), .ptr 1 0, .fnc 54 0], [.arr 52 (.arr 2 (.int .i64)), .cells [.hole (.int .i64)]]⟩, ⟨[.hole (.int .i64)], [.arr 52 (.arr 2 (.int .i64)), .cells [.hole (.int .i64)]]⟩⟩
noncomputable def K.f109Γ : List Con := [K.f111con, K.f54con]
def K.f109ann : Ann :=
  (.seq .leaf (.seq .leaf (.seq .leaf (.seq .leaf (.seq .leaf .leaf)))))
/- slices.medianCmpFunc[[2]int] -/
noncomputable def K.f109F : Int × Int × Int × List (List Int) × Int → Option (Int × List (List Int) × Int) :=
  fun (x : Int × Int × Int × List (List Int) × Int) =>
  Option.bind (Go.Sx.K.f111F (x.1, x.snd.1, x.snd.snd.snd.1, x.snd.snd.snd.2)) fun (v1 : Int × Int × List (List Int) × Int) =>
    Option.bind (Go.Sx.K.f111F (v1.snd.1, x.snd.snd.1, v1.snd.snd.1, v1.snd.snd.2)) fun (v2 : Int × Int × List (List Int) × Int) =>
      Option.bind (Go.Sx.K.f111F (v1.1, v2.1, v2.snd.snd.1, v2.snd.snd.2)) fun (v3 : Int × Int × List (List Int) × Int) => Option.some (v3.snd.1, v3.snd.snd.1, v3.snd.snd.2)
theorem K.f109eq : ∀ x, runFn K.C K.f109Γ K.f109sig K.f109ann Go.Proofs.Try.f109 x = K.f109F x := by
  intro x
  kernel_rfl
noncomputable def K.f109con : Con := ⟨109, K.f109sig, K.f109F⟩
theorem K.f109ok : Con.Ok Go.Proofs.Try.prog K.C K.f109con :=
  runFn_ok (Γ := K.f109Γ) (an := K.f109ann) ⟨K.Cok, (List.forall_mem_cons.2 ⟨K.f111ok, (List.forall_mem_cons.2 ⟨K.f54ok, (fun _ h => nomatch h)⟩)⟩), K.mixed⟩ Go.Proofs.Try.func109 rfl rfl (fun x y h => (K.f109eq x).trans h) (by decide)
def K.f108sig : Sig := ⟨⟨[.own 0, .hole (.int .i64), .ptr 1 0, .fnc 54 0], [.arr 52 (.arr 2 (.int .i64)), .cells [.hole (.int .i64)]]⟩, ⟨[.hole (.int .i64)], [.arr 52 (.arr 2 (.int .i64)), .cells [.hole (.int .i64)]]⟩⟩
noncomputable def K.f108Γ : List Con := [K.f109con, K.f54con]
def K.f108ann : Ann :=
  (.seq .leaf (.seq .leaf .leaf))
/- slices.medianAdjacentCmpFunc[[2]int] -/
noncomputable def K.f108F : Int × List (List Int) × Int → Option (Int × List (List Int) × Int) :=
  fun (x : Int × List (List Int) × Int) =>
  Option.bind (Go.Sx.K.f109F (Go.IntKind.wrap Go.IntKind.i64 (x.fst - (1 : Int)), x.1, Go.IntKind.wrap Go.IntKind.i64 (x.fst + (1 : Int)), x.snd.1, x.snd.2)) fun (v1 : Int × List (List Int) × Int) =>
    Option.some (v1.1, v1.snd.1, v1.snd.2)
theorem K.f108eq : ∀ x, runFn K.C K.f108Γ K.f108sig K.f108ann Go.Proofs.Try.f108 x = K.f108F x := by
  intro x
  kernel_rfl
noncomputable def K.f108con : Con := ⟨108, K.f108sig, K.f108F⟩
theorem K.f108ok : Con.Ok Go.Proofs.Try.prog K.C K.f108con :=
  runFn_ok (Γ := K.f108Γ) (an := K.f108ann) ⟨K.Cok, (List.forall_mem_cons.2 ⟨K.f109ok, (List.forall_mem_cons.2 ⟨K.f54ok, (fun _ h => nomatch h)⟩)⟩), K.mixed⟩ Go.Proofs.Try.func108 rfl rfl (fun x y h => (K.f108eq x).trans h) (by decide)
def K.f95sig : Sig := ⟨⟨[.own 0, .hole (.int .i64), .hole (.int .i64), .fnc 54 0], [.arr 52 (.arr 2 (.int .i64))]⟩, ⟨[.hole (.int .i64), .hole (.int .i64)], [.arr 52 (.arr 2 (.int .i64))]⟩⟩
noncomputable def K.f95Γ : List Con := [K.f108con, K.f109con, K.f54con]
def K.f95ann : Ann :=
  (.seq .leaf (.seq .leaf (.seq .leaf (.seq .leaf (.seq .leaf (.seq .leaf (.seq (.join [⟨.normal, [(13, .hole (.int .i64))], [.arr 52 (.arr 2 (.int .i64)), .cells [.hole (.int .i64)]]⟩] (.seq .leaf (.cond (.seq (.join [⟨.normal, [(12, .hole (.int .i64)), (13, .hole (.int .i64)), (14, .hole (.int .i64))], [.arr 52 (.arr 2 (.int .i64)), .cells [.hole (.int .i64)]]⟩] (.seq .leaf (.cond (.seq .leaf (.seq .leaf .leaf)) .leaf))) .leaf) .leaf))) (.seq .leaf (.block (.seq .leaf (.cond (.seq .leaf .leaf) (.seq .leaf (.cond (.seq .leaf .leaf) (.seq .leaf .leaf))))))))))))))
/- slices.choosePivotCmpFunc[[2]int] -/
noncomputable def K.f95F : Int × Int × List (List Int) → Option (Int × Int × List (List Int)) :=
  fun (x : Int × Int × List (List Int)) =>
  Option.bind
    (if Decidable.decide (Go.IntKind.wrap Go.IntKind.i64 (x.snd.fst - x.fst) ≥ (8 : Int)) = Bool.true then
      Option.bind
        (if Decidable.decide (Go.IntKind.wrap Go.IntKind.i64 (x.snd.fst - x.fst) ≥ (50 : Int)) = Bool.true then
          Option.bind
            (Go.Sx.K.f108F
              (Go.IntKind.wrap Go.IntKind.i64
                  (x.fst + Go.IntKind.wrap Go.IntKind.i64 (Go.IntKind.wrap Go.IntKind.i64 (Int.tdiv (Go.IntKind.wrap Go.IntKind.i64 (x.snd.fst - x.fst)) (4 : Int)) * (1 : Int))),
                x.snd.2, (0 : Int)))
            fun (v1 : Int × List (List Int) × Int) =>
            Option.bind
              (Go.Sx.K.f108F
                (Go.IntKind.wrap Go.IntKind.i64
                    (x.fst + Go.IntKind.wrap Go.IntKind.i64 (Go.IntKind.wrap Go.IntKind.i64 (Int.tdiv (Go.IntKind.wrap Go.IntKind.i64 (x.snd.fst - x.fst)) (4 : Int)) * (2 : Int))),
                  v1.snd.1, v1.snd.2))
              fun (v2 : Int × List (List Int) × Int) =>
              Option.bind
                (Go.Sx.K.f108F
                  (Go.IntKind.wrap Go.IntKind.i64
                      (x.fst + Go.IntKind.wrap Go.IntKind.i64 (Go.IntKind.wrap Go.IntKind.i64 (Int.tdiv (Go.IntKind.wrap Go.IntKind.i64 (x.snd.fst - x.fst)) (4 : Int)) * (3 : Int))),
                    v2.snd.1, v2.snd.2))
                fun (v3 : Int × List (List Int) × Int) => Option.some (v1.1, v2.1, v3.1, v3.snd.1, v3.snd.2)
        else
          Option.some
            (Go.IntKind.wrap Go.IntKind.i64
                (x.fst + Go.IntKind.wrap Go.IntKind.i64 (Go.IntKind.wrap Go.IntKind.i64 (Int.tdiv (Go.IntKind.wrap Go.IntKind.i64 (x.snd.fst - x.fst)) (4 : Int)) * (1 : Int))),
              Go.IntKind.wrap Go.IntKind.i64
                (x.fst + Go.IntKind.wrap Go.IntKind.i64 (Go.IntKind.wrap Go.IntKind.i64 (Int.tdiv (Go.IntKind.wrap Go.IntKind.i64 (x.snd.fst - x.fst)) (4 : Int)) * (2 : Int))),
              Go.IntKind.wrap Go.IntKind.i64
                (x.fst + Go.IntKind.wrap Go.IntKind.i64 (Go.IntKind.wrap Go.IntKind.i64 (Int.tdiv (Go.IntKind.wrap Go.IntKind.i64 (x.snd.fst - x.fst)) (4 : Int)) * (3 : Int))),
              x.snd.2, (0 : Int)))
        fun (v1 : Int × Int × Int × List (List Int) × Int) =>
        Option.bind (Go.Sx.K.f109F (v1.1, v1.snd.1, v1.snd.snd.1, v1.snd.snd.snd.1, v1.snd.snd.snd.2)) fun (v2 : Int × List (List Int) × Int) => Option.some (v2.1, v2.snd.1, v2.snd.2)
    else
      Option.some
        (Go.IntKind.wrap Go.IntKind.i64 (x.fst + Go.IntKind.wrap Go.IntKind.i64 (Go.IntKind.wrap Go.IntKind.i64 (Int.tdiv (Go.IntKind.wrap Go.IntKind.i64 (x.snd.fst - x.fst)) (4 : Int)) * (2 : Int))),
          x.snd.2, (0 : Int)))
    fun (v1 : Int × List (List Int) × Int) =>
    if (v1.snd.snd == (0 : Int)) = Bool.true then Option.some (v1.1, (1 : Int), v1.snd.1)
    else if (v1.snd.snd == (12 : Int)) = Bool.true then Option.some (v1.1, (2 : Int), v1.snd.1) else Option.some (v1.1, (0 : Int), v1.snd.1)
theorem K.f95eq : ∀ x, runFn K.C K.f95Γ K.f95sig K.f95ann Go.Proofs.Try.f95 x = K.f95F x := by
  intro x
  kernel_rfl
noncomputable def K.f95con : Con := ⟨95, K.f95sig, K.f95F⟩
theorem K.f95ok : Con.Ok Go.Proofs.Try.prog K.C K.f95con :=
  runFn_ok (Γ := K.f95Γ) (an := K.f95ann) ⟨K.Cok, (List.forall_mem_cons.2 ⟨K.f108ok, (List.forall_mem_cons.2 ⟨K.f109ok, (List.forall_mem_cons.2 ⟨K.f54ok, (fun _ h => nomatch h)⟩)⟩)⟩), K.mixed⟩ Go.Proofs.Try.func95 rfl rfl (fun x y h => (K.f95eq x).trans h) (by decide)
def K.f96sig : Sig := ⟨⟨[.own 0, .hole (.int .i64), .hole (.int .i64), .fnc 54 0], [.arr 52 (.arr 2 (.int .i64))]⟩, ⟨[], [.arr 52 (.arr 2 (.int .i64))]⟩⟩
noncomputable def K.f96Γ : List Con := [K.f54con]
def K.f96ann : Ann :=
  (.seq .leaf (.seq .leaf (.block (.loop ⟨.normal, [(8, .hole (.int .i64)), (9, .hole (.int .i64))], [.arr 52 (.arr 2 (.int .i64))]⟩ [⟨(.exit 0), [], [.arr 52 (.arr 2 (.int .i64))]⟩] (.seq (.seq .leaf (.cond .leaf .leaf)) (.block (.seq (.eff 1 [] [0, 0, 0, 0, 0, 0, 48, 112, 0, 0, 768, 1792, 4083, 8179, 16383, 32767]) (.seq .leaf .leaf))))))))
/- slices.reverseRangeCmpFunc[[2]int] -/
noncomputable def K.f96F : Int × Int × List (List Int) → Option (List (List Int)) :=
  fun (x : Int × Int × List (List Int)) =>
  Option.bind
    (Go.Sx.iter
      (fun (s1 : Int × Int × List (List Int)) =>
        if Decidable.decide (s1.fst < s1.snd.fst) = Bool.true then
          if (0 : Int) ≤ s1.snd.fst ∧ s1.snd.fst < (↑(List.length s1.snd.snd) : Int) then
            if (0 : Int) ≤ s1.fst ∧ s1.fst < (↑(List.length s1.snd.snd) : Int) then
              if (0 : Int) ≤ s1.fst ∧ s1.fst < (↑(List.length s1.snd.snd) : Int) then
                if
                    (0 : Int) ≤ s1.snd.fst ∧
                      s1.snd.fst < (↑(List.length (List.set s1.snd.2 (Int.toNat s1.fst) (List.getD s1.snd.2 (Int.toNat s1.snd.fst) (List.replicate (2 : Nat) (0 : Int))))) : Int) then
                  Option.some
                    (Sum.inl
                      (Go.IntKind.wrap Go.IntKind.i64 (s1.fst + (1 : Int)), Go.IntKind.wrap Go.IntKind.i64 (s1.snd.fst - (1 : Int)),
                        List.set (List.set s1.snd.2 (Int.toNat s1.fst) (List.getD s1.snd.2 (Int.toNat s1.snd.fst) (List.replicate (2 : Nat) (0 : Int)))) (Int.toNat s1.snd.fst)
                          (List.getD s1.snd.2 (Int.toNat s1.fst) (List.replicate (2 : Nat) (0 : Int)))))
                else Option.none
              else Option.none
            else Option.none
          else Option.none
        else Option.some (Sum.inr s1.snd.2))
      (x.1, Go.IntKind.wrap Go.IntKind.i64 (x.snd.fst - (1 : Int)), x.snd.2))
    fun (v1 : List (List Int)) => Option.some v1
theorem K.f96eq : ∀ x, runFn K.C K.f96Γ K.f96sig K.f96ann Go.Proofs.Try.f96 x = K.f96F x := by
  intro x
  kernel_rfl
noncomputable def K.f96con : Con := ⟨96, K.f96sig, K.f96F⟩
theorem K.f96ok : Con.Ok Go.Proofs.Try.prog K.C K.f96con :=
  runFn_ok (Γ := K.f96Γ) (an := K.f96ann) ⟨K.Cok, (List.forall_mem_cons.2 ⟨K.f54ok, (fun _ h => nomatch h)⟩), K.mixed⟩ Go.Proofs.Try.func96 rfl rfl (fun x y h => (K.f96eq x).trans h) (by decide)
def K.f97sig : Sig := ⟨⟨[.own 0, .hole (.int .i64), .hole (.int .i64), .fnc 54 0], [.arr 52 (.arr 2 (.int .i64))]⟩, ⟨[.hole .bool], [.arr 52 (.arr 2 (.int .i64))]⟩⟩
noncomputable def K.f97Γ : List Con := [K.f54con]
def K.f97ann : Ann :=
  (.seq .leaf (.seq .leaf (.seq (.seq .leaf (.block (.loop ⟨.normal, [(9, .hole (.int .i64)), (10, .hole (.int .i64))], [.arr 52 (.arr 2 (.int .i64))]⟩ [⟨(.exit 0), [], [.arr 52 (.arr 2 (.int .i64))]⟩, ⟨.ret, [(8, .hole .bool)], [.arr 52 (.arr 2 (.int .i64))]⟩] (.seq (.seq .leaf (.cond .leaf .leaf)) (.seq (.block (.seq (.block (.loop ⟨.normal, [(9, .hole (.int .i64))], [.arr 52 (.arr 2 (.int .i64))]⟩ [⟨(.exit 2), [(9, .hole (.int .i64))], [.arr 52 (.arr 2 (.int .i64))]⟩] (.seq (.seq (.join [⟨.normal, [(36, .hole .bool)], [.arr 52 (.arr 2 (.int .i64))]⟩] .leaf) (.cond .leaf .leaf)) (.block .leaf)))) (.seq (.seq .leaf (.cond (.seq .leaf .leaf) .leaf)) (.seq (.seq .leaf (.cond (.seq .leaf .leaf) .leaf)) (.seq (.eff 1 [] [0, 0, 0, 0, 8, 0, 0, 64, 224, 480, 0, 0, 3072, 7168, 16355, 32739, 65535, 131071]) (.seq (.join [⟨.normal, [], [.arr 52 (.arr 2 (.int .i64))]⟩] (.seq .leaf (.cond (.seq .leaf (.block (.loop ⟨.normal, [(11, .hole (.int .i64))], [.arr 52 (.arr 2 (.int .i64))]⟩ [⟨(.exit 4), [], [.arr 52 (.arr 2 (.int .i64))]⟩] (.seq (.seq .leaf (.cond .leaf .leaf)) (.seq (.block (.seq (.seq .leaf (.cond .leaf .leaf)) (.eff 1 [] [0, 0, 0, 0, 8, 0, 0, 64, 224, 480, 0, 0, 3072, 7168, 16355, 32739, 65535, 131071]))) .leaf))))) .leaf))) (.seq .leaf (.cond (.seq .leaf (.block (.loop ⟨.normal, [(12, .hole (.int .i64))], [.arr 52 (.arr 2 (.int .i64))]⟩ [⟨(.exit 6), [], [.arr 52 (.arr 2 (.int .i64))]⟩] (.seq (.seq .leaf (.cond .leaf .leaf)) (.seq (.block (.seq (.seq .leaf (.cond .leaf .leaf)) (.eff 1 [] [0, 0, 0, 0, 8, 0, 0, 64, 224, 480, 0, 0, 3072, 7168, 16355, 32739, 65535, 131071]))) .leaf))))) .leaf)))))))) .leaf))))) (.seq .leaf .leaf))))
/- slices.partialInsertionSortCmpFunc[[2]int] -/
noncomputable def K.f97F : Int × Int × List (List Int) → Option (Bool × List (List Int)) :=
  fun (x : Int × Int × List (List Int)) =>
  Option.bind
    (Go.Sx.iter
      (fun (s1 : Int × Int × List (List Int)) =>
        if Decidable.decide (s1.snd.fst < (5 : Int)) = Bool.true then
          Option.bind
            (Go.Sx.iter
              (fun (s2 : Int × List (List Int)) =>
                Option.bind
                  (if Decidable.decide (s2.fst < x.snd.fst) = Bool.true then
                    if (0 : Int) ≤ s2.fst ∧ s2.fst < (↑(List.length s2.snd) : Int) then
                      if (0 : Int) ≤ Go.IntKind.wrap Go.IntKind.i64 (s2.fst - (1 : Int)) ∧ Go.IntKind.wrap Go.IntKind.i64 (s2.fst - (1 : Int)) < (↑(List.length s2.snd) : Int) then
                        Option.bind
                          (Go.Sx.K.f54F
                            (List.getD s2.2 (Int.toNat s2.fst) (List.replicate (2 : Nat) (0 : Int)),
                              List.getD s2.2 (Int.toNat (Go.IntKind.wrap Go.IntKind.i64 (s2.fst - (1 : Int)))) (List.replicate (2 : Nat) (0 : Int))))
                          fun (v3 : Int) => Option.some (!Decidable.decide (v3 < (0 : Int)), s2.2)
                      else Option.none
                    else Option.none
                  else Option.some (Bool.false, s2.2))
                  fun (v3 : Bool × List (List Int)) =>
                  if v3.fst = Bool.true then Option.some (Sum.inl (Go.IntKind.wrap Go.IntKind.i64 (s2.fst + (1 : Int)), v3.2)) else Option.some (Sum.inr (s2.1, v3.2)))
              (s1.1, s1.snd.2))
            fun (v2 : Int × List (List Int)) =>
            if (v2.fst == x.snd.fst) = Bool.true then Option.some (Sum.inr (Sum.inr (Bool.true, v2.2)))
            else
              if Decidable.decide (Go.IntKind.wrap Go.IntKind.i64 (x.snd.fst - x.fst) < (50 : Int)) = Bool.true then Option.some (Sum.inr (Sum.inr (Bool.false, v2.2)))
              else
                if (0 : Int) ≤ Go.IntKind.wrap Go.IntKind.i64 (v2.fst - (1 : Int)) ∧ Go.IntKind.wrap Go.IntKind.i64 (v2.fst - (1 : Int)) < (↑(List.length v2.snd) : Int) then
                  if (0 : Int) ≤ v2.fst ∧ v2.fst < (↑(List.length v2.snd) : Int) then
                    if (0 : Int) ≤ v2.fst ∧ v2.fst < (↑(List.length v2.snd) : Int) then
                      if
                          (0 : Int) ≤ Go.IntKind.wrap Go.IntKind.i64 (v2.fst - (1 : Int)) ∧
                            Go.IntKind.wrap Go.IntKind.i64 (v2.fst - (1 : Int)) <
                              (↑(List.length
                                    (List.set v2.2 (Int.toNat v2.fst) (List.getD v2.2 (Int.toNat (Go.IntKind.wrap Go.IntKind.i64 (v2.fst - (1 : Int)))) (List.replicate (2 : Nat) (0 : Int))))) :
                                Int) then
                        Option.bind
                          (if Decidable.decide (Go.IntKind.wrap Go.IntKind.i64 (v2.fst - x.fst) ≥ (2 : Int)) = Bool.true then
                            Option.bind
                              (Go.Sx.iter
                                (fun (s3 : Int × List (List Int)) =>
                                  if Decidable.decide (s3.fst ≥ (1 : Int)) = Bool.true then
                                    if (0 : Int) ≤ s3.fst ∧ s3.fst < (↑(List.length s3.snd) : Int) then
                                      if (0 : Int) ≤ Go.IntKind.wrap Go.IntKind.i64 (s3.fst - (1 : Int)) ∧ Go.IntKind.wrap Go.IntKind.i64 (s3.fst - (1 : Int)) < (↑(List.length s3.snd) : Int) then
                                        Option.bind
                                          (Go.Sx.K.f54F
                                            (List.getD s3.2 (Int.toNat s3.fst) (List.replicate (2 : Nat) (0 : Int)),
                                              List.getD s3.2 (Int.toNat (Go.IntKind.wrap Go.IntKind.i64 (s3.fst - (1 : Int)))) (List.replicate (2 : Nat) (0 : Int))))
                                          fun (v4 : Int) =>
                                          if (!Decidable.decide (v4 < (0 : Int))) = Bool.true then Option.some (Sum.inr s3.2)
                                          else
                                            if
                                                (0 : Int) ≤ Go.IntKind.wrap Go.IntKind.i64 (s3.fst - (1 : Int)) ∧
                                                  Go.IntKind.wrap Go.IntKind.i64 (s3.fst - (1 : Int)) < (↑(List.length s3.snd) : Int) then
                                              if (0 : Int) ≤ s3.fst ∧ s3.fst < (↑(List.length s3.snd) : Int) then
                                                if (0 : Int) ≤ s3.fst ∧ s3.fst < (↑(List.length s3.snd) : Int) then
                                                  if
                                                      (0 : Int) ≤ Go.IntKind.wrap Go.IntKind.i64 (s3.fst - (1 : Int)) ∧
                                                        Go.IntKind.wrap Go.IntKind.i64 (s3.fst - (1 : Int)) <
                                                          (↑(List.length
                                                                (List.set s3.2 (Int.toNat s3.fst)
                                                                  (List.getD s3.2 (Int.toNat (Go.IntKind.wrap Go.IntKind.i64 (s3.fst - (1 : Int)))) (List.replicate (2 : Nat) (0 : Int))))) :
                                                            Int) then
                                                    Option.some
                                                      (Sum.inl
                                                        (Go.IntKind.wrap Go.IntKind.i64 (s3.fst - (1 : Int)),
                                                          List.set
                                                            (List.set s3.2 (Int.toNat s3.fst)
                                                              (List.getD s3.2 (Int.toNat (Go.IntKind.wrap Go.IntKind.i64 (s3.fst - (1 : Int)))) (List.replicate (2 : Nat) (0 : Int))))
                                                            (Int.toNat (Go.IntKind.wrap Go.IntKind.i64 (s3.fst - (1 : Int)))) (List.getD s3.2 (Int.toNat s3.fst) (List.replicate (2 : Nat) (0 : Int)))))
                                                  else Option.none
                                                else Option.none
                                              else Option.none
                                            else Option.none
                                      else Option.none
                                    else Option.none
                                  else Option.some (Sum.inr s3.2))
                                (Go.IntKind.wrap Go.IntKind.i64 (v2.fst - (1 : Int)),
                                  List.set (List.set v2.2 (Int.toNat v2.fst) (List.getD v2.2 (Int.toNat (Go.IntKind.wrap Go.IntKind.i64 (v2.fst - (1 : Int)))) (List.replicate (2 : Nat) (0 : Int))))
                                    (Int.toNat (Go.IntKind.wrap Go.IntKind.i64 (v2.fst - (1 : Int)))) (List.getD v2.2 (Int.toNat v2.fst) (List.replicate (2 : Nat) (0 : Int)))))
                              fun (v3 : List (List Int)) => Option.some v3
                          else
                            Option.some
                              (List.set (List.set v2.2 (Int.toNat v2.fst) (List.getD v2.2 (Int.toNat (Go.IntKind.wrap Go.IntKind.i64 (v2.fst - (1 : Int)))) (List.replicate (2 : Nat) (0 : Int))))
                                (Int.toNat (Go.IntKind.wrap Go.IntKind.i64 (v2.fst - (1 : Int)))) (List.getD v2.2 (Int.toNat v2.fst) (List.replicate (2 : Nat) (0 : Int)))))
                          fun (v3 : List (List Int)) =>
                          if Decidable.decide (Go.IntKind.wrap Go.IntKind.i64 (x.snd.fst - v2.fst) ≥ (2 : Int)) = Bool.true then
                            Option.bind
                              (Go.Sx.iter
                                (fun (s4 : Int × List (List Int)) =>
                                  if Decidable.decide (s4.fst < x.snd.fst) = Bool.true then
                                    if (0 : Int) ≤ s4.fst ∧ s4.fst < (↑(List.length s4.snd) : Int) then
                                      if (0 : Int) ≤ Go.IntKind.wrap Go.IntKind.i64 (s4.fst - (1 : Int)) ∧ Go.IntKind.wrap Go.IntKind.i64 (s4.fst - (1 : Int)) < (↑(List.length s4.snd) : Int) then
                                        Option.bind
                                          (Go.Sx.K.f54F
                                            (List.getD s4.2 (Int.toNat s4.fst) (List.replicate (2 : Nat) (0 : Int)),
                                              List.getD s4.2 (Int.toNat (Go.IntKind.wrap Go.IntKind.i64 (s4.fst - (1 : Int)))) (List.replicate (2 : Nat) (0 : Int))))
                                          fun (v5 : Int) =>
                                          if (!Decidable.decide (v5 < (0 : Int))) = Bool.true then Option.some (Sum.inr s4.2)
                                          else
                                            if
                                                (0 : Int) ≤ Go.IntKind.wrap Go.IntKind.i64 (s4.fst - (1 : Int)) ∧
                                                  Go.IntKind.wrap Go.IntKind.i64 (s4.fst - (1 : Int)) < (↑(List.length s4.snd) : Int) then
                                              if (0 : Int) ≤ s4.fst ∧ s4.fst < (↑(List.length s4.snd) : Int) then
                                                if (0 : Int) ≤ s4.fst ∧ s4.fst < (↑(List.length s4.snd) : Int) then
                                                  if
                                                      (0 : Int) ≤ Go.IntKind.wrap Go.IntKind.i64 (s4.fst - (1 : Int)) ∧
                                                        Go.IntKind.wrap Go.IntKind.i64 (s4.fst - (1 : Int)) <
                                                          (↑(List.length
                                                                (List.set s4.2 (Int.toNat s4.fst)
                                                                  (List.getD s4.2 (Int.toNat (Go.IntKind.wrap Go.IntKind.i64 (s4.fst - (1 : Int)))) (List.replicate (2 : Nat) (0 : Int))))) :
                                                            Int) then
                                                    Option.some
                                                      (Sum.inl
                                                        (Go.IntKind.wrap Go.IntKind.i64 (s4.fst + (1 : Int)),
                                                          List.set
                                                            (List.set s4.2 (Int.toNat s4.fst)
                                                              (List.getD s4.2 (Int.toNat (Go.IntKind.wrap Go.IntKind.i64 (s4.fst - (1 : Int)))) (List.replicate (2 : Nat) (0 : Int))))
                                                            (Int.toNat (Go.IntKind.wrap Go.IntKind.i64 (s4.fst - (1 : Int)))) (List.getD s4.2 (Int.toNat s4.fst) (List.replicate (2 : Nat) (0 : Int)))))
                                                  else Option.none
                                                else Option.none
                                              else Option.none
                                            else Option.none
                                      else Option.none
                                    else Option.none
                                  else Option.some (Sum.inr s4.2))
                                (Go.IntKind.wrap Go.IntKind.i64 (v2.fst + (1 : Int)), v3))
                              fun (v4 : List (List Int)) => Option.some (Sum.inl (v2.1, Go.IntKind.wrap Go.IntKind.i64 (s1.snd.fst + (1 : Int)), v4))
                          else Option.some (Sum.inl (v2.1, Go.IntKind.wrap Go.IntKind.i64 (s1.snd.fst + (1 : Int)), v3))
                      else Option.none
                    else Option.none
                  else Option.none
                else Option.none
        else Option.some (Sum.inr (Sum.inl s1.snd.2)))
      (Go.IntKind.wrap Go.IntKind.i64 (x.fst + (1 : Int)), (0 : Int), x.snd.2))
    fun (v1 : List (List Int) ⊕ Bool × List (List Int)) => Sum.elim (fun (p2 : List (List Int)) => Option.some (Bool.false, p2)) (fun (q2 : Bool × List (List Int)) => Option.some (q2.1, q2.2)) v1
theorem K.f97eq : ∀ x, runFn K.C K.f97Γ K.f97sig K.f97ann Go.Proofs.Try.f97 x = K.f97F x := by
  intro x
  kernel_rfl
noncomputable def K.f97con : Con := ⟨97, K.f97sig, K.f97F⟩
theorem K.f97ok : Con.Ok Go.Proofs.Try.prog K.C K.f97con :=
  runFn_ok (Γ := K.f97Γ) (an := K.f97ann) ⟨K.Cok, (List.forall_mem_cons.2 ⟨K.f54ok, (fun _ h => nomatch h)⟩), K.mixed⟩ Go.Proofs.Try.func97 rfl rfl (fun x y h => (K.f97eq x).trans h) (by decide)
def K.f98sig : Sig := ⟨⟨[.own 0, .hole (.int .i64), .hole (.int .i64), .hole (.int .i64), .fnc 54 0], [.arr 52 (.arr 2 (.int .i64))]⟩, ⟨[.hole (.int .i64)], [.arr 52 (.arr 2 (.int .i64))]⟩⟩
noncomputable def K.f98Γ : List Con := [K.f54con]
def K.f98ann : Ann :=
  (.seq .leaf (.seq (.eff 1 [] [0, 0, 0, 0, 0, 0, 48, 112, 0, 0, 768, 1792, 4083, 8179, 16383, 32767]) (.seq .leaf (.seq (.block (.loop ⟨.normal, [(11, .hole (.int .i64)), (12, .hole (.int .i64))], [.arr 52 (.arr 2 (.int .i64))]⟩ [⟨(.exit 0), [(11, .hole (.int .i64))], [.arr 52 (.arr 2 (.int .i64))]⟩] (.block (.seq (.block (.loop ⟨.normal, [(11, .hole (.int .i64))], [.arr 52 (.arr 2 (.int .i64))]⟩ [⟨(.exit 2), [(11, .hole (.int .i64))], [.arr 52 (.arr 2 (.int .i64))]⟩] (.seq (.seq (.join [⟨.normal, [(47, .hole .bool)], [.arr 52 (.arr 2 (.int .i64))]⟩] .leaf) (.cond .leaf .leaf)) (.block .leaf)))) (.seq (.block (.loop ⟨.normal, [(12, .hole (.int .i64))], [.arr 52 (.arr 2 (.int .i64))]⟩ [⟨(.exit 4), [(12, .hole (.int .i64))], [.arr 52 (.arr 2 (.int .i64))]⟩] (.seq (.seq (.join [⟨.normal, [(65, .hole .bool)], [.arr 52 (.arr 2 (.int .i64))]⟩] .leaf) (.cond .leaf .leaf)) (.block .leaf)))) (.seq (.seq .leaf (.cond .leaf .leaf)) (.seq (.eff 1 [] [0, 0, 0, 0, 0, 0, 48, 112, 0, 0, 768, 1792, 4083, 8179, 16383, 32767]) (.seq .leaf .leaf)))))))) (.seq .leaf .leaf)))))
/- slices.partitionEqualCmpFunc[[2]int] -/
noncomputable def K.f98F : Int × Int × Int × List (List Int) → Option (Int × List (List Int)) :=
  fun (x : Int × Int × Int × List (List Int)) =>
  if (0 : Int) ≤ x.snd.snd.fst ∧ x.snd.snd.fst < (↑(List.length x.snd.snd.snd) : Int) then
    if (0 : Int) ≤ x.fst ∧ x.fst < (↑(List.length x.snd.snd.snd) : Int) then
      if (0 : Int) ≤ x.fst ∧ x.fst < (↑(List.length x.snd.snd.snd) : Int) then
        if
            (0 : Int) ≤ x.snd.snd.fst ∧
              x.snd.snd.fst < (↑(List.length (List.set x.snd.snd.2 (Int.toNat x.fst) (List.getD x.snd.snd.2 (Int.toNat x.snd.snd.fst) (List.replicate (2 : Nat) (0 : Int))))) : Int) then
          Option.bind
            (Go.Sx.iter
              (fun (s1 : Int × Int × List (List Int)) =>
                Option.bind
                  (Go.Sx.iter
                    (fun (s2 : Int × List (List Int)) =>
                      Option.bind
                        (if Decidable.decide (s2.fst ≤ s1.snd.fst) = Bool.true then
                          if (0 : Int) ≤ x.fst ∧ x.fst < (↑(List.length s2.snd) : Int) then
                            if (0 : Int) ≤ s2.fst ∧ s2.fst < (↑(List.length s2.snd) : Int) then
                              Option.bind (Go.Sx.K.f54F (List.getD s2.2 (Int.toNat x.fst) (List.replicate (2 : Nat) (0 : Int)), List.getD s2.2 (Int.toNat s2.fst) (List.replicate (2 : Nat) (0 : Int))))
                                fun (v3 : Int) => Option.some (!Decidable.decide (v3 < (0 : Int)), s2.2)
                            else Option.none
                          else Option.none
                        else Option.some (Bool.false, s2.2))
                        fun (v3 : Bool × List (List Int)) =>
                        if v3.fst = Bool.true then Option.some (Sum.inl (Go.IntKind.wrap Go.IntKind.i64 (s2.fst + (1 : Int)), v3.2)) else Option.some (Sum.inr (s2.1, v3.2)))
                    (s1.1, s1.snd.2))
                  fun (v2 : Int × List (List Int)) =>
                  Option.bind
                    (Go.Sx.iter
                      (fun (s3 : Int × List (List Int)) =>
                        Option.bind
                          (if Decidable.decide (v2.fst ≤ s3.fst) = Bool.true then
                            if (0 : Int) ≤ x.fst ∧ x.fst < (↑(List.length s3.snd) : Int) then
                              if (0 : Int) ≤ s3.fst ∧ s3.fst < (↑(List.length s3.snd) : Int) then
                                Option.bind
                                  (Go.Sx.K.f54F (List.getD s3.2 (Int.toNat x.fst) (List.replicate (2 : Nat) (0 : Int)), List.getD s3.2 (Int.toNat s3.fst) (List.replicate (2 : Nat) (0 : Int))))
                                  fun (v4 : Int) => Option.some (Decidable.decide (v4 < (0 : Int)), s3.2)
                              else Option.none
                            else Option.none
                          else Option.some (Bool.false, s3.2))
                          fun (v4 : Bool × List (List Int)) =>
                          if v4.fst = Bool.true then Option.some (Sum.inl (Go.IntKind.wrap Go.IntKind.i64 (s3.fst - (1 : Int)), v4.2)) else Option.some (Sum.inr (s3.1, v4.2)))
                      (s1.snd.1, v2.2))
                    fun (v3 : Int × List (List Int)) =>
                    if Decidable.decide (v2.fst > v3.fst) = Bool.true then Option.some (Sum.inr (v2.1, v3.2))
                    else
                      if (0 : Int) ≤ v3.fst ∧ v3.fst < (↑(List.length v3.snd) : Int) then
                        if (0 : Int) ≤ v2.fst ∧ v2.fst < (↑(List.length v3.snd) : Int) then
                          if (0 : Int) ≤ v2.fst ∧ v2.fst < (↑(List.length v3.snd) : Int) then
                            if (0 : Int) ≤ v3.fst ∧ v3.fst < (↑(List.length (List.set v3.2 (Int.toNat v2.fst) (List.getD v3.2 (Int.toNat v3.fst) (List.replicate (2 : Nat) (0 : Int))))) : Int) then
                              Option.some
                                (Sum.inl
                                  (Go.IntKind.wrap Go.IntKind.i64 (v2.fst + (1 : Int)), Go.IntKind.wrap Go.IntKind.i64 (v3.fst - (1 : Int)),
                                    List.set (List.set v3.2 (Int.toNat v2.fst) (List.getD v3.2 (Int.toNat v3.fst) (List.replicate (2 : Nat) (0 : Int)))) (Int.toNat v3.fst)
                                      (List.getD v3.2 (Int.toNat v2.fst) (List.replicate (2 : Nat) (0 : Int)))))
                            else Option.none
                          else Option.none
                        else Option.none
                      else Option.none)
              (Go.IntKind.wrap Go.IntKind.i64 (x.fst + (1 : Int)), Go.IntKind.wrap Go.IntKind.i64 (x.snd.fst - (1 : Int)),
                List.set (List.set x.snd.snd.2 (Int.toNat x.fst) (List.getD x.snd.snd.2 (Int.toNat x.snd.snd.fst) (List.replicate (2 : Nat) (0 : Int)))) (Int.toNat x.snd.snd.fst)
                  (List.getD x.snd.snd.2 (Int.toNat x.fst) (List.replicate (2 : Nat) (0 : Int)))))
            fun (v1 : Int × List (List Int)) => Option.some (v1.1, v1.2)
        else Option.none
      else Option.none
    else Option.none
  else Option.none
theorem K.f98eq : ∀ x, runFn K.C K.f98Γ K.f98sig K.f98ann Go.Proofs.Try.f98 x = K.f98F x := by
  intro x
  kernel_rfl
noncomputable def K.f98con : Con := ⟨98, K.f98sig, K.f98F⟩
theorem K.f98ok : Con.Ok Go.Proofs.Try.prog K.C K.f98con :=
  runFn_ok (Γ := K.f98Γ) (an := K.f98ann) ⟨K.Cok, (List.forall_mem_cons.2 ⟨K.f54ok, (fun _ h => nomatch h)⟩), K.mixed⟩ Go.Proofs.Try.func98 rfl rfl (fun x y h => (K.f98eq x).trans h) (by decide)
def K.f99sig : Sig := ⟨⟨[.own 0, .hole (.int .i64), .hole (.int .i64), .hole (.int .i64), .fnc 54 0], [.arr 52 (.arr 2 (.int .i64))]⟩, ⟨[.hole (.int .i64), .hole .bool], [.arr 52 (.arr 2 (.int .i64))]⟩⟩
noncomputable def K.f99Γ : List Con := [K.f54con]
def K.f99ann : Ann :=
  (.seq .leaf (.seq (.eff 1 [] [0, 0, 0, 0, 0, 0, 48, 112, 0, 0, 768, 1792, 4083, 8179, 16383, 32767]) (.seq .leaf (.seq (.block (.loop ⟨.normal, [(12, .hole (.int .i64))], [.arr 52 (.arr 2 (.int .i64))]⟩ [⟨(.exit 0), [(12, .hole (.int .i64))], [.arr 52 (.arr 2 (.int .i64))]⟩] (.seq (.seq (.join [⟨.normal, [(47, .hole .bool)], [.arr 52 (.arr 2 (.int .i64))]⟩] .leaf) (.cond .leaf .leaf)) (.block .leaf)))) (.seq (.block (.loop ⟨.normal, [(13, .hole (.int .i64))], [.arr 52 (.arr 2 (.int .i64))]⟩ [⟨(.exit 2), [(13, .hole (.int .i64))], [.arr 52 (.arr 2 (.int .i64))]⟩] (.seq (.seq (.join [⟨.normal, [(66, .hole .bool)], [.arr 52 (.arr 2 (.int .i64))]⟩] .leaf) (.cond .leaf .leaf)) (.block .leaf)))) (.seq (.seq .leaf (.cond (.seq (.eff 1 [] [0, 0, 0, 0, 0, 0, 48, 112, 0, 0, 768, 1792, 4083, 8179, 16383, 32767]) (.seq .leaf .leaf)) .leaf)) (.seq (.eff 1 [] [0, 0, 0, 0, 0, 0, 48, 112, 0, 0, 768, 1792, 4083, 8179, 16383, 32767]) (.seq .leaf (.seq .leaf (.seq (.block (.loop ⟨.normal, [(12, .hole (.int .i64)), (13, .hole (.int .i64))], [.arr 52 (.arr 2 (.int .i64))]⟩ [⟨(.exit 4), [(13, .hole (.int .i64))], [.arr 52 (.arr 2 (.int .i64))]⟩] (.block (.seq (.block (.loop ⟨.normal, [(12, .hole (.int .i64))], [.arr 52 (.arr 2 (.int .i64))]⟩ [⟨(.exit 6), [(12, .hole (.int .i64))], [.arr 52 (.arr 2 (.int .i64))]⟩] (.seq (.seq (.join [⟨.normal, [(120, .hole .bool)], [.arr 52 (.arr 2 (.int .i64))]⟩] .leaf) (.cond .leaf .leaf)) (.block .leaf)))) (.seq (.block (.loop ⟨.normal, [(13, .hole (.int .i64))], [.arr 52 (.arr 2 (.int .i64))]⟩ [⟨(.exit 8), [(13, .hole (.int .i64))], [.arr 52 (.arr 2 (.int .i64))]⟩] (.seq (.seq (.join [⟨.normal, [(139, .hole .bool)], [.arr 52 (.arr 2 (.int .i64))]⟩] .leaf) (.cond .leaf .leaf)) (.block .leaf)))) (.seq (.seq .leaf (.cond .leaf .leaf)) (.seq (.eff 1 [] [0, 0, 0, 0, 0, 0, 48, 112, 0, 0, 768, 1792, 4083, 8179, 16383, 32767]) (.seq .leaf .leaf)))))))) (.seq (.eff 1 [] [0, 0, 0, 0, 0, 0, 48, 112, 0, 0, 768, 1792, 4083, 8179, 16383, 32767]) (.seq .leaf .leaf))))))))))))
/- slices.partitionCmpFunc[[2]int] -/
noncomputable def K.f99F : Int × Int × Int × List (List Int) → Option (Int × Bool × List (List Int)) :=
  fun (x : Int × Int × Int × List (List Int)) =>
  if (0 : Int) ≤ x.snd.snd.fst ∧ x.snd.snd.fst < (↑(List.length x.snd.snd.snd) : Int) then
    if (0 : Int) ≤ x.fst ∧ x.fst < (↑(List.length x.snd.snd.snd) : Int) then
      if (0 : Int) ≤ x.fst ∧ x.fst < (↑(List.length x.snd.snd.snd) : Int) then
        if
            (0 : Int) ≤ x.snd.snd.fst ∧
              x.snd.snd.fst < (↑(List.length (List.set x.snd.snd.2 (Int.toNat x.fst) (List.getD x.snd.snd.2 (Int.toNat x.snd.snd.fst) (List.replicate (2 : Nat) (0 : Int))))) : Int) then
          Option.bind
            (Go.Sx.iter
              (fun (s1 : Int × List (List Int)) =>
                Option.bind
                  (if Decidable.decide (s1.fst ≤ Go.IntKind.wrap Go.IntKind.i64 (x.snd.fst - (1 : Int))) = Bool.true then
                    if (0 : Int) ≤ s1.fst ∧ s1.fst < (↑(List.length s1.snd) : Int) then
                      if (0 : Int) ≤ x.fst ∧ x.fst < (↑(List.length s1.snd) : Int) then
                        Option.bind (Go.Sx.K.f54F (List.getD s1.2 (Int.toNat s1.fst) (List.replicate (2 : Nat) (0 : Int)), List.getD s1.2 (Int.toNat x.fst) (List.replicate (2 : Nat) (0 : Int))))
                          fun (v2 : Int) => Option.some (Decidable.decide (v2 < (0 : Int)), s1.2)
                      else Option.none
                    else Option.none
                  else Option.some (Bool.false, s1.2))
                  fun (v2 : Bool × List (List Int)) =>
                  if v2.fst = Bool.true then Option.some (Sum.inl (Go.IntKind.wrap Go.IntKind.i64 (s1.fst + (1 : Int)), v2.2)) else Option.some (Sum.inr (s1.1, v2.2)))
              (Go.IntKind.wrap Go.IntKind.i64 (x.fst + (1 : Int)),
                List.set (List.set x.snd.snd.2 (Int.toNat x.fst) (List.getD x.snd.snd.2 (Int.toNat x.snd.snd.fst) (List.replicate (2 : Nat) (0 : Int)))) (Int.toNat x.snd.snd.fst)
                  (List.getD x.snd.snd.2 (Int.toNat x.fst) (List.replicate (2 : Nat) (0 : Int)))))
            fun (v1 : Int × List (List Int)) =>
            Option.bind
              (Go.Sx.iter
                (fun (s2 : Int × List (List Int)) =>
                  Option.bind
                    (if Decidable.decide (v1.fst ≤ s2.fst) = Bool.true then
                      if (0 : Int) ≤ s2.fst ∧ s2.fst < (↑(List.length s2.snd) : Int) then
                        if (0 : Int) ≤ x.fst ∧ x.fst < (↑(List.length s2.snd) : Int) then
                          Option.bind (Go.Sx.K.f54F (List.getD s2.2 (Int.toNat s2.fst) (List.replicate (2 : Nat) (0 : Int)), List.getD s2.2 (Int.toNat x.fst) (List.replicate (2 : Nat) (0 : Int))))
                            fun (v3 : Int) => Option.some (!Decidable.decide (v3 < (0 : Int)), s2.2)
                        else Option.none
                      else Option.none
                    else Option.some (Bool.false, s2.2))
                    fun (v3 : Bool × List (List Int)) =>
                    if v3.fst = Bool.true then Option.some (Sum.inl (Go.IntKind.wrap Go.IntKind.i64 (s2.fst - (1 : Int)), v3.2)) else Option.some (Sum.inr (s2.1, v3.2)))
                (Go.IntKind.wrap Go.IntKind.i64 (x.snd.fst - (1 : Int)), v1.2))
              fun (v2 : Int × List (List Int)) =>
              if Decidable.decide (v1.fst > v2.fst) = Bool.true then
                if (0 : Int) ≤ x.fst ∧ x.fst < (↑(List.length v2.snd) : Int) then
                  if (0 : Int) ≤ v2.fst ∧ v2.fst < (↑(List.length v2.snd) : Int) then
                    if (0 : Int) ≤ v2.fst ∧ v2.fst < (↑(List.length v2.snd) : Int) then
                      if (0 : Int) ≤ x.fst ∧ x.fst < (↑(List.length (List.set v2.2 (Int.toNat v2.fst) (List.getD v2.2 (Int.toNat x.fst) (List.replicate (2 : Nat) (0 : Int))))) : Int) then
                        Option.some
                          (v2.1, Bool.true,
                            List.set (List.set v2.2 (Int.toNat v2.fst) (List.getD v2.2 (Int.toNat x.fst) (List.replicate (2 : Nat) (0 : Int)))) (Int.toNat x.fst)
                              (List.getD v2.2 (Int.toNat v2.fst) (List.replicate (2 : Nat) (0 : Int))))
                      else Option.none
                    else Option.none
                  else Option.none
                else Option.none
              else
                if (0 : Int) ≤ v2.fst ∧ v2.fst < (↑(List.length v2.snd) : Int) then
                  if (0 : Int) ≤ v1.fst ∧ v1.fst < (↑(List.length v2.snd) : Int) then
                    if (0 : Int) ≤ v1.fst ∧ v1.fst < (↑(List.length v2.snd) : Int) then
                      if (0 : Int) ≤ v2.fst ∧ v2.fst < (↑(List.length (List.set v2.2 (Int.toNat v1.fst) (List.getD v2.2 (Int.toNat v2.fst) (List.replicate (2 : Nat) (0 : Int))))) : Int) then
                        Option.bind
                          (Go.Sx.iter
                            (fun (s3 : Int × Int × List (List Int)) =>
                              Option.bind
                                (Go.Sx.iter
                                  (fun (s4 : Int × List (List Int)) =>
                                    Option.bind
                                      (if Decidable.decide (s4.fst ≤ s3.snd.fst) = Bool.true then
                                        if (0 : Int) ≤ s4.fst ∧ s4.fst < (↑(List.length s4.snd) : Int) then
                                          if (0 : Int) ≤ x.fst ∧ x.fst < (↑(List.length s4.snd) : Int) then
                                            Option.bind
                                              (Go.Sx.K.f54F
                                                (List.getD s4.2 (Int.toNat s4.fst) (List.replicate (2 : Nat) (0 : Int)), List.getD s4.2 (Int.toNat x.fst) (List.replicate (2 : Nat) (0 : Int))))
                                              fun (v5 : Int) => Option.some (Decidable.decide (v5 < (0 : Int)), s4.2)
                                          else Option.none
                                        else Option.none
                                      else Option.some (Bool.false, s4.2))
                                      fun (v5 : Bool × List (List Int)) =>
                                      if v5.fst = Bool.true then Option.some (Sum.inl (Go.IntKind.wrap Go.IntKind.i64 (s4.fst + (1 : Int)), v5.2)) else Option.some (Sum.inr (s4.1, v5.2)))
                                  (s3.1, s3.snd.2))
                                fun (v4 : Int × List (List Int)) =>
                                Option.bind
                                  (Go.Sx.iter
                                    (fun (s5 : Int × List (List Int)) =>
                                      Option.bind
                                        (if Decidable.decide (v4.fst ≤ s5.fst) = Bool.true then
                                          if (0 : Int) ≤ s5.fst ∧ s5.fst < (↑(List.length s5.snd) : Int) then
                                            if (0 : Int) ≤ x.fst ∧ x.fst < (↑(List.length s5.snd) : Int) then
                                              Option.bind
                                                (Go.Sx.K.f54F
                                                  (List.getD s5.2 (Int.toNat s5.fst) (List.replicate (2 : Nat) (0 : Int)), List.getD s5.2 (Int.toNat x.fst) (List.replicate (2 : Nat) (0 : Int))))
                                                fun (v6 : Int) => Option.some (!Decidable.decide (v6 < (0 : Int)), s5.2)
                                            else Option.none
                                          else Option.none
                                        else Option.some (Bool.false, s5.2))
                                        fun (v6 : Bool × List (List Int)) =>
                                        if v6.fst = Bool.true then Option.some (Sum.inl (Go.IntKind.wrap Go.IntKind.i64 (s5.fst - (1 : Int)), v6.2)) else Option.some (Sum.inr (s5.1, v6.2)))
                                    (s3.snd.1, v4.2))
                                  fun (v5 : Int × List (List Int)) =>
                                  if Decidable.decide (v4.fst > v5.fst) = Bool.true then Option.some (Sum.inr (v5.1, v5.2))
                                  else
                                    if (0 : Int) ≤ v5.fst ∧ v5.fst < (↑(List.length v5.snd) : Int) then
                                      if (0 : Int) ≤ v4.fst ∧ v4.fst < (↑(List.length v5.snd) : Int) then
                                        if (0 : Int) ≤ v4.fst ∧ v4.fst < (↑(List.length v5.snd) : Int) then
                                          if
                                              (0 : Int) ≤ v5.fst ∧
                                                v5.fst < (↑(List.length (List.set v5.2 (Int.toNat v4.fst) (List.getD v5.2 (Int.toNat v5.fst) (List.replicate (2 : Nat) (0 : Int))))) : Int) then
                                            Option.some
                                              (Sum.inl
                                                (Go.IntKind.wrap Go.IntKind.i64 (v4.fst + (1 : Int)), Go.IntKind.wrap Go.IntKind.i64 (v5.fst - (1 : Int)),
                                                  List.set (List.set v5.2 (Int.toNat v4.fst) (List.getD v5.2 (Int.toNat v5.fst) (List.replicate (2 : Nat) (0 : Int)))) (Int.toNat v5.fst)
                                                    (List.getD v5.2 (Int.toNat v4.fst) (List.replicate (2 : Nat) (0 : Int)))))
                                          else Option.none
                                        else Option.none
                                      else Option.none
                                    else Option.none)
                            (Go.IntKind.wrap Go.IntKind.i64 (v1.fst + (1 : Int)), Go.IntKind.wrap Go.IntKind.i64 (v2.fst - (1 : Int)),
                              List.set (List.set v2.2 (Int.toNat v1.fst) (List.getD v2.2 (Int.toNat v2.fst) (List.replicate (2 : Nat) (0 : Int)))) (Int.toNat v2.fst)
                                (List.getD v2.2 (Int.toNat v1.fst) (List.replicate (2 : Nat) (0 : Int)))))
                          fun (v3 : Int × List (List Int)) =>
                          if (0 : Int) ≤ x.fst ∧ x.fst < (↑(List.length v3.snd) : Int) then
                            if (0 : Int) ≤ v3.fst ∧ v3.fst < (↑(List.length v3.snd) : Int) then
                              if (0 : Int) ≤ v3.fst ∧ v3.fst < (↑(List.length v3.snd) : Int) then
                                if (0 : Int) ≤ x.fst ∧ x.fst < (↑(List.length (List.set v3.2 (Int.toNat v3.fst) (List.getD v3.2 (Int.toNat x.fst) (List.replicate (2 : Nat) (0 : Int))))) : Int) then
                                  Option.some
                                    (v3.1, Bool.false,
                                      List.set (List.set v3.2 (Int.toNat v3.fst) (List.getD v3.2 (Int.toNat x.fst) (List.replicate (2 : Nat) (0 : Int)))) (Int.toNat x.fst)
                                        (List.getD v3.2 (Int.toNat v3.fst) (List.replicate (2 : Nat) (0 : Int))))
                                else Option.none
                              else Option.none
                            else Option.none
                          else Option.none
                      else Option.none
                    else Option.none
                  else Option.none
                else Option.none
        else Option.none
      else Option.none
    else Option.none
  else Option.none
theorem K.f99eq : ∀ x, runFn K.C K.f99Γ K.f99sig K.f99ann Go.Proofs.Try.f99 x = K.f99F x := by
  intro x
  kernel_rfl
noncomputable def K.f99con : Con := ⟨99, K.f99sig, K.f99F⟩
theorem K.f99ok : Con.Ok Go.Proofs.Try.prog K.C K.f99con :=
  runFn_ok (Γ := K.f99Γ) (an := K.f99ann) ⟨K.Cok, (List.forall_mem_cons.2 ⟨K.f54ok, (fun _ h => nomatch h)⟩), K.mixed⟩ Go.Proofs.Try.func99 rfl rfl (fun x y h => (K.f99eq x).trans h) (by decide)
def K.f76sig : Sig := ⟨⟨[.own 0, .hole (.int .i64), .hole (.int .i64), .hole (.int .i64), .fnc 54 0], [.arr 52 (.arr 2 (.int .i64))]⟩, ⟨[], [.arr 52 (.arr 2 (.int .i64))]⟩⟩
noncomputable def K.f76Γ (r76 : Int × Int × Int × List (List Int) → Option (List (List Int))) : List Con := [K.f92con, K.f93con, K.f94con, K.f95con, K.f96con, K.f97con, K.f98con, K.f99con, ⟨76, K.f76sig, r76⟩, K.f54con]
def K.f76ann : Ann :=
  (.seq .leaf (.seq .leaf (.block (.loop ⟨.normal, [(3, .hole (.int .i64)), (1, .hole (.int .i64)), (11, .hole .bool), (10, .hole .bool), (2, .hole (.int .i64))], [.arr 52 (.arr 2 (.int .i64))]⟩ [⟨.ret, [], [.arr 52 (.arr 2 (.int .i64))]⟩] (.block (.seq .leaf (.seq (.seq .leaf (.cond (.seq .leaf .leaf) .leaf)) (.seq (.seq .leaf (.cond (.seq .leaf .leaf) .leaf)) (.seq (.join [⟨.normal, [(3, .hole (.int .i64))], [.arr 52 (.arr 2 (.int .i64))]⟩] (.seq .leaf (.cond (.seq .leaf .leaf) .leaf))) (.seq .leaf (.seq (.join [⟨.normal, [(13, .hole (.int .i64)), (14, .hole (.int .i64))], [.arr 52 (.arr 2 (.int .i64))]⟩] (.seq .leaf (.cond (.seq .leaf (.seq .leaf .leaf)) .leaf))) (.seq (.join [⟨.ret, [], [.arr 52 (.arr 2 (.int .i64))]⟩, ⟨.normal, [], [.arr 52 (.arr 2 (.int .i64))]⟩] (.seq (.join [⟨.normal, [(75, .hole .bool)], [.arr 52 (.arr 2 (.int .i64))]⟩] .leaf) (.cond (.seq .leaf (.cond .leaf .leaf)) .leaf))) (.seq (.seq (.join [⟨.normal, [(97, .hole .bool)], [.arr 52 (.arr 2 (.int .i64))]⟩] .leaf) (.cond (.seq .leaf (.seq .leaf .leaf)) .leaf)) (.seq .leaf (.seq .leaf (.seq .leaf (.seq .leaf (.seq .leaf (.cond (.seq .leaf (.seq .leaf .leaf)) (.seq .leaf (.seq .leaf .leaf)))))))))))))))))))))
/- slices.pdqsortCmpFunc[[2]int] -/
noncomputable def K.f76S (r76 : Int × Int × Int × List (List Int) → Option (List (List Int))) : Int × Int × Int × List (List Int) → Option (List (List Int)) :=
  fun (x : Int × Int × Int × List (List Int)) =>
  Option.bind
    (Go.Sx.iter
      (fun (s1 : Int × Int × Bool × Bool × Int × List (List Int)) =>
        if Decidable.decide (Go.IntKind.wrap Go.IntKind.i64 (s1.snd.snd.snd.snd.fst - s1.snd.fst) ≤ (12 : Int)) = Bool.true then
          Option.bind (Go.Sx.K.f92F (s1.snd.1, s1.snd.snd.snd.snd.1, s1.snd.snd.snd.snd.2)) fun (v2 : List (List Int)) => Option.some (Sum.inr v2)
        else
          if (s1.fst == (0 : Int)) = Bool.true then Option.bind (Go.Sx.K.f93F (s1.snd.1, s1.snd.snd.snd.snd.1, s1.snd.snd.snd.snd.2)) fun (v2 : List (List Int)) => Option.some (Sum.inr v2)
          else
            Option.bind
              (if (!s1.snd.snd.snd.fst) = Bool.true then
                Option.bind (Go.Sx.K.f94F (s1.snd.1, s1.snd.snd.snd.snd.1, s1.snd.snd.snd.snd.2)) fun (v2 : List (List Int)) => Option.some (Go.IntKind.wrap Go.IntKind.i64 (s1.fst - (1 : Int)), v2)
              else Option.some (s1.1, s1.snd.snd.snd.snd.2))
              fun (v2 : Int × List (List Int)) =>
              Option.bind (Go.Sx.K.f95F (s1.snd.1, s1.snd.snd.snd.snd.1, v2.2)) fun (v3 : Int × Int × List (List Int)) =>
                Option.bind
                  (if (v3.snd.fst == (2 : Int)) = Bool.true then
                    Option.bind (Go.Sx.K.f96F (s1.snd.1, s1.snd.snd.snd.snd.1, v3.snd.2)) fun (v4 : List (List Int)) =>
                      Option.some
                        (Go.IntKind.wrap Go.IntKind.i64 (Go.IntKind.wrap Go.IntKind.i64 (s1.snd.snd.snd.snd.fst - (1 : Int)) - Go.IntKind.wrap Go.IntKind.i64 (v3.fst - s1.snd.fst)), (1 : Int), v4)
                  else Option.some (v3.1, v3.snd.1, v3.snd.2))
                  fun (v4 : Int × Int × List (List Int)) =>
                  Option.bind
                    (Option.bind
                      (if s1.snd.snd.snd.fst = Bool.true then if s1.snd.snd.fst = Bool.true then Option.some (v4.snd.fst == (1 : Int), v4.snd.2) else Option.some (Bool.false, v4.snd.2)
                      else Option.some (Bool.false, v4.snd.2))
                      fun (v5 : Bool × List (List Int)) =>
                      if v5.fst = Bool.true then
                        Option.bind (Go.Sx.K.f97F (s1.snd.1, s1.snd.snd.snd.snd.1, v5.2)) fun (v6 : Bool × List (List Int)) =>
                          if v6.fst = Bool.true then Option.some (Sum.inl v6.2) else Option.some (Sum.inr v6.2)
                      else Option.some (Sum.inr v5.2))
                    fun (v5 : List (List Int) ⊕ List (List Int)) =>
                    Sum.elim (fun (p6 : List (List Int)) => Option.some (Sum.inr p6))
                      (fun (q6 : List (List Int)) =>
                        Option.bind
                          (if Decidable.decide (s1.snd.fst > (0 : Int)) = Bool.true then
                            if (0 : Int) ≤ Go.IntKind.wrap Go.IntKind.i64 (s1.snd.fst - (1 : Int)) ∧ Go.IntKind.wrap Go.IntKind.i64 (s1.snd.fst - (1 : Int)) < (↑(List.length q6) : Int) then
                              if (0 : Int) ≤ v4.fst ∧ v4.fst < (↑(List.length q6) : Int) then
                                Option.bind
                                  (Go.Sx.K.f54F
                                    (List.getD q6 (Int.toNat (Go.IntKind.wrap Go.IntKind.i64 (s1.snd.fst - (1 : Int)))) (List.replicate (2 : Nat) (0 : Int)),
                                      List.getD q6 (Int.toNat v4.fst) (List.replicate (2 : Nat) (0 : Int))))
                                  fun (v7 : Int) => Option.some (!Decidable.decide (v7 < (0 : Int)), q6)
                              else Option.none
                            else Option.none
                          else Option.some (Bool.false, q6))
                          fun (v7 : Bool × List (List Int)) =>
                          if v7.fst = Bool.true then
                            Option.bind (Go.Sx.K.f98F (s1.snd.1, s1.snd.snd.snd.snd.1, v4.1, v7.2)) fun (v8 : Int × List (List Int)) =>
                              Option.some (Sum.inl (v2.1, v8.1, s1.snd.snd.1, s1.snd.snd.snd.1, s1.snd.snd.snd.snd.1, v8.2))
                          else
                            Option.bind (Go.Sx.K.f99F (s1.snd.1, s1.snd.snd.snd.snd.1, v4.1, v7.2)) fun (v8 : Int × Bool × List (List Int)) =>
                              if Decidable.decide (Go.IntKind.wrap Go.IntKind.i64 (v8.fst - s1.snd.fst) < Go.IntKind.wrap Go.IntKind.i64 (s1.snd.snd.snd.snd.fst - v8.fst)) = Bool.true then
                                Option.bind (r76 (s1.snd.1, v8.1, v2.1, v8.snd.2)) fun (v9 : List (List Int)) =>
                                  Option.some
                                    (Sum.inl
                                      (v2.1, Go.IntKind.wrap Go.IntKind.i64 (v8.fst + (1 : Int)), v8.snd.1,
                                        Decidable.decide
                                          (Go.IntKind.wrap Go.IntKind.i64 (v8.fst - s1.snd.fst) ≥
                                            Go.IntKind.wrap Go.IntKind.i64 (Int.tdiv (Go.IntKind.wrap Go.IntKind.i64 (s1.snd.snd.snd.snd.fst - s1.snd.fst)) (8 : Int))),
                                        s1.snd.snd.snd.snd.1, v9))
                              else
                                Option.bind (r76 (Go.IntKind.wrap Go.IntKind.i64 (v8.fst + (1 : Int)), s1.snd.snd.snd.snd.1, v2.1, v8.snd.2)) fun (v9 : List (List Int)) =>
                                  Option.some
                                    (Sum.inl
                                      (v2.1, s1.snd.1, v8.snd.1,
                                        Decidable.decide
                                          (Go.IntKind.wrap Go.IntKind.i64 (s1.snd.snd.snd.snd.fst - v8.fst) ≥
                                            Go.IntKind.wrap Go.IntKind.i64 (Int.tdiv (Go.IntKind.wrap Go.IntKind.i64 (s1.snd.snd.snd.snd.fst - s1.snd.fst)) (8 : Int))),
                                        v8.1, v9)))
                      v5)
      (x.snd.snd.1, x.1, Bool.true, Bool.true, x.snd.1, x.snd.snd.2))
    fun (v1 : List (List Int)) => Option.some v1
theorem K.f76eq (r76 : Int × Int × Int × List (List Int) → Option (List (List Int))) : ∀ x, runFn K.C (K.f76Γ r76) K.f76sig K.f76ann Go.Proofs.Try.f76 x = K.f76S r76 x := by
  intro x
  kernel_rfl
noncomputable def K.f76N : Nat → (Int × Int × Int × List (List Int) → Option (List (List Int)))
  | 0 => fun _ => none
  | n + 1 => K.f76S ((K.f76N n))
noncomputable def K.f76F : Int × Int × Int × List (List Int) → Option (List (List Int)) := (K.f76N K.fuel)
noncomputable def K.f76con : Con := ⟨76, K.f76sig, K.f76F⟩
theorem K.f76Nok : ∀ n, Con.Ok Go.Proofs.Try.prog K.C ⟨76, K.f76sig, (K.f76N n)⟩
  | 0 => runFn_ok (Γ := []) (an := .leaf) ⟨K.Cok, (fun _ h => nomatch h), K.mixed⟩ Go.Proofs.Try.func76 rfl rfl (fun x y h => nomatch h) (by decide)
  | n + 1 => have h := K.f76Nok n
    runFn_ok (Γ := K.f76Γ ((K.f76N n))) (an := K.f76ann) ⟨K.Cok, (List.forall_mem_cons.2 ⟨K.f92ok, (List.forall_mem_cons.2 ⟨K.f93ok, (List.forall_mem_cons.2 ⟨K.f94ok, (List.forall_mem_cons.2 ⟨K.f95ok, (List.forall_mem_cons.2 ⟨K.f96ok, (List.forall_mem_cons.2 ⟨K.f97ok, (List.forall_mem_cons.2 ⟨K.f98ok, (List.forall_mem_cons.2 ⟨K.f99ok, (List.forall_mem_cons.2 ⟨h, (List.forall_mem_cons.2 ⟨K.f54ok, (fun _ h => nomatch h)⟩)⟩)⟩)⟩)⟩)⟩)⟩)⟩)⟩)⟩), K.mixed⟩ Go.Proofs.Try.func76 rfl rfl (fun x y h => (K.f76eq _ x).trans h) (by decide)
theorem K.f76ok : Con.Ok Go.Proofs.Try.prog K.C K.f76con := (K.f76Nok K.fuel)
def K.f53sig : Sig := ⟨⟨[.own 0, .fnc 54 0], [.arr 52 (.arr 2 (.int .i64))]⟩, ⟨[], [.arr 52 (.arr 2 (.int .i64))]⟩⟩
noncomputable def K.f53Γ : List Con := [K.f73con, K.f76con, K.f54con]
def K.f53ann : Ann :=
  (.seq .leaf .leaf)
/- slices.SortFunc[[][2]int,[2]int] -/
noncomputable def K.f53F : List (List Int) → Option (List (List Int)) :=
  fun (x : List (List Int)) =>
  Option.bind (Go.Sx.K.f73F (Go.IntKind.wrap Go.IntKind.u64 (↑(List.length x) : Int))) fun (v1 : Int) =>
    Option.bind (Go.Sx.K.f76F ((0 : Int), (↑(List.length x) : Int), v1, x)) fun (v2 : List (List Int)) => Option.some v2
theorem K.f53eq : ∀ x, runFn K.C K.f53Γ K.f53sig K.f53ann Go.Proofs.Try.f53 x = K.f53F x := by
  intro x
  kernel_rfl
noncomputable def K.f53con : Con := ⟨53, K.f53sig, K.f53F⟩
theorem K.f53ok : Con.Ok Go.Proofs.Try.prog K.C K.f53con :=
  runFn_ok (Γ := K.f53Γ) (an := K.f53ann) ⟨K.Cok, (List.forall_mem_cons.2 ⟨K.f73ok, (List.forall_mem_cons.2 ⟨K.f76ok, (List.forall_mem_cons.2 ⟨K.f54ok, (fun _ h => nomatch h)⟩)⟩)⟩), K.mixed⟩ Go.Proofs.Try.func53 rfl rfl (fun x y h => (K.f53eq x).trans h) (by decide)
def K.f35sig : Sig := ⟨⟨[.hole (.sl (.int .i64)), .hole (.sl (.int .i64))], []⟩, ⟨[.hole (.sl (.arr 2 (.int .i64)))], []⟩⟩
noncomputable def K.f35Γ : List Con := [K.other, K.f52con, K.f53con, K.f54con]
def K.f35ann : Ann :=
  (.seq .leaf (.scope 0 ⟨.normal, [(5, .own 0), (6, .own 1), (7, .hole (.int .i64))], [.arr 52 (.arr 2 (.int .i64)), .arr 74 (.st (.pair (.int .i64) (.int .i64)))]⟩ [⟨.ret, [(4, .own 0)], [.arr 52 (.arr 2 (.int .i64))]⟩] (.seq (.seq .leaf (.cond (.seq .leaf .leaf) .leaf)) (.seq .leaf (.seq .leaf (.seq .leaf (.seq .leaf (.seq (.seq .leaf (.cond (.seq .leaf (.seq (.block (.seq (.join [⟨.normal, [(62, .hole .bool)], []⟩] .leaf) (.cond .leaf (.seq (.join [⟨.normal, [(72, .hole .bool)], []⟩] .leaf) (.cond .leaf (.seq .leaf (.cond .leaf (.seq .leaf (.seq (.block (.loop ⟨.normal, [(11, .hole (.int .i64))], []⟩ [⟨(.exit 1), [(11, .hole (.int .i64))], []⟩] (.seq (.seq .leaf (.cond .leaf .leaf)) .leaf))) (.seq .leaf (.cond (.seq .leaf .leaf) .leaf))))))))))) (.seq .leaf .leaf))) .leaf)) (.seq .leaf (.seq .leaf .leaf)))))))) (.seq .leaf (.seq (.seq .leaf (.cond (.seq .leaf (.seq (.block (.seq (.join [⟨.normal, [(62, .hole .bool)], [.arr 52 (.arr 2 (.int .i64)), .arr 74 (.st (.pair (.int .i64) (.int .i64)))]⟩] .leaf) (.cond .leaf (.seq (.join [⟨.normal, [(72, .hole .bool)], [.arr 52 (.arr 2 (.int .i64)), .arr 74 (.st (.pair (.int .i64) (.int .i64)))]⟩] .leaf) (.cond .leaf (.seq .leaf (.cond .leaf (.seq .leaf (.seq (.block (.loop ⟨.normal, [(11, .hole (.int .i64))], [.arr 52 (.arr 2 (.int .i64)), .arr 74 (.st (.pair (.int .i64) (.int .i64)))]⟩ [⟨(.exit 1), [(11, .hole (.int .i64))], [.arr 52 (.arr 2 (.int .i64)), .arr 74 (.st (.pair (.int .i64) (.int .i64)))]⟩] (.seq (.seq (.join [⟨.normal, [(44, .hole .bool)], [.arr 52 (.arr 2 (.int .i64)), .arr 74 (.st (.pair (.int .i64) (.int .i64)))]⟩] .leaf) (.cond .leaf .leaf)) (.block .leaf)))) (.seq .leaf (.cond (.seq .leaf .leaf) .leaf))))))))))) (.seq .leaf .leaf))) .leaf)) (.seq .leaf (.seq .leaf .leaf))))))
/- ductus/brack.Pairs -/
noncomputable def K.f35F : List Int × List Int → Option (List (List Int)) :=
  fun (x : List Int × List Int) =>
  Option.bind
    (Option.bind
      (if ((↑(List.length x.fst) : Int) != (↑(List.length x.snd) : Int)) = Bool.true then Option.some (Sum.inr [])
      else
        if Decidable.decide ((0 : Int) < (↑(List.length x.fst) : Int)) = Bool.true then
          if (0 : Int) ≤ (0 : Int) ∧ (0 : Int) < (↑(List.length x.fst) : Int) then
            Option.bind (Go.Sx.K.otherF (List.getD x.fst (Int.toNat (0 : Int)) (0 : Int))) fun (v1 : Int × Bool × Bool) =>
              Option.bind
                (if (!v1.snd.snd) = Bool.true then Option.some Bool.true
                else if (0 : Int) ≤ (0 : Int) ∧ (0 : Int) < (↑(List.length x.snd) : Int) then Option.some (List.getD x.snd (Int.toNat (0 : Int)) (0 : Int) != (13 : Int)) else Option.none)
                fun (v2 : Bool) =>
                if v2 = Bool.true then Option.some (Sum.inl (Go.IntKind.wrap Go.IntKind.i64 ((0 : Int) + (1 : Int)), [], []))
                else
                  Option.bind (if v1.snd.fst = Bool.true then Option.some ((0 : Int) == (63 : Int)) else Option.some Bool.false) fun (v3 : Bool) =>
                    if v3 = Bool.true then Option.some (Sum.inl (Go.IntKind.wrap Go.IntKind.i64 ((↑(List.length x.fst) : Int) + (1 : Int)), [], []))
                    else
                      if v1.snd.fst = Bool.true then
                        if (0 : Int) ≤ (0 : Int) ∧ (0 : Int) < (↑(List.length x.fst) : Int) then
                          if
                              Go.Sx.roomOk (List.length [(List.getD x.fst (Int.toNat (0 : Int)) (0 : Int), (0 : Int))])
                                { kind := Go.Sx.TK.struct [((3 : Go.TypeId), (0 : Nat), (1 : Nat), Bool.false), ((3 : Go.TypeId), (1 : Nat), (1 : Nat), Bool.false)], size := (2 : Nat),
                                    bytes := (16 : Nat), ty := Option.some (Go.Sx.Ty.st (Go.Sx.Ty.pair (Go.Sx.Ty.int Go.IntKind.i64) (Go.Sx.Ty.int Go.IntKind.i64))),
                                    zero := [Go.Sx.SV.val (Go.Sx.Ty.int Go.IntKind.i64) (0 : Int), Go.Sx.SV.val (Go.Sx.Ty.int Go.IntKind.i64) (0 : Int)] : Go.Sx.TI }.bytes then
                            Option.some (Sum.inl (Go.IntKind.wrap Go.IntKind.i64 ((0 : Int) + (1 : Int)), [], [(List.getD x.fst (Int.toNat (0 : Int)) (0 : Int), (0 : Int))]))
                          else Option.none
                        else Option.none
                      else
                        Option.bind
                          (Go.Sx.iter (fun (s4 : Int) => if Decidable.decide (s4 ≥ (0 : Int)) = Bool.true then Option.none else Option.some (Sum.inr s4))
                            (Go.IntKind.wrap Go.IntKind.i64 ((0 : Int) - (1 : Int))))
                          fun (v4 : Int) =>
                          if Decidable.decide (v4 ≥ (0 : Int)) = Bool.true then Option.none else Option.some (Sum.inl (Go.IntKind.wrap Go.IntKind.i64 ((0 : Int) + (1 : Int)), [], []))
          else Option.none
        else Option.bind (Go.Sx.K.f53F []) fun (v1 : List (List Int)) => Option.some (Sum.inr []))
      fun (v1 : Int × List (List Int) × List (Int × Int) ⊕ List (List Int)) =>
      Sum.elim
        (fun (p2 : Int × List (List Int) × List (Int × Int)) =>
          Go.Sx.iter
            (fun (s3 : Int × List (List Int) × List (Int × Int)) =>
              if Decidable.decide (s3.fst < (↑(List.length x.fst) : Int)) = Bool.true then
                if (0 : Int) ≤ s3.fst ∧ s3.fst < (↑(List.length x.fst) : Int) then
                  Option.bind (Go.Sx.K.otherF (List.getD x.fst (Int.toNat s3.fst) (0 : Int))) fun (v4 : Int × Bool × Bool) =>
                    Option.bind
                      (if (!v4.snd.snd) = Bool.true then Option.some (Bool.true, s3.snd.1, s3.snd.2)
                      else
                        if (0 : Int) ≤ s3.fst ∧ s3.fst < (↑(List.length x.snd) : Int) then Option.some (List.getD x.snd (Int.toNat s3.fst) (0 : Int) != (13 : Int), s3.snd.1, s3.snd.2)
                        else Option.none)
                      fun (v5 : Bool × List (List Int) × List (Int × Int)) =>
                      if v5.fst = Bool.true then Option.some (Sum.inl (Go.IntKind.wrap Go.IntKind.i64 (s3.fst + (1 : Int)), v5.snd.1, v5.snd.2))
                      else
                        Option.bind (if v4.snd.fst = Bool.true then Option.some ((↑(List.length v5.snd.snd) : Int) == (63 : Int), v5.snd.1, v5.snd.2) else Option.some (Bool.false, v5.snd.1, v5.snd.2))
                          fun (v6 : Bool × List (List Int) × List (Int × Int)) =>
                          if v6.fst = Bool.true then Option.some (Sum.inl (Go.IntKind.wrap Go.IntKind.i64 ((↑(List.length x.fst) : Int) + (1 : Int)), v6.snd.1, v6.snd.2))
                          else
                            if v4.snd.fst = Bool.true then
                              if (0 : Int) ≤ s3.fst ∧ s3.fst < (↑(List.length x.fst) : Int) then
                                if
                                    Go.Sx.roomOk (List.length v6.snd.snd + List.length [(List.getD x.fst (Int.toNat s3.fst) (0 : Int), s3.1)])
                                      { kind := Go.Sx.TK.struct [((3 : Go.TypeId), (0 : Nat), (1 : Nat), Bool.false), ((3 : Go.TypeId), (1 : Nat), (1 : Nat), Bool.false)], size := (2 : Nat),
                                          bytes := (16 : Nat), ty := Option.some (Go.Sx.Ty.st (Go.Sx.Ty.pair (Go.Sx.Ty.int Go.IntKind.i64) (Go.Sx.Ty.int Go.IntKind.i64))),
                                          zero := [Go.Sx.SV.val (Go.Sx.Ty.int Go.IntKind.i64) (0 : Int), Go.Sx.SV.val (Go.Sx.Ty.int Go.IntKind.i64) (0 : Int)] : Go.Sx.TI }.bytes then
                                  Option.some (Sum.inl (Go.IntKind.wrap Go.IntKind.i64 (s3.fst + (1 : Int)), v6.snd.1, v6.snd.2 ++ [(List.getD x.fst (Int.toNat s3.fst) (0 : Int), s3.1)]))
                                else Option.none
                              else Option.none
                            else
                              Option.bind
                                (Go.Sx.iter
                                  (fun (s7 : Int × List (List Int) × List (Int × Int)) =>
                                    Option.bind
                                      (if Decidable.decide (s7.fst ≥ (0 : Int)) = Bool.true then
                                        if (0 : Int) ≤ s7.fst ∧ s7.fst < (↑(List.length s7.snd.snd) : Int) then
                                          Option.bind (Go.Sx.K.f52F ((List.getD s7.snd.2 (Int.toNat s7.fst) ((0 : Int), (0 : Int))).1, v4.1)) fun (v8 : Bool) => Option.some (!v8, s7.snd.1, s7.snd.2)
                                        else Option.none
                                      else Option.some (Bool.false, s7.snd.1, s7.snd.2))
                                      fun (v8 : Bool × List (List Int) × List (Int × Int)) =>
                                      if v8.fst = Bool.true then Option.some (Sum.inl (Go.IntKind.wrap Go.IntKind.i64 (s7.fst - (1 : Int)), v8.snd.1, v8.snd.2))
                                      else Option.some (Sum.inr (s7.1, v8.snd.1, v8.snd.2)))
                                  (Go.IntKind.wrap Go.IntKind.i64 ((↑(List.length v6.snd.snd) : Int) - (1 : Int)), v6.snd.1, v6.snd.2))
                                fun (v7 : Int × List (List Int) × List (Int × Int)) =>
                                if Decidable.decide (v7.fst ≥ (0 : Int)) = Bool.true then
                                  if (0 : Int) ≤ v7.fst ∧ v7.fst < (↑(List.length v7.snd.snd) : Int) then
                                    if
                                        Go.Sx.roomOk (List.length v7.snd.fst + List.length [[(List.getD v7.snd.2 (Int.toNat v7.fst) ((0 : Int), (0 : Int))).2, s3.1]])
                                          { kind := Go.Sx.TK.array (2 : Nat) (3 : Go.TypeId), size := (2 : Nat), bytes := (16 : Nat),
                                              ty := Option.some (Go.Sx.Ty.arr (2 : Nat) (Go.Sx.Ty.int Go.IntKind.i64)),
                                              zero := [Go.Sx.SV.val (Go.Sx.Ty.int Go.IntKind.i64) (0 : Int), Go.Sx.SV.val (Go.Sx.Ty.int Go.IntKind.i64) (0 : Int)] : Go.Sx.TI }.bytes then
                                      if (0 : Int) ≤ v7.fst ∧ v7.fst ≤ (↑(List.length v7.snd.snd) : Int) then
                                        Option.some
                                          (Sum.inl
                                            (Go.IntKind.wrap Go.IntKind.i64 (s3.fst + (1 : Int)), v7.snd.1 ++ [[(List.getD v7.snd.2 (Int.toNat v7.fst) ((0 : Int), (0 : Int))).2, s3.1]],
                                              List.take (Int.toNat v7.fst) v7.snd.2))
                                      else Option.none
                                    else Option.none
                                  else Option.none
                                else Option.some (Sum.inl (Go.IntKind.wrap Go.IntKind.i64 (s3.fst + (1 : Int)), v7.snd.1, v7.snd.2))
                else Option.none
              else Option.bind (Go.Sx.K.f53F s3.snd.1) fun (v4 : List (List Int)) => Option.some (Sum.inr v4))
            p2)
        (fun (q2 : List (List Int)) => Option.some q2) v1)
    fun (v1 : List (List Int)) => Option.some v1
theorem K.f35eq : ∀ x, runFn K.C K.f35Γ K.f35sig K.f35ann Go.Proofs.Try.f35 x = K.f35F x := by
  intro x
  kernel_rfl
noncomputable def K.f35con : Con := ⟨35, K.f35sig, K.f35F⟩
theorem K.f35ok : Con.Ok Go.Proofs.Try.prog K.C K.f35con :=
  runFn_ok (Γ := K.f35Γ) (an := K.f35ann) ⟨K.Cok, (List.forall_mem_cons.2 ⟨K.otherok, (List.forall_mem_cons.2 ⟨K.f52ok, (List.forall_mem_cons.2 ⟨K.f53ok, (List.forall_mem_cons.2 ⟨K.f54ok, (fun _ h => nomatch h)⟩)⟩)⟩)⟩), K.mixed⟩ Go.Proofs.Try.func35 rfl rfl (fun x y h => (K.f35eq x).trans h) (by decide)
def K.f56sig : Sig := ⟨⟨[.hole (.sl (.int .i64))], []⟩, ⟨[.own 0], [.arr 3 (.int .i64)]⟩⟩
noncomputable def K.f56Γ : List Con := []
def K.f56ann : Ann :=
  (.seq .leaf (.seq (.seq .leaf (.cond (.seq .leaf .leaf) .leaf)) (.seq .leaf .leaf)))
/- slices.Clone[[]int,int] -/
noncomputable def K.f56F : List Int → Option (List Int) :=
  fun (x : List Int) =>
  if Nat.beq (List.length x) (0 : Nat) = Bool.true then
    Go.Sx.agree (Option.some [])
      (if
          Go.Sx.roomOk ((0 : Nat) + List.length x)
            { kind := Go.Sx.TK.int Go.IntKind.i64, size := (1 : Nat), bytes := (8 : Nat), ty := Option.some (Go.Sx.Ty.int Go.IntKind.i64),
                zero := [Go.Sx.SV.val (Go.Sx.Ty.int Go.IntKind.i64) (0 : Int)] : Go.Sx.TI }.bytes then
        Option.some ([] ++ x)
      else Option.none)
  else
    if
        Go.Sx.roomOk ((0 : Nat) + List.length x)
          { kind := Go.Sx.TK.int Go.IntKind.i64, size := (1 : Nat), bytes := (8 : Nat), ty := Option.some (Go.Sx.Ty.int Go.IntKind.i64),
              zero := [Go.Sx.SV.val (Go.Sx.Ty.int Go.IntKind.i64) (0 : Int)] : Go.Sx.TI }.bytes then
      Option.some ([] ++ x)
    else Option.none
theorem K.f56eq : ∀ x, runFn K.C K.f56Γ K.f56sig K.f56ann Go.Proofs.Try.f56 x = K.f56F x := by
  intro x
  kernel_rfl
noncomputable def K.f56con : Con := ⟨56, K.f56sig, K.f56F⟩
theorem K.f56ok : Con.Ok Go.Proofs.Try.prog K.C K.f56con :=
  runFn_ok (Γ := K.f56Γ) (an := K.f56ann) ⟨K.Cok, (fun _ h => nomatch h), K.mixed⟩ Go.Proofs.Try.func56 rfl rfl (fun x y h => (K.f56eq x).trans h) (by decide)
def K.f57sig : Sig := ⟨⟨[.hole (.int .i64)], []⟩, ⟨[.hole (.int .i64)], []⟩⟩
noncomputable def K.f57Γ : List Con := []
def K.f57ann : Ann :=
  (.seq .leaf (.seq (.seq .leaf (.cond (.seq .leaf .leaf) .leaf)) (.seq .leaf .leaf)))
/- ductus/seq.Dir -/
noncomputable def K.f57F : Int → Option (Int) :=
  fun (x : Int) =>
  if
      (Go.IntKind.wrap Go.IntKind.i64 (↑(BitVec.toNat (BitVec.ofInt (Go.IntKind.bits Go.IntKind.i64) x &&& BitVec.ofInt (Go.IntKind.bits Go.IntKind.i64) (1 : Int))) : Int) == (1 : Int)) =
        Bool.true then
    Option.some (1 : Int)
  else Option.some (0 : Int)
theorem K.f57eq : ∀ x, runFn K.C K.f57Γ K.f57sig K.f57ann Go.Proofs.Try.f57 x = K.f57F x := by
  intro x
  kernel_rfl
noncomputable def K.f57con : Con := ⟨57, K.f57sig, K.f57F⟩
theorem K.f57ok : Con.Ok Go.Proofs.Try.prog K.C K.f57con :=
  runFn_ok (Γ := K.f57Γ) (an := K.f57ann) ⟨K.Cok, (fun _ h => nomatch h), K.mixed⟩ Go.Proofs.Try.func57 rfl rfl (fun x y h => (K.f57eq x).trans h) (by decide)
def K.f37sig : Sig := ⟨⟨[.hole (.int .i64)], []⟩, ⟨[.hole (.int .i64)], []⟩⟩
noncomputable def K.f37Γ : List Con := []
def K.f37ann : Ann :=
  (.seq .leaf (.seq (.seq .leaf (.block (.seq .leaf (.cond (.seq .leaf .leaf) (.seq (.join [⟨.normal, [(6, .hole .bool)], []⟩] (.seq .leaf (.cond .leaf (.seq .leaf (.cond .leaf .leaf))))) (.cond (.seq .leaf .leaf) .leaf)))))) (.seq .leaf .leaf)))
/- ductus/brack.Side -/
noncomputable def K.f37F : Int → Option (Int) :=
  fun (x : Int) =>
  if (x == (0 : Int)) = Bool.true then Option.some (0 : Int)
  else
    Option.bind (if (x == (1 : Int)) = Bool.true then Option.some Bool.true else if (x == (3 : Int)) = Bool.true then Option.some Bool.true else Option.some (x == (6 : Int))) fun (v1 : Bool) =>
      if v1 = Bool.true then Option.some (1 : Int) else Option.some (-1 : Int)
theorem K.f37eq : ∀ x, runFn K.C K.f37Γ K.f37sig K.f37ann Go.Proofs.Try.f37 x = K.f37F x := by
  intro x
  kernel_rfl
noncomputable def K.f37con : Con := ⟨37, K.f37sig, K.f37F⟩
theorem K.f37ok : Con.Ok Go.Proofs.Try.prog K.C K.f37con :=
  runFn_ok (Γ := K.f37Γ) (an := K.f37ann) ⟨K.Cok, (fun _ h => nomatch h), K.mixed⟩ Go.Proofs.Try.func37 rfl rfl (fun x y h => (K.f37eq x).trans h) (by decide)
def K.s0sig : Sig := ⟨⟨[.own 0, .hole (.int .i64), .hole (.int .i64)], [.arr 3 (.int .i64)]⟩, ⟨[.hole .bool, .hole .bool], [.arr 3 (.int .i64)]⟩⟩
noncomputable def K.s0Γ : List Con := [K.f37con]
def K.s0ann : Ann :=
  (.seq .leaf (.seq .leaf (.seq (.seq .leaf (.block (.loop ⟨.normal, [(6, .hole .bool), (7, .hole .bool), (8, .hole (.int .i64))], [.arr 3 (.int .i64)]⟩ [⟨(.exit 0), [(6, .hole .bool), (7, .hole .bool)], [.arr 3 (.int .i64)]⟩] (.seq (.seq .leaf (.cond .leaf .leaf)) (.seq (.block (.seq .leaf (.block (.seq .leaf (.cond .leaf (.seq .leaf (.cond .leaf .leaf))))))) .leaf))))) (.seq .leaf .leaf))))
/- ductus/brack.Sides -/
noncomputable def K.s0F : Int × Int × List Int → Option (Bool × Bool × List Int) :=
  fun (x : Int × Int × List Int) =>
  Option.bind
    (Go.Sx.iter
      (fun (s1 : Bool × Bool × Int × List Int) =>
        if Decidable.decide (s1.snd.snd.fst < Go.Sx.minI x.snd.fst (↑(List.length x.snd.snd) : Int)) = Bool.true then
          if (0 : Int) ≤ s1.snd.snd.fst ∧ s1.snd.snd.fst < (↑(List.length s1.snd.snd.snd) : Int) then
            Option.bind (Go.Sx.K.f37F (List.getD s1.snd.snd.2 (Int.toNat s1.snd.snd.fst) (0 : Int))) fun (v2 : Int) =>
              if (v2 == (0 : Int)) = Bool.true then Option.some (Sum.inl (Bool.true, s1.snd.1, Go.IntKind.wrap Go.IntKind.i64 (s1.snd.snd.fst + (1 : Int)), s1.snd.snd.2))
              else
                if (v2 == (1 : Int)) = Bool.true then Option.some (Sum.inl (s1.1, Bool.true, Go.IntKind.wrap Go.IntKind.i64 (s1.snd.snd.fst + (1 : Int)), s1.snd.snd.2))
                else Option.some (Sum.inl (s1.1, s1.snd.1, Go.IntKind.wrap Go.IntKind.i64 (s1.snd.snd.fst + (1 : Int)), s1.snd.snd.2))
          else Option.none
        else Option.some (Sum.inr (s1.1, s1.snd.1, s1.snd.snd.2)))
      (Bool.false, Bool.false, if x.fst > (0 : Int) then x.fst else (0 : Int), x.snd.2))
    fun (v1 : Bool × Bool × List Int) => Option.some (v1.1, v1.snd.1, v1.snd.2)
theorem K.s0eq : ∀ x, runFn K.C K.s0Γ K.s0sig K.s0ann Go.Proofs.Try.f32 x = K.s0F x := by
  intro x
  kernel_rfl
noncomputable def K.s0con : Con := ⟨32, K.s0sig, K.s0F⟩
theorem K.s0ok : Con.Ok Go.Proofs.Try.prog K.C K.s0con :=
  runFn_ok (Γ := K.s0Γ) (an := K.s0ann) ⟨K.Cok, (List.forall_mem_cons.2 ⟨K.f37ok, (fun _ h => nomatch h)⟩), K.mixed⟩ Go.Proofs.Try.func32 rfl rfl (fun x y h => (K.s0eq x).trans h) (by decide)
def K.f77sig : Sig := ⟨⟨[.ro (.st (.pair (.sl (.int .i64)) (.pair (.sl (.int .i64)) (.pair (.int .i64) (.int .i64))))), .hole (.int .i64)], []⟩, ⟨[.hole (.int .i64)], []⟩⟩
noncomputable def K.f77Γ : List Con := [K.f37con]
def K.f77ann : Ann :=
  (.seq .leaf (.seq (.seq .leaf (.block (.loop ⟨.normal, [(1, .hole (.int .i64))], []⟩ [⟨(.exit 0), [], []⟩, ⟨.ret, [(4, .hole (.int .i64))], []⟩] (.seq (.seq .leaf (.cond .leaf .leaf)) (.seq (.block (.seq .leaf (.seq .leaf (.cond (.seq .leaf .leaf) .leaf)))) .leaf))))) (.seq .leaf .leaf)))
/- (*ductus/brack.text).ahead -/
noncomputable def K.f77F : (List Int × List Int × Int × Int) × Int → Option (Int) :=
  fun (x : (List Int × List Int × Int × Int) × Int) =>
  Option.bind
    (Go.Sx.iter
      (fun (s1 : Int) =>
        if Decidable.decide (s1 ≥ (0 : Int)) = Bool.true then
          if (0 : Int) ≤ s1 ∧ s1 < (↑(List.length x.fst.fst) : Int) then
            Option.bind (Go.Sx.K.f37F (List.getD x.fst.fst (Int.toNat s1) (0 : Int))) fun (v2 : Int) =>
              if (v2 != (-1 : Int)) = Bool.true then Option.some (Sum.inr (Sum.inr v2)) else Option.some (Sum.inl (Go.IntKind.wrap Go.IntKind.i64 (s1 - (1 : Int))))
          else Option.none
        else Option.some (Sum.inr (Sum.inl ())))
      (Go.IntKind.wrap Go.IntKind.i64 (x.snd - (1 : Int))))
    fun (v1 : PUnit ⊕ Int) => Sum.elim (fun (p2 : PUnit) => Option.some x.fst.snd.snd.2) (fun (q2 : Int) => Option.some q2) v1
theorem K.f77eq : ∀ x, runFn K.C K.f77Γ K.f77sig K.f77ann Go.Proofs.Try.f77 x = K.f77F x := by
  intro x
  kernel_rfl
noncomputable def K.f77con : Con := ⟨77, K.f77sig, K.f77F⟩
theorem K.f77ok : Con.Ok Go.Proofs.Try.prog K.C K.f77con :=
  runFn_ok (Γ := K.f77Γ) (an := K.f77ann) ⟨K.Cok, (List.forall_mem_cons.2 ⟨K.f37ok, (fun _ h => nomatch h)⟩), K.mixed⟩ Go.Proofs.Try.func77 rfl rfl (fun x y h => (K.f77eq x).trans h) (by decide)
def K.f58sig : Sig := ⟨⟨[.ptr 0 0, .hole (.arr 2 (.int .i64))], [.cells [.own 1, .hole (.sl (.int .i64)), .hole (.int .i64), .hole (.int .i64)], .arr 3 (.int .i64)]⟩, ⟨[.hole (.int .i64)], [.cells [.own 2, .hole (.sl (.int .i64)), .hole (.int .i64), .hole (.int .i64)], .gone, .arr 3 (.int .i64)]⟩⟩
noncomputable def K.f58Γ : List Con := [K.s0con, K.f77con]
def K.f58ann : Ann :=
  (.seq .leaf (.seq (.eff 3 [] [0, 1, 3, 7, 0, 16, 48, 0, 128, 511, 1023, 2047, 2047, 4095, 16383]) (.seq (.block (.seq (.join [⟨.normal, [(20, .hole .bool)], [.cells [.own 1, .hole (.sl (.int .i64)), .hole (.int .i64), .hole (.int .i64)], .arr 3 (.int .i64), .cells [.hole (.int .i64), .hole (.int .i64)]]⟩] .leaf) (.cond (.seq .leaf .leaf) (.seq (.join [⟨.normal, [(27, .hole .bool)], [.cells [.own 1, .hole (.sl (.int .i64)), .hole (.int .i64), .hole (.int .i64)], .arr 3 (.int .i64), .cells [.hole (.int .i64), .hole (.int .i64)]]⟩] (.seq (.join [⟨.normal, [(27, .hole .bool)], [.cells [.own 1, .hole (.sl (.int .i64)), .hole (.int .i64), .hole (.int .i64)], .arr 3 (.int .i64), .cells [.hole (.int .i64), .hole (.int .i64)]]⟩] .leaf) (.cond .leaf .leaf))) (.cond (.seq .leaf .leaf) .leaf))))) (.seq .leaf .leaf))))
/- (*ductus/brack.text).side -/
noncomputable def K.f58F : List Int × List Int × Int × Int × List Int → Option (Int × List Int × Int × Int × List Int) :=
  fun (x : List Int × List Int × Int × Int × List Int) =>
  if (0 : Int) ≤ (0 : Int) ∧ (0 : Int) < (↑(2 : Nat) : Int) then
    if (0 : Int) ≤ (1 : Int) ∧ (1 : Int) < (↑(2 : Nat) : Int) then
      Option.bind (Go.Sx.K.s0F (Go.IntKind.wrap Go.IntKind.i64 (List.getD x.fst (nat_lit 0) (0 : Int) + (1 : Int)), List.getD x.fst (nat_lit 1) (0 : Int), x.snd.snd.snd.2))
        fun (v1 : Bool × Bool × List Int) =>
        Option.bind
          (if (!v1.fst) = Bool.true then Option.some (!v1.snd.fst, x.snd.1, x.snd.snd.1, x.snd.snd.snd.1, v1.snd.2, List.getD x.fst (nat_lit 0) (0 : Int), List.getD x.fst (nat_lit 1) (0 : Int))
          else Option.some (Bool.false, x.snd.1, x.snd.snd.1, x.snd.snd.snd.1, v1.snd.2, List.getD x.fst (nat_lit 0) (0 : Int), List.getD x.fst (nat_lit 1) (0 : Int)))
          fun (v2 : Bool × List Int × Int × Int × List Int × Int × Int) =>
          if v2.fst = Bool.true then Option.some ((-1 : Int), v2.snd.1, v2.snd.snd.1, v2.snd.snd.snd.1, v2.snd.snd.snd.snd.1)
          else
            Option.bind
              (Option.bind
                (if v1.fst = Bool.true then
                  Option.some (v2.snd.snd.fst == (0 : Int), v2.snd.1, v2.snd.snd.1, v2.snd.snd.snd.1, v2.snd.snd.snd.snd.1, v2.snd.snd.snd.snd.snd.1, v2.snd.snd.snd.snd.snd.2)
                else Option.some (Bool.false, v2.snd.1, v2.snd.snd.1, v2.snd.snd.snd.1, v2.snd.snd.snd.snd.1, v2.snd.snd.snd.snd.snd.1, v2.snd.snd.snd.snd.snd.2))
                fun (v3 : Bool × List Int × Int × Int × List Int × Int × Int) =>
                if v3.fst = Bool.true then Option.some (Bool.true, v3.snd.1, v3.snd.snd.1, v3.snd.snd.snd.1, v3.snd.snd.snd.snd.1, v3.snd.snd.snd.snd.snd.1, v3.snd.snd.snd.snd.snd.2)
                else
                  if v1.snd.fst = Bool.true then
                    Option.some (v3.snd.snd.fst == (1 : Int), v3.snd.1, v3.snd.snd.1, v3.snd.snd.snd.1, v3.snd.snd.snd.snd.1, v3.snd.snd.snd.snd.snd.1, v3.snd.snd.snd.snd.snd.2)
                  else Option.some (Bool.false, v3.snd.1, v3.snd.snd.1, v3.snd.snd.snd.1, v3.snd.snd.snd.snd.1, v3.snd.snd.snd.snd.snd.1, v3.snd.snd.snd.snd.snd.2))
              fun (v3 : Bool × List Int × Int × Int × List Int × Int × Int) =>
              if v3.fst = Bool.true then Option.some (v3.snd.snd.1, v3.snd.1, v3.snd.snd.1, v3.snd.snd.snd.1, v3.snd.snd.snd.snd.1)
              else
                if (0 : Int) ≤ (0 : Int) ∧ (0 : Int) < (↑(2 : Nat) : Int) then
                  Option.bind (Go.Sx.K.f77F ((v3.snd.snd.snd.snd.1, v3.snd.1, v3.snd.snd.1, v3.snd.snd.snd.1), v3.snd.snd.snd.snd.snd.1)) fun (v4 : Int) =>
                    Option.some (v4, v3.snd.1, v3.snd.snd.1, v3.snd.snd.snd.1, v3.snd.snd.snd.snd.1)
                else Option.none
    else Option.none
  else Option.none
theorem K.f58eq : ∀ x, runFn K.C K.f58Γ K.f58sig K.f58ann Go.Proofs.Try.f58 x = K.f58F x := by
  intro x
  kernel_rfl
noncomputable def K.f58con : Con := ⟨58, K.f58sig, K.f58F⟩
theorem K.f58ok : Con.Ok Go.Proofs.Try.prog K.C K.f58con :=
  runFn_ok (Γ := K.f58Γ) (an := K.f58ann) ⟨K.Cok, (List.forall_mem_cons.2 ⟨K.s0ok, (List.forall_mem_cons.2 ⟨K.f77ok, (fun _ h => nomatch h)⟩)⟩), K.mixed⟩ Go.Proofs.Try.func58 rfl rfl (fun x y h => (K.f58eq x).trans h) (by decide)
def K.f59sig : Sig := ⟨⟨[.ptr 0 0, .hole (.int .i64), .hole (.int .i64)], [.cells [.own 1, .hole (.sl (.int .i64)), .hole (.int .i64), .hole (.int .i64)], .arr 3 (.int .i64)]⟩, ⟨[], [.cells [.own 2, .hole (.sl (.int .i64)), .hole (.int .i64), .hole (.int .i64)], .gone, .arr 3 (.int .i64)]⟩⟩
noncomputable def K.f59Γ : List Con := []
def K.f59ann : Ann :=
  (.seq .leaf (.seq .leaf (.block (.loop ⟨.normal, [(1, .hole (.int .i64))], [.cells [.own 1, .hole (.sl (.int .i64)), .hole (.int .i64), .hole (.int .i64)], .arr 3 (.int .i64)]⟩ [⟨(.exit 0), [], [.cells [.own 1, .hole (.sl (.int .i64)), .hole (.int .i64), .hole (.int .i64)], .arr 3 (.int .i64)]⟩] (.seq (.seq (.join [⟨.normal, [(31, .hole .bool)], [.cells [.own 1, .hole (.sl (.int .i64)), .hole (.int .i64), .hole (.int .i64)], .arr 3 (.int .i64)]⟩] .leaf) (.cond .leaf .leaf)) (.seq (.block .leaf) .leaf))))))
/- (*ductus/brack.text).turn -/
noncomputable def K.f59F : Int × Int × List Int × Int × Int × List Int → Option (List Int × Int × Int × List Int) :=
  fun (x : Int × Int × List Int × Int × Int × List Int) =>
  if (0 : Int) ≤ x.fst ∧ x.fst < (↑(List.length x.snd.snd.snd.snd.snd) : Int) then
    Option.bind
      (Go.Sx.iter
        (fun (s1 : Int × List Int × Int × Int × List Int) =>
          Option.bind
            (if Decidable.decide (s1.fst < (↑(List.length s1.snd.snd.snd.snd) : Int)) = Bool.true then
              if (0 : Int) ≤ s1.fst ∧ s1.fst < (↑(List.length s1.snd.fst) : Int) then
                Option.some (List.getD s1.snd.fst (Int.toNat s1.fst) (0 : Int) == (8 : Int), s1.snd.1, s1.snd.snd.1, s1.snd.snd.snd.1, s1.snd.snd.snd.2)
              else Option.none
            else Option.some (Bool.false, s1.snd.1, s1.snd.snd.1, s1.snd.snd.snd.1, s1.snd.snd.snd.2))
            fun (v2 : Bool × List Int × Int × Int × List Int) =>
            if v2.fst = Bool.true then
              if (0 : Int) ≤ s1.fst ∧ s1.fst < (↑(List.length v2.snd.snd.snd.snd) : Int) then
                Option.some (Sum.inl (Go.IntKind.wrap Go.IntKind.i64 (s1.fst + (1 : Int)), v2.snd.1, v2.snd.snd.1, v2.snd.snd.snd.1, List.set v2.snd.snd.snd.2 (Int.toNat s1.fst) x.snd.1))
              else Option.none
            else Option.some (Sum.inr (v2.snd.1, v2.snd.snd.1, v2.snd.snd.snd.1, v2.snd.snd.snd.2)))
        (Go.IntKind.wrap Go.IntKind.i64 (x.fst + (1 : Int)), x.snd.snd.1, x.snd.snd.snd.1, x.snd.snd.snd.snd.1, List.set x.snd.snd.snd.snd.2 (Int.toNat x.fst) x.snd.1))
      fun (v1 : List Int × Int × Int × List Int) => Option.some (v1.1, v1.snd.1, v1.snd.snd.1, v1.snd.snd.2)
  else Option.none
theorem K.f59eq : ∀ x, runFn K.C K.f59Γ K.f59sig K.f59ann Go.Proofs.Try.f59 x = K.f59F x := by
  intro x
  kernel_rfl
noncomputable def K.f59con : Con := ⟨59, K.f59sig, K.f59F⟩
theorem K.f59ok : Con.Ok Go.Proofs.Try.prog K.C K.f59con :=
  runFn_ok (Γ := K.f59Γ) (an := K.f59ann) ⟨K.Cok, (fun _ h => nomatch h), K.mixed⟩ Go.Proofs.Try.func59 rfl rfl (fun x y h => (K.f59eq x).trans h) (by decide)
def K.f39sig : Sig := ⟨⟨[.hole (.sl (.int .i64)), .hole (.sl (.int .i64)), .hole (.sl (.int .i64)), .hole (.int .i64), .hole (.int .i64)], []⟩, ⟨[.hole (.sl (.int .i64))], []⟩⟩
noncomputable def K.f39Γ : List Con := [K.f56con, K.f57con, K.f35con, K.f58con, K.f59con]
def K.f39ann : Ann :=
  (.seq .leaf (.seq .leaf (.seq (.seq (.join [⟨.normal, [(33, .hole .bool)], [.arr 3 (.int .i64), .cells [.own 0, .hole (.sl (.int .i64)), .hole (.int .i64), .hole (.int .i64)]]⟩] .leaf) (.cond (.seq .leaf .leaf) .leaf)) (.seq (.join [⟨.normal, [], [.arr 3 (.int .i64), .cells [.own 0, .hole (.sl (.int .i64)), .hole (.int .i64), .hole (.int .i64)]]⟩] (.seq .leaf (.cond .leaf .leaf))) (.seq (.seq .leaf (.block (.loop ⟨.normal, [(47, .hole (.int .i64))], [.gone, .cells [.own 2, .hole (.sl (.int .i64)), .hole (.int .i64), .hole (.int .i64)], .arr 3 (.int .i64)]⟩ [⟨(.exit 0), [], [.gone, .cells [.own 2, .hole (.sl (.int .i64)), .hole (.int .i64), .hole (.int .i64)], .arr 3 (.int .i64)]⟩] (.seq .leaf (.seq (.cond .leaf .leaf) (.seq (.block (.seq .leaf (.seq .leaf (.seq .leaf (.cond (.seq .leaf .leaf) .leaf))))) .leaf)))))) (.seq .leaf .leaf))))))
/- ductus/brack.Of -/
noncomputable def K.f39F : List Int × List Int × List Int × Int × Int → Option (List Int) :=
  fun (x : List Int × List Int × List Int × Int × Int) =>
  Option.bind (Go.Sx.K.f56F x.snd.1) fun (v1 : List Int) =>
    Option.bind (Go.Sx.K.f57F x.snd.snd.snd.1) fun (v2 : Int) =>
      Option.bind
        (if ((↑(List.length x.fst) : Int) != (↑(List.length x.snd.fst) : Int)) = Bool.true then Option.some (Bool.true, v1, x.snd.snd.1, v2, (0 : Int))
        else Option.some ((↑(List.length x.snd.snd.fst) : Int) != (↑(List.length x.snd.fst) : Int), v1, x.snd.snd.1, v2, (0 : Int)))
        fun (v3 : Bool × List Int × List Int × Int × Int) =>
        if v3.fst = Bool.true then Option.some v3.snd.1
        else
          Option.bind
            (if (x.snd.snd.snd.snd == (1 : Int)) = Bool.true then Option.some (v3.snd.1, v3.snd.snd.1, v3.snd.snd.snd.1, (1 : Int))
            else Option.some (v3.snd.1, v3.snd.snd.1, v3.snd.snd.snd.1, v3.snd.snd.snd.2))
            fun (v4 : List Int × List Int × Int × Int) =>
            Option.bind (Go.Sx.K.f35F (x.1, x.snd.1)) fun (v5 : List (List Int)) =>
              Option.bind
                (Go.Sx.iter
                  (fun (s6 : Int × List Int × Int × Int × List Int) =>
                    if Decidable.decide (s6.fst < (↑(List.length v5) : Int)) = Bool.true then
                      if (0 : Int) ≤ s6.fst ∧ s6.fst < (↑(List.length v5) : Int) then
                        Option.bind
                          (Go.Sx.K.f58F
                            ([List.getD (List.getD v5 (Int.toNat s6.fst) (List.replicate (2 : Nat) (0 : Int))) (nat_lit 0) (0 : Int),
                                List.getD (List.getD v5 (Int.toNat s6.fst) (List.replicate (2 : Nat) (0 : Int))) (nat_lit 1) (0 : Int)],
                              s6.snd.1, s6.snd.snd.1, s6.snd.snd.snd.1, s6.snd.snd.snd.2))
                          fun (v7 : Int × List Int × Int × Int × List Int) =>
                          if (v7.fst != (-1 : Int)) = Bool.true then
                            if (0 : Int) ≤ (0 : Int) ∧ (0 : Int) < (↑(2 : Nat) : Int) then
                              Option.bind
                                (Go.Sx.K.f59F
                                  (List.getD (List.getD v5 (Int.toNat s6.fst) (List.replicate (2 : Nat) (0 : Int))) (nat_lit 0) (0 : Int), v7.1, v7.snd.1, v7.snd.snd.1, v7.snd.snd.snd.1,
                                    v7.snd.snd.snd.2))
                                fun (v8 : List Int × Int × Int × List Int) =>
                                if (0 : Int) ≤ (1 : Int) ∧ (1 : Int) < (↑(2 : Nat) : Int) then
                                  Option.bind
                                    (Go.Sx.K.f59F
                                      (List.getD (List.getD v5 (Int.toNat s6.fst) (List.replicate (2 : Nat) (0 : Int))) (nat_lit 1) (0 : Int), v7.1, v8.1, v8.snd.1, v8.snd.snd.1, v8.snd.snd.2))
                                    fun (v9 : List Int × Int × Int × List Int) =>
                                    Option.some (Sum.inl (Go.IntKind.wrap Go.IntKind.i64 (s6.fst + (1 : Int)), v9.1, v9.snd.1, v9.snd.snd.1, v9.snd.snd.2))
                                else Option.none
                            else Option.none
                          else Option.some (Sum.inl (Go.IntKind.wrap Go.IntKind.i64 (s6.fst + (1 : Int)), v7.snd.1, v7.snd.snd.1, v7.snd.snd.snd.1, v7.snd.snd.snd.2))
                      else Option.none
                    else Option.some (Sum.inr (s6.snd.1, s6.snd.snd.1, s6.snd.snd.snd.1, s6.snd.snd.snd.2)))
                  ((0 : Int), v4.snd.1, v4.snd.snd.1, v4.snd.snd.2, v4.1))
                fun (v6 : List Int × Int × Int × List Int) => Option.some v6.snd.snd.2
theorem K.f39eq : ∀ x, runFn K.C K.f39Γ K.f39sig K.f39ann Go.Proofs.Try.f39 x = K.f39F x := by
  intro x
  kernel_rfl
noncomputable def K.f39con : Con := ⟨39, K.f39sig, K.f39F⟩
theorem K.f39ok : Con.Ok Go.Proofs.Try.prog K.C K.f39con :=
  runFn_ok (Γ := K.f39Γ) (an := K.f39ann) ⟨K.Cok, (List.forall_mem_cons.2 ⟨K.f56ok, (List.forall_mem_cons.2 ⟨K.f57ok, (List.forall_mem_cons.2 ⟨K.f35ok, (List.forall_mem_cons.2 ⟨K.f58ok, (List.forall_mem_cons.2 ⟨K.f59ok, (fun _ h => nomatch h)⟩)⟩)⟩)⟩)⟩), K.mixed⟩ Go.Proofs.Try.func39 rfl rfl (fun x y h => (K.f39eq x).trans h) (by decide)
def K.f32sig : Sig := ⟨⟨[.hole (.sl (.int .i64)), .hole (.int .i64), .hole (.int .i64)], []⟩, ⟨[.hole .bool, .hole .bool], []⟩⟩
noncomputable def K.f32Γ : List Con := [K.f37con]
def K.f32ann : Ann :=
  (.seq .leaf (.seq .leaf (.seq (.seq .leaf (.block (.loop ⟨.normal, [(6, .hole .bool), (7, .hole .bool), (8, .hole (.int .i64))], []⟩ [⟨(.exit 0), [(6, .hole .bool), (7, .hole .bool)], []⟩] (.seq (.seq .leaf (.cond .leaf .leaf)) (.seq (.block (.seq .leaf (.block (.seq .leaf (.cond .leaf (.seq .leaf (.cond .leaf .leaf))))))) .leaf))))) (.seq .leaf .leaf))))
/- ductus/brack.Sides -/
noncomputable def K.f32F : List Int × Int × Int → Option (Bool × Bool) :=
  fun (x : List Int × Int × Int) =>
  Option.bind
    (Go.Sx.iter
      (fun (s1 : Bool × Bool × Int) =>
        if Decidable.decide (s1.snd.snd < Go.Sx.minI x.snd.snd (↑(List.length x.fst) : Int)) = Bool.true then
          if (0 : Int) ≤ s1.snd.snd ∧ s1.snd.snd < (↑(List.length x.fst) : Int) then
            Option.bind (Go.Sx.K.f37F (List.getD x.fst (Int.toNat s1.snd.snd) (0 : Int))) fun (v2 : Int) =>
              if (v2 == (0 : Int)) = Bool.true then Option.some (Sum.inl (Bool.true, s1.snd.1, Go.IntKind.wrap Go.IntKind.i64 (s1.snd.snd + (1 : Int))))
              else
                if (v2 == (1 : Int)) = Bool.true then Option.some (Sum.inl (s1.1, Bool.true, Go.IntKind.wrap Go.IntKind.i64 (s1.snd.snd + (1 : Int))))
                else Option.some (Sum.inl (s1.1, s1.snd.1, Go.IntKind.wrap Go.IntKind.i64 (s1.snd.snd + (1 : Int))))
          else Option.none
        else Option.some (Sum.inr (s1.1, s1.snd.1)))
      (Bool.false, Bool.false, if x.snd.fst > (0 : Int) then x.snd.fst else (0 : Int)))
    fun (v1 : Bool × Bool) => Option.some (v1.1, v1.2)
theorem K.f32eq : ∀ x, runFn K.C K.f32Γ K.f32sig K.f32ann Go.Proofs.Try.f32 x = K.f32F x := by
  intro x
  kernel_rfl
noncomputable def K.f32con : Con := ⟨32, K.f32sig, K.f32F⟩
theorem K.f32ok : Con.Ok Go.Proofs.Try.prog K.C K.f32con :=
  runFn_ok (Γ := K.f32Γ) (an := K.f32ann) ⟨K.Cok, (List.forall_mem_cons.2 ⟨K.f37ok, (fun _ h => nomatch h)⟩), K.mixed⟩ Go.Proofs.Try.func32 rfl rfl (fun x y h => (K.f32eq x).trans h) (by decide)
def K.f24sig : Sig := ⟨⟨[.hole (.sl (.int .i64)), .hole (.sl (.int .i64))], []⟩, ⟨[.hole .bool], []⟩⟩
noncomputable def K.f24Γ : List Con := []
def K.f24ann : Ann :=
  (.seq .leaf (.seq (.seq .leaf (.cond (.seq .leaf .leaf) .leaf)) (.seq (.seq .leaf (.block (.loop ⟨.normal, [(5, .hole (.int .i64))], []⟩ [⟨(.exit 0), [], []⟩, ⟨.ret, [(4, .hole .bool)], []⟩] (.seq (.seq .leaf (.cond .leaf .leaf)) (.seq (.block (.seq .leaf (.cond (.seq .leaf .leaf) .leaf))) .leaf))))) (.seq .leaf .leaf))))
/- ductus/ductusref01.Ints -/
noncomputable def K.f24F : List Int × List Int → Option (Bool) :=
  fun (x : List Int × List Int) =>
  if ((↑(List.length x.fst) : Int) != (↑(List.length x.snd) : Int)) = Bool.true then Option.some Bool.false
  else
    Option.bind
      (Go.Sx.iter
        (fun (s1 : Int) =>
          if Decidable.decide (s1 < (↑(List.length x.fst) : Int)) = Bool.true then
            if (0 : Int) ≤ s1 ∧ s1 < (↑(List.length x.fst) : Int) then
              if (0 : Int) ≤ s1 ∧ s1 < (↑(List.length x.snd) : Int) then
                if (List.getD x.fst (Int.toNat s1) (0 : Int) != List.getD x.snd (Int.toNat s1) (0 : Int)) = Bool.true then Option.some (Sum.inr (Sum.inr Bool.false))
                else Option.some (Sum.inl (Go.IntKind.wrap Go.IntKind.i64 (s1 + (1 : Int))))
              else Option.none
            else Option.none
          else Option.some (Sum.inr (Sum.inl ())))
        (0 : Int))
      fun (v1 : PUnit ⊕ Bool) => Sum.elim (fun (p2 : PUnit) => Option.some Bool.true) (fun (q2 : Bool) => Option.some q2) v1
theorem K.f24eq : ∀ x, runFn K.C K.f24Γ K.f24sig K.f24ann Go.Proofs.Try.f24 x = K.f24F x := by
  intro x
  kernel_rfl
noncomputable def K.f24con : Con := ⟨24, K.f24sig, K.f24F⟩
theorem K.f24ok : Con.Ok Go.Proofs.Try.prog K.C K.f24con :=
  runFn_ok (Γ := K.f24Γ) (an := K.f24ann) ⟨K.Cok, (fun _ h => nomatch h), K.mixed⟩ Go.Proofs.Try.func24 rfl rfl (fun x y h => (K.f24eq x).trans h) (by decide)
def K.f31sig : Sig := ⟨⟨[], []⟩, ⟨[.hole .bool], []⟩⟩
noncomputable def K.f31Γ : List Con := [K.f35con, K.f39con, K.f32con, K.f24con, K.f37con]
def K.f31ann : Ann :=
  (.seq .leaf (.seq .leaf (.seq .leaf (.seq .leaf (.seq .leaf (.seq .leaf (.seq .leaf .leaf)))))))
/- ductus/ductuslaw10.alive -/
noncomputable def K.f31F : PUnit → Option (Bool) :=
  fun (x : PUnit) =>
  Option.bind (Go.Sx.K.f35F ([(97 : Int), (40 : Int), (98 : Int), (41 : Int), (91 : Int), (1488 : Int), (93 : Int)], [(0 : Int), (13 : Int), (0 : Int), (13 : Int), (13 : Int), (1 : Int), (13 : Int)]))
    fun (v1 : List (List Int)) =>
    Option.bind
      (Go.Sx.K.f39F
        ([(97 : Int), (40 : Int), (98 : Int), (41 : Int), (91 : Int), (1488 : Int), (93 : Int)], [(0 : Int), (13 : Int), (0 : Int), (13 : Int), (13 : Int), (1 : Int), (13 : Int)],
          [(0 : Int), (13 : Int), (0 : Int), (13 : Int), (13 : Int), (1 : Int), (13 : Int)], (1 : Int), (1 : Int)))
      fun (v2 : List Int) =>
      Option.bind (Go.Sx.K.f32F ([(0 : Int), (13 : Int), (0 : Int), (13 : Int), (13 : Int), (1 : Int), (13 : Int)], (1 : Int), (4 : Int))) fun (v3 : Bool × Bool) =>
        if ((↑(List.length v1) : Int) == (2 : Int)) = Bool.true then
          if (0 : Int) ≤ (0 : Int) ∧ (0 : Int) < (↑(List.length v1) : Int) then
            if Go.Sx.Ty.eqb (Go.Sx.Ty.arr (2 : Nat) (Go.Sx.Ty.int Go.IntKind.i64)) (List.getD v1 (Int.toNat (0 : Int)) (List.replicate (2 : Nat) (0 : Int))) [(1 : Int), (3 : Int)] = Bool.true then
              if (0 : Int) ≤ (1 : Int) ∧ (1 : Int) < (↑(List.length v1) : Int) then
                if Go.Sx.Ty.eqb (Go.Sx.Ty.arr (2 : Nat) (Go.Sx.Ty.int Go.IntKind.i64)) (List.getD v1 (Int.toNat (1 : Int)) (List.replicate (2 : Nat) (0 : Int))) [(4 : Int), (6 : Int)] = Bool.true then
                  Option.bind (Go.Sx.K.f24F (v2, [(0 : Int), (0 : Int), (0 : Int), (0 : Int), (1 : Int), (1 : Int), (1 : Int)])) fun (v4 : Bool) =>
                    if v4 = Bool.true then
                      if v3.fst = Bool.true then
                        if (!v3.snd) = Bool.true then
                          Option.bind (Go.Sx.K.f37F (6 : Int)) fun (v5 : Int) =>
                            if (v5 == (1 : Int)) = Bool.true then Option.bind (Go.Sx.K.f37F (13 : Int)) fun (v6 : Int) => Option.some (v6 == (-1 : Int)) else Option.some Bool.false
                        else Option.some Bool.false
                      else Option.some Bool.false
                    else Option.some Bool.false
                else Option.some Bool.false
              else Option.none
            else Option.some Bool.false
          else Option.none
        else Option.some Bool.false
theorem K.f31eq : ∀ x, runFn K.C K.f31Γ K.f31sig K.f31ann Go.Proofs.Try.f31 x = K.f31F x := by
  intro x
  kernel_rfl
noncomputable def K.f31con : Con := ⟨31, K.f31sig, K.f31F⟩
theorem K.f31ok : Con.Ok Go.Proofs.Try.prog K.C K.f31con :=
  runFn_ok (Γ := K.f31Γ) (an := K.f31ann) ⟨K.Cok, (List.forall_mem_cons.2 ⟨K.f35ok, (List.forall_mem_cons.2 ⟨K.f39ok, (List.forall_mem_cons.2 ⟨K.f32ok, (List.forall_mem_cons.2 ⟨K.f24ok, (List.forall_mem_cons.2 ⟨K.f37ok, (fun _ h => nomatch h)⟩)⟩)⟩)⟩)⟩), K.mixed⟩ Go.Proofs.Try.func31 rfl rfl (fun x y h => (K.f31eq x).trans h) (by decide)
def K.f38sig : Sig := ⟨⟨[.hole (.int .i64)], []⟩, ⟨[.hole (.int .i64)], []⟩⟩
noncomputable def K.f38Γ : List Con := []
def K.f38ann : Ann :=
  (.seq .leaf (.seq (.seq .leaf (.block (.seq .leaf (.cond (.seq .leaf .leaf) (.seq (.join [⟨.normal, [(6, .hole .bool)], []⟩] (.seq .leaf (.cond .leaf (.seq .leaf (.cond .leaf .leaf))))) (.cond (.seq .leaf .leaf) .leaf)))))) (.seq .leaf .leaf)))
/- ductus/ductusref10.Side -/
noncomputable def K.f38F : Int → Option (Int) :=
  fun (x : Int) =>
  if (x == (0 : Int)) = Bool.true then Option.some (0 : Int)
  else
    Option.bind (if (x == (1 : Int)) = Bool.true then Option.some Bool.true else if (x == (3 : Int)) = Bool.true then Option.some Bool.true else Option.some (x == (6 : Int))) fun (v1 : Bool) =>
      if v1 = Bool.true then Option.some (1 : Int) else Option.some (-1 : Int)
theorem K.f38eq : ∀ x, runFn K.C K.f38Γ K.f38sig K.f38ann Go.Proofs.Try.f38 x = K.f38F x := by
  intro x
  kernel_rfl
noncomputable def K.f38con : Con := ⟨38, K.f38sig, K.f38F⟩
theorem K.f38ok : Con.Ok Go.Proofs.Try.prog K.C K.f38con :=
  runFn_ok (Γ := K.f38Γ) (an := K.f38ann) ⟨K.Cok, (fun _ h => nomatch h), K.mixed⟩ Go.Proofs.Try.func38 rfl rfl (fun x y h => (K.f38eq x).trans h) (by decide)
def K.f33sig : Sig := ⟨⟨[.hole (.sl (.int .i64)), .hole (.int .i64), .hole (.int .i64)], []⟩, ⟨[.hole .bool, .hole .bool], []⟩⟩
noncomputable def K.f33Γ : List Con := [K.f38con]
def K.f33ann : Ann :=
  (.seq .leaf (.seq .leaf (.seq (.seq .leaf (.block (.loop ⟨.normal, [(8, .hole .bool), (9, .hole .bool), (10, .hole (.int .i64))], []⟩ [⟨(.exit 0), [(8, .hole .bool), (9, .hole .bool)], []⟩] (.seq (.seq .leaf (.cond .leaf .leaf)) (.seq (.block (.seq (.join [⟨.normal, [(8, .hole .bool)], []⟩] .leaf) .leaf)) .leaf))))) (.seq .leaf .leaf))))
/- ductus/ductusref10.Sides -/
noncomputable def K.f33F : List Int × Int × Int → Option (Bool × Bool) :=
  fun (x : List Int × Int × Int) =>
  Option.bind
    (Go.Sx.iter
      (fun (s1 : Bool × Bool × Int) =>
        if Decidable.decide (s1.snd.snd < Go.Sx.minI x.snd.snd (↑(List.length x.fst) : Int)) = Bool.true then
          Option.bind
            (if s1.fst = Bool.true then Option.some Bool.true
            else
              if (0 : Int) ≤ s1.snd.snd ∧ s1.snd.snd < (↑(List.length x.fst) : Int) then
                Option.bind (Go.Sx.K.f38F (List.getD x.fst (Int.toNat s1.snd.snd) (0 : Int))) fun (v2 : Int) => Option.some (v2 == (0 : Int))
              else Option.none)
            fun (v2 : Bool) =>
            if s1.snd.fst = Bool.true then Option.some (Sum.inl (v2, Bool.true, Go.IntKind.wrap Go.IntKind.i64 (s1.snd.snd + (1 : Int))))
            else
              if (0 : Int) ≤ s1.snd.snd ∧ s1.snd.snd < (↑(List.length x.fst) : Int) then
                Option.bind (Go.Sx.K.f38F (List.getD x.fst (Int.toNat s1.snd.snd) (0 : Int))) fun (v3 : Int) =>
                  Option.some (Sum.inl (v2, v3 == (1 : Int), Go.IntKind.wrap Go.IntKind.i64 (s1.snd.snd + (1 : Int))))
              else Option.none
        else Option.some (Sum.inr (s1.1, s1.snd.1)))
      (Bool.false, Bool.false, if x.snd.fst > (0 : Int) then x.snd.fst else (0 : Int)))
    fun (v1 : Bool × Bool) => Option.some (v1.1, v1.2)
theorem K.f33eq : ∀ x, runFn K.C K.f33Γ K.f33sig K.f33ann Go.Proofs.Try.f33 x = K.f33F x := by
  intro x
  kernel_rfl
noncomputable def K.f33con : Con := ⟨33, K.f33sig, K.f33F⟩
theorem K.f33ok : Con.Ok Go.Proofs.Try.prog K.C K.f33con :=
  runFn_ok (Γ := K.f33Γ) (an := K.f33ann) ⟨K.Cok, (List.forall_mem_cons.2 ⟨K.f38ok, (fun _ h => nomatch h)⟩), K.mixed⟩ Go.Proofs.Try.func33 rfl rfl (fun x y h => (K.f33eq x).trans h) (by decide)
def K.f62sig : Sig := ⟨⟨[], []⟩, ⟨[.hole (.sl (.int .i64))], []⟩⟩
noncomputable def K.f62Γ : List Con := []
def K.f62ann : Ann :=
  (.seq .leaf (.seq .leaf .leaf))
/- ductus/ductusref03.brackets -/
noncomputable def K.f62F : PUnit → Option (List Int) :=
  fun (x : PUnit) =>
  Option.some
    [(40 : Int), (41 : Int), (91 : Int), (93 : Int), (123 : Int), (125 : Int), (9001 : Int), (9002 : Int), (12296 : Int), (12297 : Int), (12298 : Int), (12299 : Int), (12300 : Int), (12301 : Int),
      (12302 : Int), (12303 : Int), (12304 : Int), (12305 : Int)]
theorem K.f62eq : ∀ x, runFn K.C K.f62Γ K.f62sig K.f62ann Go.Proofs.Try.f62 x = K.f62F x := by
  intro x
  kernel_rfl
noncomputable def K.f62con : Con := ⟨62, K.f62sig, K.f62F⟩
theorem K.f62ok : Con.Ok Go.Proofs.Try.prog K.C K.f62con :=
  runFn_ok (Γ := K.f62Γ) (an := K.f62ann) ⟨K.Cok, (fun _ h => nomatch h), K.mixed⟩ Go.Proofs.Try.func62 rfl rfl (fun x y h => (K.f62eq x).trans h) (by decide)
def K.f41sig : Sig := ⟨⟨[.hole (.int .i64)], []⟩, ⟨[.hole (.int .i64), .hole .bool, .hole .bool], []⟩⟩
noncomputable def K.f41Γ : List Con := [K.f62con]
def K.f41ann : Ann :=
  (.seq .leaf (.seq .leaf (.seq (.seq .leaf (.block (.loop ⟨.normal, [(6, .hole (.int .i64))], []⟩ [⟨(.exit 0), [], []⟩, ⟨.ret, [(2, .hole (.int .i64)), (3, .hole .bool), (4, .hole .bool)], []⟩] (.seq (.seq .leaf (.cond .leaf .leaf)) (.seq (.block (.seq (.seq .leaf (.cond (.seq .leaf .leaf) .leaf)) (.seq .leaf (.cond (.seq .leaf .leaf) .leaf)))) .leaf))))) (.seq .leaf .leaf))))
/- ductus/ductusref03.Other -/
noncomputable def K.f41F : Int → Option (Int × Bool × Bool) :=
  fun (x : Int) =>
  Option.bind (Go.Sx.K.f62F ()) fun (v1 : List Int) =>
    Option.bind
      (Go.Sx.iter
        (fun (s2 : Int) =>
          if Decidable.decide (s2 < (↑(List.length v1) : Int)) = Bool.true then
            if (0 : Int) ≤ s2 ∧ s2 < (↑(List.length v1) : Int) then
              if (List.getD v1 (Int.toNat s2) (0 : Int) == x) = Bool.true then
                if (0 : Int) ≤ Go.IntKind.wrap Go.IntKind.i64 (s2 + (1 : Int)) ∧ Go.IntKind.wrap Go.IntKind.i64 (s2 + (1 : Int)) < (↑(List.length v1) : Int) then
                  Option.some (Sum.inr (Sum.inr (List.getD v1 (Int.toNat (Go.IntKind.wrap Go.IntKind.i64 (s2 + (1 : Int)))) (0 : Int), Bool.true, Bool.true)))
                else Option.none
              else
                if (0 : Int) ≤ Go.IntKind.wrap Go.IntKind.i64 (s2 + (1 : Int)) ∧ Go.IntKind.wrap Go.IntKind.i64 (s2 + (1 : Int)) < (↑(List.length v1) : Int) then
                  if (List.getD v1 (Int.toNat (Go.IntKind.wrap Go.IntKind.i64 (s2 + (1 : Int)))) (0 : Int) == x) = Bool.true then
                    if (0 : Int) ≤ s2 ∧ s2 < (↑(List.length v1) : Int) then Option.some (Sum.inr (Sum.inr (List.getD v1 (Int.toNat s2) (0 : Int), Bool.false, Bool.true))) else Option.none
                  else Option.some (Sum.inl (Go.IntKind.wrap Go.IntKind.i64 (s2 + (2 : Int))))
                else Option.none
            else Option.none
          else Option.some (Sum.inr (Sum.inl ())))
        (0 : Int))
      fun (v2 : PUnit ⊕ Int × Bool × Bool) => Sum.elim (fun (p3 : PUnit) => Option.some ((0 : Int), Bool.false, Bool.false)) (fun (q3 : Int × Bool × Bool) => Option.some (q3.1, q3.snd.1, q3.snd.2)) v2
theorem K.f41eq : ∀ x, runFn K.C K.f41Γ K.f41sig K.f41ann Go.Proofs.Try.f41 x = K.f41F x := by
  intro x
  kernel_rfl
noncomputable def K.f41con : Con := ⟨41, K.f41sig, K.f41F⟩
theorem K.f41ok : Con.Ok Go.Proofs.Try.prog K.C K.f41con :=
  runFn_ok (Γ := K.f41Γ) (an := K.f41ann) ⟨K.Cok, (List.forall_mem_cons.2 ⟨K.f62ok, (fun _ h => nomatch h)⟩), K.mixed⟩ Go.Proofs.Try.func41 rfl rfl (fun x y h => (K.f41eq x).trans h) (by decide)
def K.f63sig : Sig := ⟨⟨[.hole (.int .i64)], []⟩, ⟨[.hole (.int .i64)], []⟩⟩
noncomputable def K.f63Γ : List Con := []
def K.f63ann : Ann :=
  (.seq .leaf (.seq (.seq .leaf (.block (.seq .leaf (.cond (.seq .leaf .leaf) (.seq .leaf (.cond (.seq .leaf .leaf) .leaf)))))) (.seq .leaf .leaf)))
/- ductus/ductusref03.As -/
noncomputable def K.f63F : Int → Option (Int) :=
  fun (x : Int) => if (x == (9001 : Int)) = Bool.true then Option.some (12296 : Int) else if (x == (9002 : Int)) = Bool.true then Option.some (12297 : Int) else Option.some x
theorem K.f63eq : ∀ x, runFn K.C K.f63Γ K.f63sig K.f63ann Go.Proofs.Try.f63 x = K.f63F x := by
  intro x
  kernel_rfl
noncomputable def K.f63con : Con := ⟨63, K.f63sig, K.f63F⟩
theorem K.f63ok : Con.Ok Go.Proofs.Try.prog K.C K.f63con :=
  runFn_ok (Γ := K.f63Γ) (an := K.f63ann) ⟨K.Cok, (fun _ h => nomatch h), K.mixed⟩ Go.Proofs.Try.func63 rfl rfl (fun x y h => (K.f63eq x).trans h) (by decide)
def K.f42sig : Sig := ⟨⟨[.hole (.int .i64), .hole (.int .i64)], []⟩, ⟨[.hole .bool], []⟩⟩
noncomputable def K.f42Γ : List Con := [K.f41con, K.f63con]
def K.f42ann : Ann :=
  (.seq .leaf (.seq .leaf (.seq .leaf (.seq .leaf .leaf))))
/- ductus/ductusref03.Same -/
noncomputable def K.f42F : Int × Int → Option (Bool) :=
  fun (x : Int × Int) =>
  Option.bind (Go.Sx.K.f41F x.1) fun (v1 : Int × Bool × Bool) =>
    Option.bind (Go.Sx.K.f41F x.2) fun (v2 : Int × Bool × Bool) =>
      if v1.snd.snd = Bool.true then
        if v2.snd.snd = Bool.true then Option.bind (Go.Sx.K.f63F x.1) fun (v3 : Int) => Option.bind (Go.Sx.K.f63F x.2) fun (v4 : Int) => Option.some (v3 == v4) else Option.some Bool.false
      else Option.some Bool.false
theorem K.f42eq : ∀ x, runFn K.C K.f42Γ K.f42sig K.f42ann Go.Proofs.Try.f42 x = K.f42F x := by
  intro x
  kernel_rfl
noncomputable def K.f42con : Con := ⟨42, K.f42sig, K.f42F⟩
theorem K.f42ok : Con.Ok Go.Proofs.Try.prog K.C K.f42con :=
  runFn_ok (Γ := K.f42Γ) (an := K.f42ann) ⟨K.Cok, (List.forall_mem_cons.2 ⟨K.f41ok, (List.forall_mem_cons.2 ⟨K.f63ok, (fun _ h => nomatch h)⟩)⟩), K.mixed⟩ Go.Proofs.Try.func42 rfl rfl (fun x y h => (K.f42eq x).trans h) (by decide)
def K.f55sig : Sig := ⟨⟨[.hole (.sl (.arr 2 (.int .i64))), .hole (.arr 2 (.int .i64))], []⟩, ⟨[.hole (.sl (.arr 2 (.int .i64)))], []⟩⟩
noncomputable def K.f55Γ : List Con := []
def K.f55ann : Ann :=
  (.seq .leaf (.seq .leaf (.seq (.block (.loop ⟨.normal, [(5, .hole (.int .i64))], [.cells [.hole (.int .i64), .hole (.int .i64)]]⟩ [⟨(.exit 0), [(5, .hole (.int .i64))], [.cells [.hole (.int .i64), .hole (.int .i64)]]⟩] (.seq (.seq (.join [⟨.normal, [(19, .hole .bool)], [.cells [.hole (.int .i64), .hole (.int .i64)]]⟩] .leaf) (.cond .leaf .leaf)) (.block .leaf)))) (.seq (.eff 5 [6] [0, 0, 0, 6, 15, 0, 32, 127, 0, 0, 768, 2047, 4095]) .leaf))))
/- ductus/ductusref10.put -/
noncomputable def K.f55F : List (List Int) × List Int → Option (List (List Int)) :=
  fun (x : List (List Int) × List Int) =>
  Option.bind
    (Go.Sx.iter
      (fun (s1 : Int × Int × Int) =>
        Option.bind
          (if Decidable.decide (s1.fst < (↑(List.length x.fst) : Int)) = Bool.true then
            if (0 : Int) ≤ s1.fst ∧ s1.fst < (↑(List.length x.fst) : Int) then
              if (0 : Int) ≤ (0 : Int) ∧ (0 : Int) < (↑(2 : Nat) : Int) then
                if (0 : Int) ≤ (0 : Int) ∧ (0 : Int) < (↑(2 : Nat) : Int) then
                  Option.some (Decidable.decide (List.getD (List.getD x.fst (Int.toNat s1.fst) (List.replicate (2 : Nat) (0 : Int))) (Int.toNat (0 : Int)) (0 : Int) < s1.snd.fst), s1.snd.1, s1.snd.2)
                else Option.none
              else Option.none
            else Option.none
          else Option.some (Bool.false, s1.snd.1, s1.snd.2))
          fun (v2 : Bool × Int × Int) =>
          if v2.fst = Bool.true then Option.some (Sum.inl (Go.IntKind.wrap Go.IntKind.i64 (s1.fst + (1 : Int)), v2.snd.1, v2.snd.2)) else Option.some (Sum.inr (s1.1, v2.snd.1, v2.snd.2)))
      ((0 : Int), List.getD x.snd (nat_lit 0) (0 : Int), List.getD x.snd (nat_lit 1) (0 : Int)))
    fun (v1 : Int × Int × Int) =>
    if (0 : Int) ≤ v1.fst ∧ v1.fst ≤ (↑(List.length x.fst) : Int) then
      if
          Go.Sx.roomOk ((0 : Nat) + List.length (List.take (Int.toNat v1.fst) x.fst))
            { kind := Go.Sx.TK.array (2 : Nat) (3 : Go.TypeId), size := (2 : Nat), bytes := (16 : Nat), ty := Option.some (Go.Sx.Ty.arr (2 : Nat) (Go.Sx.Ty.int Go.IntKind.i64)),
                zero := [Go.Sx.SV.val (Go.Sx.Ty.int Go.IntKind.i64) (0 : Int), Go.Sx.SV.val (Go.Sx.Ty.int Go.IntKind.i64) (0 : Int)] : Go.Sx.TI }.bytes then
        if
            Go.Sx.roomOk (List.length ([] ++ List.take (Int.toNat v1.fst) x.fst) + List.length [[v1.snd.1, v1.snd.2]])
              { kind := Go.Sx.TK.array (2 : Nat) (3 : Go.TypeId), size := (2 : Nat), bytes := (16 : Nat), ty := Option.some (Go.Sx.Ty.arr (2 : Nat) (Go.Sx.Ty.int Go.IntKind.i64)),
                  zero := [Go.Sx.SV.val (Go.Sx.Ty.int Go.IntKind.i64) (0 : Int), Go.Sx.SV.val (Go.Sx.Ty.int Go.IntKind.i64) (0 : Int)] : Go.Sx.TI }.bytes then
          if (0 : Int) ≤ v1.fst ∧ v1.fst ≤ (↑(List.length x.fst) : Int) then
            if
                Go.Sx.roomOk (List.length ([] ++ List.take (Int.toNat v1.fst) x.fst ++ [[v1.snd.1, v1.snd.2]]) + List.length (List.drop (Int.toNat v1.fst) x.fst))
                  { kind := Go.Sx.TK.array (2 : Nat) (3 : Go.TypeId), size := (2 : Nat), bytes := (16 : Nat), ty := Option.some (Go.Sx.Ty.arr (2 : Nat) (Go.Sx.Ty.int Go.IntKind.i64)),
                      zero := [Go.Sx.SV.val (Go.Sx.Ty.int Go.IntKind.i64) (0 : Int), Go.Sx.SV.val (Go.Sx.Ty.int Go.IntKind.i64) (0 : Int)] : Go.Sx.TI }.bytes then
              Option.some ([] ++ List.take (Int.toNat v1.fst) x.fst ++ [[v1.snd.1, v1.snd.2]] ++ List.drop (Int.toNat v1.fst) x.fst)
            else Option.none
          else Option.none
        else Option.none
      else Option.none
    else Option.none
theorem K.f55eq : ∀ x, runFn K.C K.f55Γ K.f55sig K.f55ann Go.Proofs.Try.f55 x = K.f55F x := by
  intro x
  kernel_rfl
noncomputable def K.f55con : Con := ⟨55, K.f55sig, K.f55F⟩
theorem K.f55ok : Con.Ok Go.Proofs.Try.prog K.C K.f55con :=
  runFn_ok (Γ := K.f55Γ) (an := K.f55ann) ⟨K.Cok, (fun _ h => nomatch h), K.mixed⟩ Go.Proofs.Try.func55 rfl rfl (fun x y h => (K.f55eq x).trans h) (by decide)
def K.f36sig : Sig := ⟨⟨[.hole (.sl (.int .i64)), .hole (.sl (.int .i64))], []⟩, ⟨[.hole (.sl (.arr 2 (.int .i64)))], []⟩⟩
noncomputable def K.f36Γ : List Con := [K.f41con, K.f42con, K.f55con]
def K.f36ann : Ann :=
  (.seq .leaf (.seq .leaf (.seq .leaf (.seq (.seq .leaf (.cond (.seq .leaf .leaf) .leaf)) (.seq (.seq .leaf (.block (.loop ⟨.normal, [(6, .own 0), (5, .hole (.sl (.arr 2 (.int .i64)))), (7, .hole (.int .i64))], [.arr 3 (.int .i64)]⟩ [⟨(.exit 0), [(5, .hole (.sl (.arr 2 (.int .i64))))], []⟩, ⟨.ret, [(4, .hole (.sl (.arr 2 (.int .i64))))], []⟩] (.seq (.seq .leaf (.cond .leaf .leaf)) (.seq (.block (.seq .leaf (.seq (.seq (.join [⟨.normal, [(40, .hole .bool)], [.arr 3 (.int .i64)]⟩] .leaf) (.cond .leaf .leaf)) (.seq (.seq .leaf (.cond (.seq (.seq .leaf (.cond (.seq .leaf .leaf) .leaf)) (.seq .leaf .leaf)) .leaf)) (.seq .leaf (.block (.loop ⟨.normal, [(5, .hole (.sl (.arr 2 (.int .i64)))), (6, .own 0), (11, .hole (.int .i64))], [.arr 3 (.int .i64)]⟩ [⟨(.exit 2), [(5, .hole (.sl (.arr 2 (.int .i64)))), (6, .own 1)], [.gone, .arr 3 (.int .i64)]⟩] (.seq (.seq .leaf (.cond .leaf .leaf)) (.seq (.block (.seq .leaf (.cond (.seq .leaf (.seq .leaf .leaf)) .leaf))) .leaf))))))))) .leaf))))) (.seq .leaf .leaf))))))
/- ductus/ductusref10.Pairs -/
noncomputable def K.f36F : List Int × List Int → Option (List (List Int)) :=
  fun (x : List Int × List Int) =>
  if ((↑(List.length x.fst) : Int) != (↑(List.length x.snd) : Int)) = Bool.true then Option.some []
  else
    Option.bind
      (Go.Sx.iter
        (fun (s1 : List (List Int) × Int × List Int) =>
          if Decidable.decide (s1.snd.fst < (↑(List.length x.fst) : Int)) = Bool.true then
            if (0 : Int) ≤ s1.snd.fst ∧ s1.snd.fst < (↑(List.length x.fst) : Int) then
              Option.bind (Go.Sx.K.f41F (List.getD x.fst (Int.toNat s1.snd.fst) (0 : Int))) fun (v2 : Int × Bool × Bool) =>
                Option.bind
                  (if (!v2.snd.snd) = Bool.true then Option.some (Bool.true, s1.snd.2)
                  else
                    if (0 : Int) ≤ s1.snd.fst ∧ s1.snd.fst < (↑(List.length x.snd) : Int) then Option.some (List.getD x.snd (Int.toNat s1.snd.fst) (0 : Int) != (13 : Int), s1.snd.2) else Option.none)
                  fun (v3 : Bool × List Int) =>
                  if v3.fst = Bool.true then Option.some (Sum.inl (s1.1, Go.IntKind.wrap Go.IntKind.i64 (s1.snd.fst + (1 : Int)), v3.2))
                  else
                    if v2.snd.fst = Bool.true then
                      if ((↑(List.length v3.snd) : Int) == (63 : Int)) = Bool.true then Option.some (Sum.inr (Sum.inr s1.1))
                      else
                        if
                            Go.Sx.roomOk (List.length v3.snd + List.length [s1.snd.1])
                              { kind := Go.Sx.TK.int Go.IntKind.i64, size := (1 : Nat), bytes := (8 : Nat), ty := Option.some (Go.Sx.Ty.int Go.IntKind.i64),
                                  zero := [Go.Sx.SV.val (Go.Sx.Ty.int Go.IntKind.i64) (0 : Int)] : Go.Sx.TI }.bytes then
                          Option.some (Sum.inl (s1.1, Go.IntKind.wrap Go.IntKind.i64 (s1.snd.fst + (1 : Int)), v3.2 ++ [s1.snd.1]))
                        else Option.none
                    else
                      Option.bind
                        (Go.Sx.iter
                          (fun (s4 : List (List Int) × Int × List Int) =>
                            if Decidable.decide (s4.snd.fst ≥ (0 : Int)) = Bool.true then
                              if (0 : Int) ≤ s4.snd.fst ∧ s4.snd.fst < (↑(List.length s4.snd.snd) : Int) then
                                if (0 : Int) ≤ List.getD s4.snd.2 (Int.toNat s4.snd.fst) (0 : Int) ∧ List.getD s4.snd.2 (Int.toNat s4.snd.fst) (0 : Int) < (↑(List.length x.fst) : Int) then
                                  Option.bind (Go.Sx.K.f42F (List.getD x.fst (Int.toNat (List.getD s4.snd.2 (Int.toNat s4.snd.fst) (0 : Int))) (0 : Int), v2.1)) fun (v5 : Bool) =>
                                    if v5 = Bool.true then
                                      if (0 : Int) ≤ s4.snd.fst ∧ s4.snd.fst < (↑(List.length s4.snd.snd) : Int) then
                                        Option.bind (Go.Sx.K.f55F (s4.1, [List.getD s4.snd.2 (Int.toNat s4.snd.fst) (0 : Int), s1.snd.1])) fun (v6 : List (List Int)) =>
                                          if (0 : Int) ≤ s4.snd.fst ∧ s4.snd.fst ≤ (↑(List.length s4.snd.snd) : Int) then Option.some (Sum.inr (v6, List.take (Int.toNat s4.snd.fst) s4.snd.2))
                                          else Option.none
                                      else Option.none
                                    else Option.some (Sum.inl (s4.1, Go.IntKind.wrap Go.IntKind.i64 (s4.snd.fst - (1 : Int)), s4.snd.2))
                                else Option.none
                              else Option.none
                            else Option.some (Sum.inr (s4.1, s4.snd.2)))
                          (s1.1, Go.IntKind.wrap Go.IntKind.i64 ((↑(List.length v3.snd) : Int) - (1 : Int)), v3.2))
                        fun (v4 : List (List Int) × List Int) => Option.some (Sum.inl (v4.1, Go.IntKind.wrap Go.IntKind.i64 (s1.snd.fst + (1 : Int)), v4.2))
            else Option.none
          else Option.some (Sum.inr (Sum.inl s1.1)))
        ([], (0 : Int), []))
      fun (v1 : List (List Int) ⊕ List (List Int)) => Sum.elim (fun (p2 : List (List Int)) => Option.some p2) (fun (q2 : List (List Int)) => Option.some q2) v1
theorem K.f36eq : ∀ x, runFn K.C K.f36Γ K.f36sig K.f36ann Go.Proofs.Try.f36 x = K.f36F x := by
  intro x
  kernel_rfl
noncomputable def K.f36con : Con := ⟨36, K.f36sig, K.f36F⟩
theorem K.f36ok : Con.Ok Go.Proofs.Try.prog K.C K.f36con :=
  runFn_ok (Γ := K.f36Γ) (an := K.f36ann) ⟨K.Cok, (List.forall_mem_cons.2 ⟨K.f41ok, (List.forall_mem_cons.2 ⟨K.f42ok, (List.forall_mem_cons.2 ⟨K.f55ok, (fun _ h => nomatch h)⟩)⟩)⟩), K.mixed⟩ Go.Proofs.Try.func36 rfl rfl (fun x y h => (K.f36eq x).trans h) (by decide)
def K.f34sig : Sig := ⟨⟨[.hole (.sl (.arr 2 (.int .i64))), .hole (.sl (.arr 2 (.int .i64)))], []⟩, ⟨[.hole .bool], []⟩⟩
noncomputable def K.f34Γ : List Con := []
def K.f34ann : Ann :=
  (.seq .leaf (.seq (.seq .leaf (.cond (.seq .leaf .leaf) .leaf)) (.seq (.seq .leaf (.block (.loop ⟨.normal, [(5, .hole (.int .i64))], []⟩ [⟨(.exit 0), [], []⟩, ⟨.ret, [(4, .hole .bool)], []⟩] (.seq (.seq .leaf (.cond .leaf .leaf)) (.seq (.block (.seq .leaf (.cond (.seq .leaf .leaf) .leaf))) .leaf))))) (.seq .leaf .leaf))))
/- ductus/ductusref10.Same -/
noncomputable def K.f34F : List (List Int) × List (List Int) → Option (Bool) :=
  fun (x : List (List Int) × List (List Int)) =>
  if ((↑(List.length x.fst) : Int) != (↑(List.length x.snd) : Int)) = Bool.true then Option.some Bool.false
  else
    Option.bind
      (Go.Sx.iter
        (fun (s1 : Int) =>
          if Decidable.decide (s1 < (↑(List.length x.fst) : Int)) = Bool.true then
            if (0 : Int) ≤ s1 ∧ s1 < (↑(List.length x.fst) : Int) then
              if (0 : Int) ≤ s1 ∧ s1 < (↑(List.length x.snd) : Int) then
                if
                    (!Go.Sx.Ty.eqb (Go.Sx.Ty.arr (2 : Nat) (Go.Sx.Ty.int Go.IntKind.i64)) (List.getD x.fst (Int.toNat s1) (List.replicate (2 : Nat) (0 : Int)))
                          (List.getD x.snd (Int.toNat s1) (List.replicate (2 : Nat) (0 : Int)))) =
                      Bool.true then
                  Option.some (Sum.inr (Sum.inr Bool.false))
                else Option.some (Sum.inl (Go.IntKind.wrap Go.IntKind.i64 (s1 + (1 : Int))))
              else Option.none
            else Option.none
          else Option.some (Sum.inr (Sum.inl ())))
        (0 : Int))
      fun (v1 : PUnit ⊕ Bool) => Sum.elim (fun (p2 : PUnit) => Option.some Bool.true) (fun (q2 : Bool) => Option.some q2) v1
theorem K.f34eq : ∀ x, runFn K.C K.f34Γ K.f34sig K.f34ann Go.Proofs.Try.f34 x = K.f34F x := by
  intro x
  kernel_rfl
noncomputable def K.f34con : Con := ⟨34, K.f34sig, K.f34F⟩
theorem K.f34ok : Con.Ok Go.Proofs.Try.prog K.C K.f34con :=
  runFn_ok (Γ := K.f34Γ) (an := K.f34ann) ⟨K.Cok, (fun _ h => nomatch h), K.mixed⟩ Go.Proofs.Try.func34 rfl rfl (fun x y h => (K.f34eq x).trans h) (by decide)
def K.f10sig : Sig := ⟨⟨[.hole (.sl (.int .i64)), .hole (.sl (.int .i64)), .hole (.arr 3 (.int .i64))], []⟩, ⟨[.hole .bool], []⟩⟩
noncomputable def K.f10Γ : List Con := [K.f31con, K.f32con, K.f33con, K.f35con, K.f36con, K.f34con, K.f37con, K.f38con]
def K.f10ann : Ann :=
  (.seq .leaf (.seq (.seq .leaf (.cond (.seq .leaf .leaf) .leaf)) (.seq (.seq (.join [⟨.normal, [(20, .hole .bool)], [.cells [.hole (.int .i64), .hole (.int .i64), .hole (.int .i64)]]⟩] .leaf) (.cond (.seq .leaf .leaf) .leaf)) (.seq .leaf (.seq .leaf (.seq .draw .leaf))))))
/- ductus/ductuslaw10.BrackAnswers -/
noncomputable def K.f10F : List Int × List Int × List Int → Option (Bool) :=
  fun (x : List Int × List Int × List Int) =>
  Option.bind (Go.Sx.K.f31F ()) fun (v1 : Bool) =>
    if (!v1) = Bool.true then Option.some Bool.false
    else
      Option.bind
        (if Decidable.decide ((↑(List.length x.fst) : Int) > (300 : Int)) = Bool.true then
          Option.some (Bool.true, List.getD x.snd.snd (nat_lit 0) (0 : Int), List.getD x.snd.snd (nat_lit 1) (0 : Int), List.getD x.snd.snd (nat_lit 2) (0 : Int))
        else
          Option.some
            (Decidable.decide ((↑(List.length x.snd.fst) : Int) > (300 : Int)), List.getD x.snd.snd (nat_lit 0) (0 : Int), List.getD x.snd.snd (nat_lit 1) (0 : Int),
              List.getD x.snd.snd (nat_lit 2) (0 : Int)))
        fun (v2 : Bool × Int × Int × Int) =>
        if v2.fst = Bool.true then Option.some Bool.true
        else
          if (0 : Int) ≤ (0 : Int) ∧ (0 : Int) < (↑(3 : Nat) : Int) then
            if (0 : Int) ≤ (1 : Int) ∧ (1 : Int) < (↑(3 : Nat) : Int) then
              Option.bind (Go.Sx.K.f32F (x.snd.1, v2.snd.1, v2.snd.snd.1)) fun (v3 : Bool × Bool) =>
                if (0 : Int) ≤ (0 : Int) ∧ (0 : Int) < (↑(3 : Nat) : Int) then
                  if (0 : Int) ≤ (1 : Int) ∧ (1 : Int) < (↑(3 : Nat) : Int) then
                    Option.bind (Go.Sx.K.f33F (x.snd.1, v2.snd.1, v2.snd.snd.1)) fun (v4 : Bool × Bool) =>
                      Option.bind (Go.Sx.K.f35F (x.1, x.snd.1)) fun (v5 : List (List Int)) =>
                        Option.bind (Go.Sx.K.f36F (x.1, x.snd.1)) fun (v6 : List (List Int)) =>
                          Option.bind (Go.Sx.K.f34F (v5, v6)) fun (v7 : Bool) =>
                            if v7 = Bool.true then
                              if (v3.fst == v4.fst) = Bool.true then
                                if (v3.snd == v4.snd) = Bool.true then
                                  if (0 : Int) ≤ (2 : Int) ∧ (2 : Int) < (↑(3 : Nat) : Int) then
                                    Option.bind (Go.Sx.K.f37F v2.snd.snd.2) fun (v8 : Int) =>
                                      if (0 : Int) ≤ (2 : Int) ∧ (2 : Int) < (↑(3 : Nat) : Int) then Option.bind (Go.Sx.K.f38F v2.snd.snd.2) fun (v9 : Int) => Option.some (v8 == v9) else Option.none
                                  else Option.none
                                else Option.some Bool.false
                              else Option.some Bool.false
                            else Option.some Bool.false
                  else Option.none
                else Option.none
            else Option.none
          else Option.none
theorem K.f10eq : ∀ x, runFn K.C K.f10Γ K.f10sig K.f10ann Go.Proofs.Try.f10 x = K.f10F x := by
  intro x
  kernel_rfl
noncomputable def K.f10con : Con := ⟨10, K.f10sig, K.f10F⟩
theorem K.f10ok : Con.Ok Go.Proofs.Try.prog K.C K.f10con :=
  runFn_ok (Γ := K.f10Γ) (an := K.f10ann) ⟨K.Cok, (List.forall_mem_cons.2 ⟨K.f31ok, (List.forall_mem_cons.2 ⟨K.f32ok, (List.forall_mem_cons.2 ⟨K.f33ok, (List.forall_mem_cons.2 ⟨K.f35ok, (List.forall_mem_cons.2 ⟨K.f36ok, (List.forall_mem_cons.2 ⟨K.f34ok, (List.forall_mem_cons.2 ⟨K.f37ok, (List.forall_mem_cons.2 ⟨K.f38ok, (fun _ h => nomatch h)⟩)⟩)⟩)⟩)⟩)⟩)⟩)⟩), K.mixed⟩ Go.Proofs.Try.func10 rfl rfl (fun x y h => (K.f10eq x).trans h) (by decide)
def K.f60sig : Sig := ⟨⟨[.hole (.int .i64)], []⟩, ⟨[.hole (.int .i64)], []⟩⟩
noncomputable def K.f60Γ : List Con := []
def K.f60ann : Ann :=
  (.seq .leaf (.seq (.seq .leaf (.cond (.seq .leaf .leaf) .leaf)) (.seq .leaf .leaf)))
/- ductus/ductusref08.Dir -/
noncomputable def K.f60F : Int → Option (Int) :=
  fun (x : Int) => if (Int.tmod x (2 : Int) != (0 : Int)) = Bool.true then Option.some (1 : Int) else Option.some (0 : Int)
theorem K.f60eq : ∀ x, runFn K.C K.f60Γ K.f60sig K.f60ann Go.Proofs.Try.f60 x = K.f60F x := by
  intro x
  kernel_rfl
noncomputable def K.f60con : Con := ⟨60, K.f60sig, K.f60F⟩
theorem K.f60ok : Con.Ok Go.Proofs.Try.prog K.C K.f60con :=
  runFn_ok (Γ := K.f60Γ) (an := K.f60ann) ⟨K.Cok, (fun _ h => nomatch h), K.mixed⟩ Go.Proofs.Try.func60 rfl rfl (fun x y h => (K.f60eq x).trans h) (by decide)
def K.s1sig : Sig := ⟨⟨[.own 0, .hole (.int .i64), .hole (.int .i64)], [.arr 3 (.int .i64)]⟩, ⟨[.hole .bool, .hole .bool], [.arr 3 (.int .i64)]⟩⟩
noncomputable def K.s1Γ : List Con := [K.f38con]
def K.s1ann : Ann :=
  (.seq .leaf (.seq .leaf (.seq (.seq .leaf (.block (.loop ⟨.normal, [(8, .hole .bool), (9, .hole .bool), (10, .hole (.int .i64))], [.arr 3 (.int .i64)]⟩ [⟨(.exit 0), [(8, .hole .bool), (9, .hole .bool)], [.arr 3 (.int .i64)]⟩] (.seq (.seq .leaf (.cond .leaf .leaf)) (.seq (.block (.seq (.join [⟨.normal, [(8, .hole .bool)], [.arr 3 (.int .i64)]⟩] .leaf) .leaf)) .leaf))))) (.seq .leaf .leaf))))
/- ductus/ductusref10.Sides -/
noncomputable def K.s1F : Int × Int × List Int → Option (Bool × Bool × List Int) :=
  fun (x : Int × Int × List Int) =>
  Option.bind
    (Go.Sx.iter
      (fun (s1 : Bool × Bool × Int × List Int) =>
        if Decidable.decide (s1.snd.snd.fst < Go.Sx.minI x.snd.fst (↑(List.length s1.snd.snd.snd) : Int)) = Bool.true then
          Option.bind
            (if s1.fst = Bool.true then Option.some (Bool.true, s1.snd.snd.2)
            else
              if (0 : Int) ≤ s1.snd.snd.fst ∧ s1.snd.snd.fst < (↑(List.length s1.snd.snd.snd) : Int) then
                Option.bind (Go.Sx.K.f38F (List.getD s1.snd.snd.2 (Int.toNat s1.snd.snd.fst) (0 : Int))) fun (v2 : Int) => Option.some (v2 == (0 : Int), s1.snd.snd.2)
              else Option.none)
            fun (v2 : Bool × List Int) =>
            if s1.snd.fst = Bool.true then Option.some (Sum.inl (v2.1, Bool.true, Go.IntKind.wrap Go.IntKind.i64 (s1.snd.snd.fst + (1 : Int)), v2.2))
            else
              if (0 : Int) ≤ s1.snd.snd.fst ∧ s1.snd.snd.fst < (↑(List.length v2.snd) : Int) then
                Option.bind (Go.Sx.K.f38F (List.getD v2.2 (Int.toNat s1.snd.snd.fst) (0 : Int))) fun (v3 : Int) =>
                  Option.some (Sum.inl (v2.1, v3 == (1 : Int), Go.IntKind.wrap Go.IntKind.i64 (s1.snd.snd.fst + (1 : Int)), v2.2))
              else Option.none
        else Option.some (Sum.inr (s1.1, s1.snd.1, s1.snd.snd.2)))
      (Bool.false, Bool.false, if x.fst > (0 : Int) then x.fst else (0 : Int), x.snd.2))
    fun (v1 : Bool × Bool × List Int) => Option.some (v1.1, v1.snd.1, v1.snd.2)
theorem K.s1eq : ∀ x, runFn K.C K.s1Γ K.s1sig K.s1ann Go.Proofs.Try.f33 x = K.s1F x := by
  intro x
  kernel_rfl
noncomputable def K.s1con : Con := ⟨33, K.s1sig, K.s1F⟩
theorem K.s1ok : Con.Ok Go.Proofs.Try.prog K.C K.s1con :=
  runFn_ok (Γ := K.s1Γ) (an := K.s1ann) ⟨K.Cok, (List.forall_mem_cons.2 ⟨K.f38ok, (fun _ h => nomatch h)⟩), K.mixed⟩ Go.Proofs.Try.func33 rfl rfl (fun x y h => (K.s1eq x).trans h) (by decide)
def K.f61sig : Sig := ⟨⟨[.own 0, .hole (.sl (.int .i64)), .hole (.int .i64), .hole (.int .i64)], [.arr 3 (.int .i64)]⟩, ⟨[], [.arr 3 (.int .i64)]⟩⟩
noncomputable def K.f61Γ : List Con := []
def K.f61ann : Ann :=
  (.seq .leaf (.seq .leaf (.block (.loop ⟨.normal, [(8, .hole (.int .i64))], [.arr 3 (.int .i64)]⟩ [⟨(.exit 0), [], [.arr 3 (.int .i64)]⟩] (.seq (.seq (.join [⟨.normal, [(25, .hole .bool)], [.arr 3 (.int .i64)]⟩] .leaf) (.cond .leaf .leaf)) (.seq (.block .leaf) .leaf))))))
/- ductus/ductusref10.turn -/
noncomputable def K.f61F : List Int × Int × Int × List Int → Option (List Int) :=
  fun (x : List Int × Int × Int × List Int) =>
  if (0 : Int) ≤ x.snd.fst ∧ x.snd.fst < (↑(List.length x.snd.snd.snd) : Int) then
    Option.bind
      (Go.Sx.iter
        (fun (s1 : Int × List Int) =>
          Option.bind
            (if Decidable.decide (s1.fst < (↑(List.length s1.snd) : Int)) = Bool.true then
              if (0 : Int) ≤ s1.fst ∧ s1.fst < (↑(List.length x.fst) : Int) then Option.some (List.getD x.fst (Int.toNat s1.fst) (0 : Int) == (8 : Int), s1.2) else Option.none
            else Option.some (Bool.false, s1.2))
            fun (v2 : Bool × List Int) =>
            if v2.fst = Bool.true then
              if (0 : Int) ≤ s1.fst ∧ s1.fst < (↑(List.length v2.snd) : Int) then
                Option.some (Sum.inl (Go.IntKind.wrap Go.IntKind.i64 (s1.fst + (1 : Int)), List.set v2.2 (Int.toNat s1.fst) x.snd.snd.1))
              else Option.none
            else Option.some (Sum.inr v2.2))
        (Go.IntKind.wrap Go.IntKind.i64 (x.snd.fst + (1 : Int)), List.set x.snd.snd.2 (Int.toNat x.snd.fst) x.snd.snd.1))
      fun (v1 : List Int) => Option.some v1
  else Option.none
theorem K.f61eq : ∀ x, runFn K.C K.f61Γ K.f61sig K.f61ann Go.Proofs.Try.f61 x = K.f61F x := by
  intro x
  kernel_rfl
noncomputable def K.f61con : Con := ⟨61, K.f61sig, K.f61F⟩
theorem K.f61ok : Con.Ok Go.Proofs.Try.prog K.C K.f61con :=
  runFn_ok (Γ := K.f61Γ) (an := K.f61ann) ⟨K.Cok, (fun _ h => nomatch h), K.mixed⟩ Go.Proofs.Try.func61 rfl rfl (fun x y h => (K.f61eq x).trans h) (by decide)
def K.f40sig : Sig := ⟨⟨[.hole (.sl (.int .i64)), .hole (.sl (.int .i64)), .hole (.sl (.int .i64)), .hole (.int .i64), .hole (.int .i64)], []⟩, ⟨[.hole (.sl (.int .i64))], []⟩⟩
noncomputable def K.f40Γ : List Con := [K.f36con, K.f60con, K.s1con, K.f38con, K.f61con]
def K.f40ann : Ann :=
  (.seq .leaf (.seq .leaf (.seq (.seq (.join [⟨.normal, [(38, .hole .bool)], [.gone, .arr 3 (.int .i64)]⟩] .leaf) (.cond (.seq .leaf .leaf) .leaf)) (.seq .leaf (.seq .leaf (.seq (.seq .leaf (.block (.loop ⟨.normal, [(14, .hole (.int .i64))], [.gone, .arr 3 (.int .i64)]⟩ [⟨(.exit 0), [], [.gone, .arr 3 (.int .i64)]⟩] (.seq (.seq .leaf (.cond .leaf .leaf)) (.seq (.block (.seq .leaf (.seq .leaf (.seq .leaf (.seq (.join [⟨.normal, [(19, .hole .bool), (20, .hole .bool)], [.gone, .arr 3 (.int .i64)]⟩] (.seq .leaf (.cond .leaf .leaf))) (.seq (.seq (.join [⟨.normal, [(80, .hole .bool)], [.gone, .arr 3 (.int .i64)]⟩] .leaf) (.cond .leaf .leaf)) (.seq .leaf (.seq (.join [⟨.normal, [(21, .hole (.int .i64))], [.gone, .arr 3 (.int .i64)]⟩] (.seq .leaf (.cond (.seq .leaf (.seq (.join [⟨.normal, [(22, .hole (.int .i64))], [.gone, .arr 3 (.int .i64)]⟩] (.seq .leaf (.cond .leaf .leaf))) (.seq (.seq .leaf (.block (.loop ⟨.normal, [(22, .hole (.int .i64)), (23, .hole (.int .i64))], [.gone, .arr 3 (.int .i64)]⟩ [⟨(.exit 2), [(22, .hole (.int .i64))], [.gone, .arr 3 (.int .i64)]⟩] (.seq (.seq .leaf (.cond .leaf .leaf)) (.seq (.block (.seq .leaf (.cond .leaf .leaf))) .leaf))))) (.seq .leaf (.cond .leaf .leaf))))) .leaf))) (.seq .leaf .leaf))))))))) .leaf))))) (.seq .leaf .leaf)))))))
/- ductus/ductusref10.Of -/
noncomputable def K.f40F : List Int × List Int × List Int × Int × Int → Option (List Int) :=
  fun (x : List Int × List Int × List Int × Int × Int) =>
  if
      Go.Sx.roomOk ((0 : Nat) + List.length x.snd.1)
        { kind := Go.Sx.TK.int Go.IntKind.i64, size := (1 : Nat), bytes := (8 : Nat), ty := Option.some (Go.Sx.Ty.int Go.IntKind.i64), zero := [Go.Sx.SV.val (Go.Sx.Ty.int Go.IntKind.i64) (0 : Int)] :
            Go.Sx.TI }.bytes then
    Option.bind
      (if ((↑(List.length x.fst) : Int) != (↑(List.length x.snd.fst) : Int)) = Bool.true then Option.some (Bool.true, [] ++ x.snd.1)
      else Option.some ((↑(List.length x.snd.snd.fst) : Int) != (↑(List.length x.snd.fst) : Int), [] ++ x.snd.1))
      fun (v1 : Bool × List Int) =>
      if v1.fst = Bool.true then Option.some v1.2
      else
        Option.bind (Go.Sx.K.f36F (x.1, x.snd.1)) fun (v2 : List (List Int)) =>
          Option.bind (Go.Sx.K.f60F x.snd.snd.snd.1) fun (v3 : Int) =>
            Option.bind
              (Go.Sx.iter
                (fun (s4 : Int × List Int) =>
                  if Decidable.decide (s4.fst < (↑(List.length v2) : Int)) = Bool.true then
                    if (0 : Int) ≤ s4.fst ∧ s4.fst < (↑(List.length v2) : Int) then
                      if (0 : Int) ≤ (0 : Int) ∧ (0 : Int) < (↑(2 : Nat) : Int) then
                        if (0 : Int) ≤ s4.fst ∧ s4.fst < (↑(List.length v2) : Int) then
                          if (0 : Int) ≤ (1 : Int) ∧ (1 : Int) < (↑(2 : Nat) : Int) then
                            Option.bind
                              (Go.Sx.K.s1F
                                (Go.IntKind.wrap Go.IntKind.i64 (List.getD (List.getD v2 (Int.toNat s4.fst) (List.replicate (2 : Nat) (0 : Int))) (Int.toNat (0 : Int)) (0 : Int) + (1 : Int)),
                                  List.getD (List.getD v2 (Int.toNat s4.fst) (List.replicate (2 : Nat) (0 : Int))) (Int.toNat (1 : Int)) (0 : Int), s4.2))
                              fun (v5 : Bool × Bool × List Int) =>
                              Option.bind (if (v3 == (1 : Int)) = Bool.true then Option.some (v5.snd.1, v5.1, v5.snd.2) else Option.some (v5.1, v5.snd.1, v5.snd.2))
                                fun (v6 : Bool × Bool × List Int) =>
                                Option.bind (if (!v6.fst) = Bool.true then Option.some (!v6.snd.fst, v6.snd.2) else Option.some (Bool.false, v6.snd.2)) fun (v7 : Bool × List Int) =>
                                  if v7.fst = Bool.true then Option.some (Sum.inl (Go.IntKind.wrap Go.IntKind.i64 (s4.fst + (1 : Int)), v7.2))
                                  else
                                    Option.bind
                                      (if (!v6.fst) = Bool.true then
                                        Option.bind (if (x.snd.snd.snd.snd == (1 : Int)) = Bool.true then Option.some ((1 : Int), v7.2) else Option.some ((0 : Int), v7.2)) fun (v8 : Int × List Int) =>
                                          Option.bind
                                            (Go.Sx.iter
                                              (fun (s9 : Int × Int × List Int) =>
                                                if
                                                    Decidable.decide (s9.snd.fst < List.getD (List.getD v2 (Int.toNat s4.fst) (List.replicate (2 : Nat) (0 : Int))) (Int.toNat (0 : Int)) (0 : Int)) =
                                                      Bool.true then
                                                  if (0 : Int) ≤ s9.snd.fst ∧ s9.snd.fst < (↑(List.length s9.snd.snd) : Int) then
                                                    Option.bind (Go.Sx.K.f38F (List.getD s9.snd.2 (Int.toNat s9.snd.fst) (0 : Int))) fun (v10 : Int) =>
                                                      if Decidable.decide (v10 ≥ (0 : Int)) = Bool.true then
                                                        if (0 : Int) ≤ s9.snd.fst ∧ s9.snd.fst < (↑(List.length s9.snd.snd) : Int) then
                                                          Option.bind (Go.Sx.K.f38F (List.getD s9.snd.2 (Int.toNat s9.snd.fst) (0 : Int))) fun (v11 : Int) =>
                                                            Option.some (Sum.inl (v11, Go.IntKind.wrap Go.IntKind.i64 (s9.snd.fst + (1 : Int)), s9.snd.2))
                                                        else Option.none
                                                      else Option.some (Sum.inl (s9.1, Go.IntKind.wrap Go.IntKind.i64 (s9.snd.fst + (1 : Int)), s9.snd.2))
                                                  else Option.none
                                                else Option.some (Sum.inr (s9.1, s9.snd.2)))
                                              (v8.1, (0 : Int), v8.2))
                                            fun (v9 : Int × List Int) => if (v9.fst != v3) = Bool.true then Option.some (v9.1, v9.2) else Option.some (v3, v9.2)
                                      else Option.some (v3, v7.2))
                                      fun (v8 : Int × List Int) =>
                                      Option.bind
                                        (Go.Sx.K.f61F (x.snd.snd.1, List.getD (List.getD v2 (Int.toNat s4.fst) (List.replicate (2 : Nat) (0 : Int))) (Int.toNat (0 : Int)) (0 : Int), v8.1, v8.2))
                                        fun (v9 : List Int) =>
                                        Option.bind
                                          (Go.Sx.K.f61F (x.snd.snd.1, List.getD (List.getD v2 (Int.toNat s4.fst) (List.replicate (2 : Nat) (0 : Int))) (Int.toNat (1 : Int)) (0 : Int), v8.1, v9))
                                          fun (v10 : List Int) => Option.some (Sum.inl (Go.IntKind.wrap Go.IntKind.i64 (s4.fst + (1 : Int)), v10))
                          else Option.none
                        else Option.none
                      else Option.none
                    else Option.none
                  else Option.some (Sum.inr s4.2))
                ((0 : Int), v1.2))
              fun (v4 : List Int) => Option.some v4
  else Option.none
theorem K.f40eq : ∀ x, runFn K.C K.f40Γ K.f40sig K.f40ann Go.Proofs.Try.f40 x = K.f40F x := by
  intro x
  kernel_rfl
noncomputable def K.f40con : Con := ⟨40, K.f40sig, K.f40F⟩
theorem K.f40ok : Con.Ok Go.Proofs.Try.prog K.C K.f40con :=
  runFn_ok (Γ := K.f40Γ) (an := K.f40ann) ⟨K.Cok, (List.forall_mem_cons.2 ⟨K.f36ok, (List.forall_mem_cons.2 ⟨K.f60ok, (List.forall_mem_cons.2 ⟨K.s1ok, (List.forall_mem_cons.2 ⟨K.f38ok, (List.forall_mem_cons.2 ⟨K.f61ok, (fun _ h => nomatch h)⟩)⟩)⟩)⟩)⟩), K.mixed⟩ Go.Proofs.Try.func40 rfl rfl (fun x y h => (K.f40eq x).trans h) (by decide)
def K.f11sig : Sig := ⟨⟨[.hole (.st (.pair (.sl (.int .i64)) (.pair (.sl (.int .i64)) (.sl (.int .i64))))), .hole (.int .i64), .hole (.int .i64)], []⟩, ⟨[.hole .bool], []⟩⟩
noncomputable def K.f11Γ : List Con := [K.f31con, K.f39con, K.f40con, K.f24con]
def K.f11ann : Ann :=
  (.seq .leaf (.seq (.seq .leaf (.cond (.seq .leaf .leaf) .leaf)) (.seq (.seq (.join [⟨.normal, [(25, .hole .bool)], [.cells [.hole (.sl (.int .i64)), .hole (.sl (.int .i64)), .hole (.sl (.int .i64))]]⟩] .leaf) (.cond (.seq .leaf .leaf) .leaf)) (.seq .leaf (.seq (.eff 3 [] [0, 1, 0, 0, 8, 0, 0, 127, 0, 256, 0, 1024, 0, 4096, 0, 0, 65535, 131071, 262143, 524287, 524287, 1572863, 4194303, 8388607, 16777215]) .leaf)))))
/- ductus/ductuslaw10.BrackTurns -/
noncomputable def K.f11F : (List Int × List Int × List Int) × Int × Int → Option (Bool) :=
  fun (x : (List Int × List Int × List Int) × Int × Int) =>
  Option.bind (Go.Sx.K.f31F ()) fun (v1 : Bool) =>
    if (!v1) = Bool.true then Option.some Bool.false
    else
      Option.bind
        (if Decidable.decide ((↑(List.length x.fst.fst) : Int) > (200 : Int)) = Bool.true then Option.some (Bool.true, x.fst.1, x.fst.snd.1, x.fst.snd.2)
        else
          if Decidable.decide ((↑(List.length x.fst.snd.fst) : Int) > (200 : Int)) = Bool.true then Option.some (Bool.true, x.fst.1, x.fst.snd.1, x.fst.snd.2)
          else Option.some (Decidable.decide ((↑(List.length x.fst.snd.snd) : Int) > (200 : Int)), x.fst.1, x.fst.snd.1, x.fst.snd.2))
        fun (v2 : Bool × List Int × List Int × List Int) =>
        if v2.fst = Bool.true then Option.some Bool.true
        else
          if
              Go.Sx.roomOk ((0 : Nat) + List.length v2.snd.snd.1)
                { kind := Go.Sx.TK.int Go.IntKind.i64, size := (1 : Nat), bytes := (8 : Nat), ty := Option.some (Go.Sx.Ty.int Go.IntKind.i64),
                    zero := [Go.Sx.SV.val (Go.Sx.Ty.int Go.IntKind.i64) (0 : Int)] : Go.Sx.TI }.bytes then
            Option.bind (Go.Sx.K.f39F (v2.snd.1, [] ++ v2.snd.snd.1, v2.snd.snd.2, x.snd.1, x.snd.2)) fun (v3 : List Int) =>
              Option.bind (Go.Sx.K.f40F (v2.snd.1, v2.snd.snd.1, v2.snd.snd.2, x.snd.1, x.snd.2)) fun (v4 : List Int) =>
                Option.bind (Go.Sx.K.f24F (v3, v4)) fun (v5 : Bool) =>
                  if v5 = Bool.true then Option.bind (Go.Sx.K.f24F ([] ++ v2.snd.snd.1, v2.snd.snd.1)) fun (v6 : Bool) => Option.some v6 else Option.some Bool.false
          else Option.none
theorem K.f11eq : ∀ x, runFn K.C K.f11Γ K.f11sig K.f11ann Go.Proofs.Try.f11 x = K.f11F x := by
  intro x
  kernel_rfl
noncomputable def K.f11con : Con := ⟨11, K.f11sig, K.f11F⟩
theorem K.f11ok : Con.Ok Go.Proofs.Try.prog K.C K.f11con :=
  runFn_ok (Γ := K.f11Γ) (an := K.f11ann) ⟨K.Cok, (List.forall_mem_cons.2 ⟨K.f31ok, (List.forall_mem_cons.2 ⟨K.f39ok, (List.forall_mem_cons.2 ⟨K.f40ok, (List.forall_mem_cons.2 ⟨K.f24ok, (fun _ h => nomatch h)⟩)⟩)⟩)⟩), K.mixed⟩ Go.Proofs.Try.func11 rfl rfl (fun x y h => (K.f11eq x).trans h) (by decide)
def K.f12sig : Sig := ⟨⟨[.hole (.sl (.int .i64)), .hole (.sl (.int .i64))], []⟩, ⟨[.hole .bool], []⟩⟩
noncomputable def K.f12Γ : List Con := [K.f31con, K.f35con, K.f41con, K.f42con]
def K.f12ann : Ann :=
  (.seq .leaf (.seq (.seq .leaf (.cond (.seq .leaf .leaf) .leaf)) (.seq (.seq (.join [⟨.normal, [(22, .hole .bool)], []⟩] .leaf) (.cond (.seq .leaf .leaf) .leaf)) (.seq .leaf (.seq (.seq .leaf (.block (.loop ⟨.normal, [(6, .hole (.int .i64))], []⟩ [⟨(.exit 0), [], []⟩, ⟨.ret, [(4, .hole .bool)], []⟩] (.seq (.seq .leaf (.cond .leaf .leaf)) (.seq (.block (.seq .leaf (.seq (.seq (.join [⟨.normal, [(74, .hole .bool)], []⟩] .leaf) (.cond (.seq .leaf .leaf) .leaf)) (.seq .leaf (.seq (.seq (.join [⟨.normal, [(98, .hole .bool)], []⟩] .leaf) (.cond (.seq .leaf .leaf) .leaf)) (.seq .leaf (.block (.loop ⟨.normal, [(12, .hole (.int .i64))], []⟩ [⟨(.exit 2), [], []⟩, ⟨.ret, [(4, .hole .bool)], []⟩] (.seq (.seq .leaf (.cond .leaf .leaf)) (.seq (.block (.seq (.join [⟨.normal, [(146, .hole .bool)], []⟩] .leaf) (.cond (.seq .leaf .leaf) .leaf))) .leaf)))))))))) .leaf))))) (.seq .leaf .leaf))))))
/- ductus/ductuslaw10.BrackPairs -/
noncomputable def K.f12F : List Int × List Int → Option (Bool) :=
  fun (x : List Int × List Int) =>
  Option.bind (Go.Sx.K.f31F ()) fun (v1 : Bool) =>
    if (!v1) = Bool.true then Option.some Bool.false
    else
      Option.bind
        (if Decidable.decide ((↑(List.length x.fst) : Int) > (300 : Int)) = Bool.true then Option.some Bool.true else Option.some (Decidable.decide ((↑(List.length x.snd) : Int) > (300 : Int))))
        fun (v2 : Bool) =>
        if v2 = Bool.true then Option.some Bool.true
        else
          Option.bind (Go.Sx.K.f35F (x.1, x.2)) fun (v3 : List (List Int)) =>
            Option.bind
              (Go.Sx.iter
                (fun (s4 : Int) =>
                  if Decidable.decide (s4 < (↑(List.length v3) : Int)) = Bool.true then
                    if (0 : Int) ≤ s4 ∧ s4 < (↑(List.length v3) : Int) then
                      if (0 : Int) ≤ (0 : Int) ∧ (0 : Int) < (↑(2 : Nat) : Int) then
                        if (0 : Int) ≤ s4 ∧ s4 < (↑(List.length v3) : Int) then
                          if (0 : Int) ≤ (1 : Int) ∧ (1 : Int) < (↑(2 : Nat) : Int) then
                            Option.bind
                              (if Decidable.decide (List.getD (List.getD v3 (Int.toNat s4) (List.replicate (2 : Nat) (0 : Int))) (Int.toNat (0 : Int)) (0 : Int) < (0 : Int)) = Bool.true then
                                Option.some Bool.true
                              else
                                if
                                    Decidable.decide
                                        (List.getD (List.getD v3 (Int.toNat s4) (List.replicate (2 : Nat) (0 : Int))) (Int.toNat (0 : Int)) (0 : Int) ≥
                                          List.getD (List.getD v3 (Int.toNat s4) (List.replicate (2 : Nat) (0 : Int))) (Int.toNat (1 : Int)) (0 : Int)) =
                                      Bool.true then
                                  Option.some Bool.true
                                else
                                  if
                                      Decidable.decide (List.getD (List.getD v3 (Int.toNat s4) (List.replicate (2 : Nat) (0 : Int))) (Int.toNat (1 : Int)) (0 : Int) ≥ (↑(List.length x.fst) : Int)) =
                                        Bool.true then
                                    Option.some Bool.true
                                  else
                                    if
                                        Decidable.decide (List.getD (List.getD v3 (Int.toNat s4) (List.replicate (2 : Nat) (0 : Int))) (Int.toNat (1 : Int)) (0 : Int) ≥ (↑(List.length x.snd) : Int)) =
                                          Bool.true then
                                      Option.some Bool.true
                                    else
                                      if
                                          (0 : Int) ≤ List.getD (List.getD v3 (Int.toNat s4) (List.replicate (2 : Nat) (0 : Int))) (Int.toNat (0 : Int)) (0 : Int) ∧
                                            List.getD (List.getD v3 (Int.toNat s4) (List.replicate (2 : Nat) (0 : Int))) (Int.toNat (0 : Int)) (0 : Int) < (↑(List.length x.snd) : Int) then
                                        if
                                            (List.getD x.snd (Int.toNat (List.getD (List.getD v3 (Int.toNat s4) (List.replicate (2 : Nat) (0 : Int))) (Int.toNat (0 : Int)) (0 : Int))) (0 : Int) !=
                                                (13 : Int)) =
                                              Bool.true then
                                          Option.some Bool.true
                                        else
                                          if
                                              (0 : Int) ≤ List.getD (List.getD v3 (Int.toNat s4) (List.replicate (2 : Nat) (0 : Int))) (Int.toNat (1 : Int)) (0 : Int) ∧
                                                List.getD (List.getD v3 (Int.toNat s4) (List.replicate (2 : Nat) (0 : Int))) (Int.toNat (1 : Int)) (0 : Int) < (↑(List.length x.snd) : Int) then
                                            Option.some
                                              (List.getD x.snd (Int.toNat (List.getD (List.getD v3 (Int.toNat s4) (List.replicate (2 : Nat) (0 : Int))) (Int.toNat (1 : Int)) (0 : Int))) (0 : Int) !=
                                                (13 : Int))
                                          else Option.none
                                      else Option.none)
                              fun (v5 : Bool) =>
                              if v5 = Bool.true then Option.some (Sum.inr (Sum.inr Bool.false))
                              else
                                if
                                    (0 : Int) ≤ List.getD (List.getD v3 (Int.toNat s4) (List.replicate (2 : Nat) (0 : Int))) (Int.toNat (0 : Int)) (0 : Int) ∧
                                      List.getD (List.getD v3 (Int.toNat s4) (List.replicate (2 : Nat) (0 : Int))) (Int.toNat (0 : Int)) (0 : Int) < (↑(List.length x.fst) : Int) then
                                  Option.bind
                                    (Go.Sx.K.f41F
                                      (List.getD x.fst (Int.toNat (List.getD (List.getD v3 (Int.toNat s4) (List.replicate (2 : Nat) (0 : Int))) (Int.toNat (0 : Int)) (0 : Int))) (0 : Int)))
                                    fun (v6 : Int × Bool × Bool) =>
                                    Option.bind
                                      (if (!v6.snd.snd) = Bool.true then Option.some Bool.true
                                      else
                                        if (!v6.snd.fst) = Bool.true then Option.some Bool.true
                                        else
                                          if
                                              (0 : Int) ≤ List.getD (List.getD v3 (Int.toNat s4) (List.replicate (2 : Nat) (0 : Int))) (Int.toNat (1 : Int)) (0 : Int) ∧
                                                List.getD (List.getD v3 (Int.toNat s4) (List.replicate (2 : Nat) (0 : Int))) (Int.toNat (1 : Int)) (0 : Int) < (↑(List.length x.fst) : Int) then
                                            Option.bind
                                              (Go.Sx.K.f42F
                                                (v6.1,
                                                  List.getD x.fst (Int.toNat (List.getD (List.getD v3 (Int.toNat s4) (List.replicate (2 : Nat) (0 : Int))) (Int.toNat (1 : Int)) (0 : Int))) (0 : Int)))
                                              fun (v7 : Bool) => Option.some !v7
                                          else Option.none)
                                      fun (v7 : Bool) =>
                                      if v7 = Bool.true then Option.some (Sum.inr (Sum.inr Bool.false))
                                      else
                                        Option.bind
                                          (Go.Sx.iter
                                            (fun (s8 : Int) =>
                                              if Decidable.decide (s8 < s4) = Bool.true then
                                                Option.bind
                                                  (if (0 : Int) ≤ s8 ∧ s8 < (↑(List.length v3) : Int) then
                                                    if (0 : Int) ≤ (0 : Int) ∧ (0 : Int) < (↑(2 : Nat) : Int) then
                                                      if
                                                          Decidable.decide
                                                              (List.getD (List.getD v3 (Int.toNat s8) (List.replicate (2 : Nat) (0 : Int))) (Int.toNat (0 : Int)) (0 : Int) ≥
                                                                List.getD (List.getD v3 (Int.toNat s4) (List.replicate (2 : Nat) (0 : Int))) (Int.toNat (0 : Int)) (0 : Int)) =
                                                            Bool.true then
                                                        Option.some Bool.true
                                                      else
                                                        if (0 : Int) ≤ s8 ∧ s8 < (↑(List.length v3) : Int) then
                                                          if (0 : Int) ≤ (1 : Int) ∧ (1 : Int) < (↑(2 : Nat) : Int) then
                                                            if
                                                                Decidable.decide
                                                                    (List.getD (List.getD v3 (Int.toNat s8) (List.replicate (2 : Nat) (0 : Int))) (Int.toNat (1 : Int)) (0 : Int) >
                                                                      List.getD (List.getD v3 (Int.toNat s4) (List.replicate (2 : Nat) (0 : Int))) (Int.toNat (0 : Int)) (0 : Int)) =
                                                                  Bool.true then
                                                              if (0 : Int) ≤ s8 ∧ s8 < (↑(List.length v3) : Int) then
                                                                if (0 : Int) ≤ (1 : Int) ∧ (1 : Int) < (↑(2 : Nat) : Int) then
                                                                  if
                                                                      Decidable.decide
                                                                          (List.getD (List.getD v3 (Int.toNat s8) (List.replicate (2 : Nat) (0 : Int))) (Int.toNat (1 : Int)) (0 : Int) <
                                                                            List.getD (List.getD v3 (Int.toNat s4) (List.replicate (2 : Nat) (0 : Int))) (Int.toNat (1 : Int)) (0 : Int)) =
                                                                        Bool.true then
                                                                    Option.some Bool.true
                                                                  else
                                                                    if (0 : Int) ≤ s8 ∧ s8 < (↑(List.length v3) : Int) then
                                                                      if (0 : Int) ≤ (1 : Int) ∧ (1 : Int) < (↑(2 : Nat) : Int) then
                                                                        if
                                                                            (List.getD (List.getD v3 (Int.toNat s8) (List.replicate (2 : Nat) (0 : Int))) (Int.toNat (1 : Int)) (0 : Int) ==
                                                                                List.getD (List.getD v3 (Int.toNat s4) (List.replicate (2 : Nat) (0 : Int))) (Int.toNat (0 : Int)) (0 : Int)) =
                                                                              Bool.true then
                                                                          Option.some Bool.true
                                                                        else
                                                                          if (0 : Int) ≤ s8 ∧ s8 < (↑(List.length v3) : Int) then
                                                                            if (0 : Int) ≤ (1 : Int) ∧ (1 : Int) < (↑(2 : Nat) : Int) then
                                                                              Option.some
                                                                                (List.getD (List.getD v3 (Int.toNat s8) (List.replicate (2 : Nat) (0 : Int))) (Int.toNat (1 : Int)) (0 : Int) ==
                                                                                  List.getD (List.getD v3 (Int.toNat s4) (List.replicate (2 : Nat) (0 : Int))) (Int.toNat (1 : Int)) (0 : Int))
                                                                            else Option.none
                                                                          else Option.none
                                                                      else Option.none
                                                                    else Option.none
                                                                else Option.none
                                                              else Option.none
                                                            else
                                                              if (0 : Int) ≤ s8 ∧ s8 < (↑(List.length v3) : Int) then
                                                                if (0 : Int) ≤ (1 : Int) ∧ (1 : Int) < (↑(2 : Nat) : Int) then
                                                                  if
                                                                      (List.getD (List.getD v3 (Int.toNat s8) (List.replicate (2 : Nat) (0 : Int))) (Int.toNat (1 : Int)) (0 : Int) ==
                                                                          List.getD (List.getD v3 (Int.toNat s4) (List.replicate (2 : Nat) (0 : Int))) (Int.toNat (0 : Int)) (0 : Int)) =
                                                                        Bool.true then
                                                                    Option.some Bool.true
                                                                  else
                                                                    if (0 : Int) ≤ s8 ∧ s8 < (↑(List.length v3) : Int) then
                                                                      if (0 : Int) ≤ (1 : Int) ∧ (1 : Int) < (↑(2 : Nat) : Int) then
                                                                        Option.some
                                                                          (List.getD (List.getD v3 (Int.toNat s8) (List.replicate (2 : Nat) (0 : Int))) (Int.toNat (1 : Int)) (0 : Int) ==
                                                                            List.getD (List.getD v3 (Int.toNat s4) (List.replicate (2 : Nat) (0 : Int))) (Int.toNat (1 : Int)) (0 : Int))
                                                                      else Option.none
                                                                    else Option.none
                                                                else Option.none
                                                              else Option.none
                                                          else Option.none
                                                        else Option.none
                                                    else Option.none
                                                  else Option.none)
                                                  fun (v9 : Bool) =>
                                                  if v9 = Bool.true then Option.some (Sum.inr (Sum.inr Bool.false)) else Option.some (Sum.inl (Go.IntKind.wrap Go.IntKind.i64 (s8 + (1 : Int))))
                                              else Option.some (Sum.inr (Sum.inl ())))
                                            (0 : Int))
                                          fun (v8 : PUnit ⊕ Bool) =>
                                          Sum.elim (fun (p9 : PUnit) => Option.some (Sum.inl (Go.IntKind.wrap Go.IntKind.i64 (s4 + (1 : Int))))) (fun (q9 : Bool) => Option.some (Sum.inr (Sum.inr q9)))
                                            v8
                                else Option.none
                          else Option.none
                        else Option.none
                      else Option.none
                    else Option.none
                  else Option.some (Sum.inr (Sum.inl ())))
                (0 : Int))
              fun (v4 : PUnit ⊕ Bool) => Sum.elim (fun (p5 : PUnit) => Option.some Bool.true) (fun (q5 : Bool) => Option.some q5) v4
theorem K.f12eq : ∀ x, runFn K.C K.f12Γ K.f12sig K.f12ann Go.Proofs.Try.f12 x = K.f12F x := by
  intro x
  kernel_rfl
noncomputable def K.f12con : Con := ⟨12, K.f12sig, K.f12F⟩
theorem K.f12ok : Con.Ok Go.Proofs.Try.prog K.C K.f12con :=
  runFn_ok (Γ := K.f12Γ) (an := K.f12ann) ⟨K.Cok, (List.forall_mem_cons.2 ⟨K.f31ok, (List.forall_mem_cons.2 ⟨K.f35ok, (List.forall_mem_cons.2 ⟨K.f41ok, (List.forall_mem_cons.2 ⟨K.f42ok, (fun _ h => nomatch h)⟩)⟩)⟩)⟩), K.mixed⟩ Go.Proofs.Try.func12 rfl rfl (fun x y h => (K.f12eq x).trans h) (by decide)
def K.f13sig : Sig := ⟨⟨[.hole (.st (.pair (.sl (.int .i64)) (.pair (.sl (.int .i64)) (.sl (.int .i64))))), .hole (.int .i64), .hole .bool], []⟩, ⟨[.hole .bool], []⟩⟩
noncomputable def K.f13Γ : List Con := [K.f31con, K.f39con, K.f24con, K.f35con]
def K.f13ann : Ann :=
  (.seq .leaf (.seq (.seq .leaf (.cond (.seq .leaf .leaf) .leaf)) (.seq (.seq (.join [⟨.normal, [(32, .hole .bool)], [.cells [.hole (.sl (.int .i64)), .hole (.sl (.int .i64)), .hole (.sl (.int .i64))]]⟩] .leaf) (.cond (.seq .leaf .leaf) .leaf)) (.seq .leaf (.seq (.join [⟨.normal, [(7, .hole (.int .i64))], [.cells [.hole (.sl (.int .i64)), .hole (.sl (.int .i64)), .hole (.sl (.int .i64))]]⟩] (.seq .leaf (.cond .leaf .leaf))) (.seq .leaf (.seq (.seq .leaf (.cond (.seq .leaf .leaf) .leaf)) (.seq (.seq (.join [⟨.normal, [(62, .hole .bool)], [.cells [.hole (.sl (.int .i64)), .hole (.sl (.int .i64)), .hole (.sl (.int .i64))]]⟩] .leaf) (.cond (.seq .leaf .leaf) .leaf)) (.seq .leaf (.seq .leaf (.seq (.seq .leaf (.block (.loop ⟨.normal, [(11, .hole (.int .i64))], [.cells [.hole (.sl (.int .i64)), .hole (.sl (.int .i64)), .hole (.sl (.int .i64))], .arr 4 .bool]⟩ [⟨(.exit 0), [], [.cells [.hole (.sl (.int .i64)), .hole (.sl (.int .i64)), .hole (.sl (.int .i64))], .arr 4 .bool]⟩] (.seq (.seq .leaf (.cond .leaf .leaf)) (.seq (.block (.seq .leaf (.block (.loop ⟨.normal, [(12, .hole (.int .i64))], [.cells [.hole (.sl (.int .i64)), .hole (.sl (.int .i64)), .hole (.sl (.int .i64))], .arr 4 .bool]⟩ [⟨(.exit 2), [], [.cells [.hole (.sl (.int .i64)), .hole (.sl (.int .i64)), .hole (.sl (.int .i64))], .arr 4 .bool]⟩] (.seq (.seq .leaf (.cond .leaf .leaf)) (.seq (.block (.seq .leaf (.seq .leaf (.seq .leaf (.block (.loop ⟨.normal, [(13, .hole (.int .i64))], [.cells [.hole (.sl (.int .i64)), .hole (.sl (.int .i64)), .hole (.sl (.int .i64))], .arr 4 .bool]⟩ [⟨(.exit 4), [], [.cells [.hole (.sl (.int .i64)), .hole (.sl (.int .i64)), .hole (.sl (.int .i64))], .arr 4 .bool]⟩] (.seq (.seq (.join [⟨.normal, [(107, .hole .bool)], [.cells [.hole (.sl (.int .i64)), .hole (.sl (.int .i64)), .hole (.sl (.int .i64))], .arr 4 .bool]⟩] .leaf) (.cond .leaf .leaf)) (.seq (.block .leaf) .leaf)))))))) .leaf)))))) .leaf))))) (.seq (.seq .leaf (.block (.loop ⟨.normal, [(14, .hole (.int .i64))], [.cells [.hole (.sl (.int .i64)), .hole (.sl (.int .i64)), .hole (.sl (.int .i64))], .arr 4 .bool]⟩ [⟨(.exit 6), [], [.gone, .gone]⟩, ⟨.ret, [(6, .hole .bool)], [.gone, .gone]⟩] (.seq (.seq .leaf (.cond .leaf .leaf)) (.seq (.block (.seq (.join [⟨.normal, [(161, .hole .bool)], [.cells [.hole (.sl (.int .i64)), .hole (.sl (.int .i64)), .hole (.sl (.int .i64))], .arr 4 .bool]⟩] .leaf) (.cond (.seq .leaf .leaf) .leaf))) .leaf))))) (.seq .leaf .leaf)))))))))))))
/- ductus/ductuslaw10.BrackKeeps -/
noncomputable def K.f13F : (List Int × List Int × List Int) × Int × Bool → Option (Bool) :=
  fun (x : (List Int × List Int × List Int) × Int × Bool) =>
  Option.bind (Go.Sx.K.f31F ()) fun (v1 : Bool) =>
    if (!v1) = Bool.true then Option.some Bool.false
    else
      Option.bind
        (if Decidable.decide ((↑(List.length x.fst.fst) : Int) > (200 : Int)) = Bool.true then Option.some (Bool.true, x.fst.1, x.fst.snd.1, x.fst.snd.2)
        else
          if Decidable.decide ((↑(List.length x.fst.snd.fst) : Int) > (200 : Int)) = Bool.true then Option.some (Bool.true, x.fst.1, x.fst.snd.1, x.fst.snd.2)
          else Option.some (Decidable.decide ((↑(List.length x.fst.snd.snd) : Int) > (200 : Int)), x.fst.1, x.fst.snd.1, x.fst.snd.2))
        fun (v2 : Bool × List Int × List Int × List Int) =>
        if v2.fst = Bool.true then Option.some Bool.true
        else
          Option.bind (if x.snd.snd = Bool.true then Option.some ((1 : Int), v2.snd.1, v2.snd.snd.1, v2.snd.snd.2) else Option.some ((0 : Int), v2.snd.1, v2.snd.snd.1, v2.snd.snd.2))
            fun (v3 : Int × List Int × List Int × List Int) =>
            Option.bind (Go.Sx.K.f39F (v3.snd.1, v3.snd.snd.1, v3.snd.snd.2, x.snd.1, v3.1)) fun (v4 : List Int) =>
              if ((↑(List.length v4) : Int) != (↑(List.length v3.snd.snd.fst) : Int)) = Bool.true then Option.some Bool.false
              else
                Option.bind
                  (if ((↑(List.length v3.snd.fst) : Int) != (↑(List.length v4) : Int)) = Bool.true then Option.some (Bool.true, v3.snd.1, v3.snd.snd.1, v3.snd.snd.2)
                  else Option.some ((↑(List.length v3.snd.snd.snd) : Int) != (↑(List.length v4) : Int), v3.snd.1, v3.snd.snd.1, v3.snd.snd.2))
                  fun (v5 : Bool × List Int × List Int × List Int) =>
                  if v5.fst = Bool.true then Option.bind (Go.Sx.K.f24F (v4, v5.snd.snd.1)) fun (v6 : Bool) => Option.some v6
                  else
                    Option.bind (Go.Sx.K.f35F (v5.snd.1, v5.snd.snd.1)) fun (v6 : List (List Int)) =>
                      if
                          (0 : Int) ≤ (↑(List.length v4) : Int) ∧
                            (↑(List.length v4) : Int) ≤ (↑(List.length v4) : Int) ∧
                              Go.Sx.roomOk (Int.toNat (↑(List.length v4) : Int))
                                { kind := Go.Sx.TK.bool, size := (1 : Nat), bytes := (1 : Nat), ty := Option.some Go.Sx.Ty.bool, zero := [Go.Sx.SV.bit Bool.false] : Go.Sx.TI }.bytes then
                        Option.bind
                          (Go.Sx.iter
                            (fun (s7 : Int × List Int × List Int × List Int × List Bool) =>
                              if Decidable.decide (s7.fst < (↑(List.length v6) : Int)) = Bool.true then
                                Option.bind
                                  (Go.Sx.iter
                                    (fun (s8 : Int × List Int × List Int × List Int × List Bool) =>
                                      if Decidable.decide (s8.fst < (2 : Int)) = Bool.true then
                                        if (0 : Int) ≤ s7.fst ∧ s7.fst < (↑(List.length v6) : Int) then
                                          if (0 : Int) ≤ s8.fst ∧ s8.fst < (↑(2 : Nat) : Int) then
                                            if
                                                (0 : Int) ≤ List.getD (List.getD v6 (Int.toNat s7.fst) (List.replicate (2 : Nat) (0 : Int))) (Int.toNat s8.fst) (0 : Int) ∧
                                                  List.getD (List.getD v6 (Int.toNat s7.fst) (List.replicate (2 : Nat) (0 : Int))) (Int.toNat s8.fst) (0 : Int) <
                                                    (↑(List.length s8.snd.snd.snd.snd) : Int) then
                                              Option.bind
                                                (Go.Sx.iter
                                                  (fun (s9 : Int × List Int × List Int × List Int × List Bool) =>
                                                    Option.bind
                                                      (if Decidable.decide (s9.fst < (↑(List.length v4) : Int)) = Bool.true then
                                                        if (0 : Int) ≤ s9.fst ∧ s9.fst < (↑(List.length s9.snd.snd.snd.fst) : Int) then
                                                          Option.some
                                                            (List.getD s9.snd.snd.snd.fst (Int.toNat s9.fst) (0 : Int) == (8 : Int), s9.snd.1, s9.snd.snd.1, s9.snd.snd.snd.1, s9.snd.snd.snd.2)
                                                        else Option.none
                                                      else Option.some (Bool.false, s9.snd.1, s9.snd.snd.1, s9.snd.snd.snd.1, s9.snd.snd.snd.2))
                                                      fun (v10 : Bool × List Int × List Int × List Int × List Bool) =>
                                                      if v10.fst = Bool.true then
                                                        if (0 : Int) ≤ s9.fst ∧ s9.fst < (↑(List.length v10.snd.snd.snd.snd) : Int) then
                                                          Option.some
                                                            (Sum.inl
                                                              (Go.IntKind.wrap Go.IntKind.i64 (s9.fst + (1 : Int)), v10.snd.1, v10.snd.snd.1, v10.snd.snd.snd.1,
                                                                List.set v10.snd.snd.snd.2 (Int.toNat s9.fst) Bool.true))
                                                        else Option.none
                                                      else Option.some (Sum.inr (v10.snd.1, v10.snd.snd.1, v10.snd.snd.snd.1, v10.snd.snd.snd.2)))
                                                  (Go.IntKind.wrap Go.IntKind.i64
                                                      (List.getD (List.getD v6 (Int.toNat s7.fst) (List.replicate (2 : Nat) (0 : Int))) (Int.toNat s8.fst) (0 : Int) + (1 : Int)),
                                                    s8.snd.1, s8.snd.snd.1, s8.snd.snd.snd.1,
                                                    List.set s8.snd.snd.snd.2
                                                      (Int.toNat (List.getD (List.getD v6 (Int.toNat s7.fst) (List.replicate (2 : Nat) (0 : Int))) (Int.toNat s8.fst) (0 : Int))) Bool.true))
                                                fun (v9 : List Int × List Int × List Int × List Bool) =>
                                                Option.some (Sum.inl (Go.IntKind.wrap Go.IntKind.i64 (s8.fst + (1 : Int)), v9.1, v9.snd.1, v9.snd.snd.1, v9.snd.snd.2))
                                            else Option.none
                                          else Option.none
                                        else Option.none
                                      else Option.some (Sum.inr (s8.snd.1, s8.snd.snd.1, s8.snd.snd.snd.1, s8.snd.snd.snd.2)))
                                    ((0 : Int), s7.snd.1, s7.snd.snd.1, s7.snd.snd.snd.1, s7.snd.snd.snd.2))
                                  fun (v8 : List Int × List Int × List Int × List Bool) =>
                                  Option.some (Sum.inl (Go.IntKind.wrap Go.IntKind.i64 (s7.fst + (1 : Int)), v8.1, v8.snd.1, v8.snd.snd.1, v8.snd.snd.2))
                              else Option.some (Sum.inr (s7.snd.1, s7.snd.snd.1, s7.snd.snd.snd.1, s7.snd.snd.snd.2)))
                            ((0 : Int), v5.snd.1, v5.snd.snd.1, v5.snd.snd.2, List.replicate (Int.toNat (↑(List.length v4) : Int)) Bool.false))
                          fun (v7 : List Int × List Int × List Int × List Bool) =>
                          Option.bind
                            (Go.Sx.iter
                              (fun (s8 : Int × List Int × List Int × List Int × List Bool) =>
                                if Decidable.decide (s8.fst < (↑(List.length v4) : Int)) = Bool.true then
                                  Option.bind
                                    (if (0 : Int) ≤ s8.fst ∧ s8.fst < (↑(List.length s8.snd.snd.snd.snd) : Int) then
                                      if (!List.getD s8.snd.snd.snd.2 (Int.toNat s8.fst) Bool.false) = Bool.true then
                                        if (0 : Int) ≤ s8.fst ∧ s8.fst < (↑(List.length v4) : Int) then
                                          if (0 : Int) ≤ s8.fst ∧ s8.fst < (↑(List.length s8.snd.snd.fst) : Int) then
                                            if (List.getD v4 (Int.toNat s8.fst) (0 : Int) != List.getD s8.snd.snd.fst (Int.toNat s8.fst) (0 : Int)) = Bool.true then
                                              Option.some (Bool.true, s8.snd.1, s8.snd.snd.1, s8.snd.snd.snd.1, s8.snd.snd.snd.2)
                                            else
                                              if (0 : Int) ≤ s8.fst ∧ s8.fst < (↑(List.length v4) : Int) then
                                                if (0 : Int) ≤ s8.fst ∧ s8.fst < (↑(List.length s8.snd.snd.fst) : Int) then
                                                  if (List.getD v4 (Int.toNat s8.fst) (0 : Int) != List.getD s8.snd.snd.fst (Int.toNat s8.fst) (0 : Int)) = Bool.true then
                                                    if (0 : Int) ≤ s8.fst ∧ s8.fst < (↑(List.length v4) : Int) then
                                                      if (List.getD v4 (Int.toNat s8.fst) (0 : Int) != (0 : Int)) = Bool.true then
                                                        if (0 : Int) ≤ s8.fst ∧ s8.fst < (↑(List.length v4) : Int) then
                                                          Option.some (List.getD v4 (Int.toNat s8.fst) (0 : Int) != (1 : Int), s8.snd.1, s8.snd.snd.1, s8.snd.snd.snd.1, s8.snd.snd.snd.2)
                                                        else Option.none
                                                      else Option.some (Bool.false, s8.snd.1, s8.snd.snd.1, s8.snd.snd.snd.1, s8.snd.snd.snd.2)
                                                    else Option.none
                                                  else Option.some (Bool.false, s8.snd.1, s8.snd.snd.1, s8.snd.snd.snd.1, s8.snd.snd.snd.2)
                                                else Option.none
                                              else Option.none
                                          else Option.none
                                        else Option.none
                                      else
                                        if (0 : Int) ≤ s8.fst ∧ s8.fst < (↑(List.length v4) : Int) then
                                          if (0 : Int) ≤ s8.fst ∧ s8.fst < (↑(List.length s8.snd.snd.fst) : Int) then
                                            if (List.getD v4 (Int.toNat s8.fst) (0 : Int) != List.getD s8.snd.snd.fst (Int.toNat s8.fst) (0 : Int)) = Bool.true then
                                              if (0 : Int) ≤ s8.fst ∧ s8.fst < (↑(List.length v4) : Int) then
                                                if (List.getD v4 (Int.toNat s8.fst) (0 : Int) != (0 : Int)) = Bool.true then
                                                  if (0 : Int) ≤ s8.fst ∧ s8.fst < (↑(List.length v4) : Int) then
                                                    Option.some (List.getD v4 (Int.toNat s8.fst) (0 : Int) != (1 : Int), s8.snd.1, s8.snd.snd.1, s8.snd.snd.snd.1, s8.snd.snd.snd.2)
                                                  else Option.none
                                                else Option.some (Bool.false, s8.snd.1, s8.snd.snd.1, s8.snd.snd.snd.1, s8.snd.snd.snd.2)
                                              else Option.none
                                            else Option.some (Bool.false, s8.snd.1, s8.snd.snd.1, s8.snd.snd.snd.1, s8.snd.snd.snd.2)
                                          else Option.none
                                        else Option.none
                                    else Option.none)
                                    fun (v9 : Bool × List Int × List Int × List Int × List Bool) =>
                                    if v9.fst = Bool.true then Option.some (Sum.inr (Sum.inr Bool.false))
                                    else Option.some (Sum.inl (Go.IntKind.wrap Go.IntKind.i64 (s8.fst + (1 : Int)), v9.snd.1, v9.snd.snd.1, v9.snd.snd.snd.1, v9.snd.snd.snd.2))
                                else Option.some (Sum.inr (Sum.inl ())))
                              ((0 : Int), v7.1, v7.snd.1, v7.snd.snd.1, v7.snd.snd.2))
                            fun (v8 : PUnit ⊕ Bool) => Sum.elim (fun (p9 : PUnit) => Option.some Bool.true) (fun (q9 : Bool) => Option.some q9) v8
                      else Option.none
theorem K.f13eq : ∀ x, runFn K.C K.f13Γ K.f13sig K.f13ann Go.Proofs.Try.f13 x = K.f13F x := by
  intro x
  kernel_rfl
noncomputable def K.f13con : Con := ⟨13, K.f13sig, K.f13F⟩
theorem K.f13ok : Con.Ok Go.Proofs.Try.prog K.C K.f13con :=
  runFn_ok (Γ := K.f13Γ) (an := K.f13ann) ⟨K.Cok, (List.forall_mem_cons.2 ⟨K.f31ok, (List.forall_mem_cons.2 ⟨K.f39ok, (List.forall_mem_cons.2 ⟨K.f24ok, (List.forall_mem_cons.2 ⟨K.f35ok, (fun _ h => nomatch h)⟩)⟩)⟩)⟩), K.mixed⟩ Go.Proofs.Try.func13 rfl rfl (fun x y h => (K.f13eq x).trans h) (by decide)
def K.f14sig : Sig := ⟨⟨[.hole (.sl (.int .i64)), .hole (.arr 2 (.int .u16))], []⟩, ⟨[.hole .bool], []⟩⟩
noncomputable def K.f14Γ : List Con := [K.f31con, K.f32con, K.f37con]
def K.f14ann : Ann :=
  (.seq .leaf (.seq (.seq .leaf (.cond (.seq .leaf .leaf) .leaf)) (.seq (.seq .leaf (.cond (.seq .leaf .leaf) .leaf)) (.seq .leaf (.seq .leaf (.seq .leaf (.seq .leaf (.seq .leaf (.seq (.seq .leaf (.block (.loop ⟨.normal, [(14, .hole (.int .i64))], [.gone]⟩ [⟨(.exit 0), [], [.gone]⟩, ⟨.ret, [(4, .hole .bool)], [.gone]⟩] (.seq (.seq .leaf (.cond .leaf .leaf)) (.seq (.block (.seq .leaf (.seq .leaf (.seq (.join [⟨.normal, [(98, .hole .bool)], [.gone]⟩] .leaf) (.cond (.seq .leaf .leaf) .leaf))))) .leaf))))) (.seq .leaf .leaf))))))))))
/- ductus/ductuslaw10.BrackSides -/
noncomputable def K.f14F : List Int × List Int → Option (Bool) :=
  fun (x : List Int × List Int) =>
  Option.bind (Go.Sx.K.f31F ()) fun (v1 : Bool) =>
    if (!v1) = Bool.true then Option.some Bool.false
    else
      if Decidable.decide ((↑(List.length x.fst) : Int) > (300 : Int)) = Bool.true then Option.some Bool.true
      else
        if (0 : Int) ≤ (0 : Int) ∧ (0 : Int) < (↑(2 : Nat) : Int) then
          if Go.IntKind.wrap Go.IntKind.i64 ((↑(List.length x.fst) : Int) + (1 : Int)) = (0 : Int) then Option.none
          else
            if (0 : Int) ≤ (1 : Int) ∧ (1 : Int) < (↑(2 : Nat) : Int) then
              if Go.IntKind.wrap Go.IntKind.i64 ((↑(List.length x.fst) : Int) + (1 : Int)) = (0 : Int) then Option.none
              else
                Option.bind
                  (Go.Sx.K.f32F
                    (x.1, (0 : Int),
                      if
                          Int.tmod (Go.IntKind.wrap Go.IntKind.i64 (List.getD x.snd (nat_lit 1) (0 : Int))) (Go.IntKind.wrap Go.IntKind.i64 ((↑(List.length x.fst) : Int) + (1 : Int))) <
                            Int.tmod (Go.IntKind.wrap Go.IntKind.i64 (List.getD x.snd (nat_lit 0) (0 : Int))) (Go.IntKind.wrap Go.IntKind.i64 ((↑(List.length x.fst) : Int) + (1 : Int))) then
                        Int.tmod (Go.IntKind.wrap Go.IntKind.i64 (List.getD x.snd (nat_lit 1) (0 : Int))) (Go.IntKind.wrap Go.IntKind.i64 ((↑(List.length x.fst) : Int) + (1 : Int)))
                      else Int.tmod (Go.IntKind.wrap Go.IntKind.i64 (List.getD x.snd (nat_lit 0) (0 : Int))) (Go.IntKind.wrap Go.IntKind.i64 ((↑(List.length x.fst) : Int) + (1 : Int)))))
                  fun (v2 : Bool × Bool) =>
                  Option.bind
                    (Go.Sx.K.f32F
                      (x.1,
                        if
                            Int.tmod (Go.IntKind.wrap Go.IntKind.i64 (List.getD x.snd (nat_lit 1) (0 : Int))) (Go.IntKind.wrap Go.IntKind.i64 ((↑(List.length x.fst) : Int) + (1 : Int))) <
                              Int.tmod (Go.IntKind.wrap Go.IntKind.i64 (List.getD x.snd (nat_lit 0) (0 : Int))) (Go.IntKind.wrap Go.IntKind.i64 ((↑(List.length x.fst) : Int) + (1 : Int))) then
                          Int.tmod (Go.IntKind.wrap Go.IntKind.i64 (List.getD x.snd (nat_lit 1) (0 : Int))) (Go.IntKind.wrap Go.IntKind.i64 ((↑(List.length x.fst) : Int) + (1 : Int)))
                        else Int.tmod (Go.IntKind.wrap Go.IntKind.i64 (List.getD x.snd (nat_lit 0) (0 : Int))) (Go.IntKind.wrap Go.IntKind.i64 ((↑(List.length x.fst) : Int) + (1 : Int))),
                        (↑(List.length x.fst) : Int)))
                    fun (v3 : Bool × Bool) =>
                    Option.bind (Go.Sx.K.f32F (x.1, (-5 : Int), Go.IntKind.wrap Go.IntKind.i64 ((↑(List.length x.fst) : Int) + (5 : Int)))) fun (v4 : Bool × Bool) =>
                      Option.bind
                        (Go.Sx.iter
                          (fun (s5 : Int) =>
                            if Decidable.decide (s5 < (↑(List.length x.fst) : Int)) = Bool.true then
                              Option.bind (Go.Sx.K.f32F (x.1, s5, Go.IntKind.wrap Go.IntKind.i64 (s5 + (1 : Int)))) fun (v6 : Bool × Bool) =>
                                if (0 : Int) ≤ s5 ∧ s5 < (↑(List.length x.fst) : Int) then
                                  Option.bind (Go.Sx.K.f37F (List.getD x.fst (Int.toNat s5) (0 : Int))) fun (v7 : Int) =>
                                    Option.bind
                                      (if (!v6.fst == (v7 == (0 : Int))) = Bool.true then Option.some Bool.true
                                      else
                                        if (!v6.snd == (v7 == (1 : Int))) = Bool.true then Option.some Bool.true
                                        else if Decidable.decide (v7 < (-1 : Int)) = Bool.true then Option.some Bool.true else Option.some (Decidable.decide (v7 > (1 : Int))))
                                      fun (v8 : Bool) => if v8 = Bool.true then Option.some (Sum.inr (Sum.inr Bool.false)) else Option.some (Sum.inl (Go.IntKind.wrap Go.IntKind.i64 (s5 + (1 : Int))))
                                else Option.none
                            else Option.some (Sum.inr (Sum.inl ())))
                          (0 : Int))
                        fun (v5 : PUnit ⊕ Bool) =>
                        Sum.elim
                          (fun (p6 : PUnit) =>
                            if v2.fst = Bool.true then
                              if (v4.fst == Bool.true) = Bool.true then if v2.snd = Bool.true then Option.some (v4.snd == Bool.true) else Option.some (v4.snd == v3.snd) else Option.some Bool.false
                            else if (v4.fst == v3.fst) = Bool.true then if v2.snd = Bool.true then Option.some (v4.snd == Bool.true) else Option.some (v4.snd == v3.snd) else Option.some Bool.false)
                          (fun (q6 : Bool) => Option.some q6) v5
            else Option.none
        else Option.none
theorem K.f14eq : ∀ x, runFn K.C K.f14Γ K.f14sig K.f14ann Go.Proofs.Try.f14 x = K.f14F x := by
  intro x
  kernel_rfl
noncomputable def K.f14con : Con := ⟨14, K.f14sig, K.f14F⟩
theorem K.f14ok : Con.Ok Go.Proofs.Try.prog K.C K.f14con :=
  runFn_ok (Γ := K.f14Γ) (an := K.f14ann) ⟨K.Cok, (List.forall_mem_cons.2 ⟨K.f31ok, (List.forall_mem_cons.2 ⟨K.f32ok, (List.forall_mem_cons.2 ⟨K.f37ok, (fun _ h => nomatch h)⟩)⟩)⟩), K.mixed⟩ Go.Proofs.Try.func14 rfl rfl (fun x y h => (K.f14eq x).trans h) (by decide)
end Go.Sx
