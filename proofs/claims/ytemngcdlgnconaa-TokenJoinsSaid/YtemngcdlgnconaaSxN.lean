/- The symbolic evaluator, part N: code, and functions. -/
import Derived.Test.YtemngcdlgnconaaSxV7
import Derived.LoopN
import Derived.ScopeJumps
set_option linter.unusedVariables false
set_option linter.unusedSimpArgs false
namespace Go.Sx
open Go.RowKit
section
variable {R : Type} {r : R} {P : Program} {C : Ctx} {Γ : List Con} {B : Base} {E : Env} {fr : List SV} {hp : List HO} {a : Act} {w w' : World}
theorem iter_some {S T : Type} {f : S → Option (S ⊕ T)} {s : S} {e : T} (h : iter f s = some e) : ∃ n, iterN f n s = some e := by
  unfold iter at h
  split at h
  · exact ⟨_, h⟩
  · cases h
theorem fetch_some : ∀ {l : List (Nat × Sh)} {k : List SV → Option R}, SV.satL E fr a.tmps.toList → fetch fr l k = some r → ∃ ss vs, SV.satL E ss vs ∧ k ss = some r ∧ vs.length = l.length ∧ ∀ (i : Nat) (p : Nat × Sh), l[i]? = some p → vs[i]? = a.tmps[p.1]?
  | [], k, _, h => ⟨[], [], by simp [SV.satL], h, rfl, fun i p hi => by simp at hi⟩
  | (t, s) :: l, k, hf, h => by
    unfold fetch at h
    replace h := nthK_some h; obtain ⟨x, h1, h⟩ := h
    obtain ⟨v, h2, h3⟩ := tmp_get hf h1
    obtain ⟨ss, vs, g1, g2, g3, g4⟩ := fetch_some hf h
    refine ⟨x :: ss, v :: vs, by simp only [SV.satL]; exact ⟨v, vs, rfl, h3, g1⟩, g2, by simp [g3], fun i p hi => ?_⟩
    cases i with
    | zero => simp at hi; subst hi; simp [h2]
    | succ i => simpa using g4 i p (by simpa using hi)
theorem satL_set_same {t : Nat} {s : SV} {v : Value} (hf : SV.satL E fr a.tmps.toList) (hv : a.tmps[t]? = some v) (hs : s.sat E v) : SV.satL E (fr.set t s) a.tmps.toList := by
  have := satL_set (i := t) hf hs
  have hh : a.tmps.toList.set t v = a.tmps.toList := by
    apply List.ext_getElem?
    intro i
    rw [List.getElem?_set]
    split
    · rename_i hi
      subst hi
      have h1 : a.tmps.toList[t]? = some v := by simpa using hv
      have hl := (List.getElem?_eq_some_iff.1 h1).1
      rw [if_pos hl, h1]
    · rfl
  rwa [hh] at this
theorem lay_some : ∀ {l : List (Nat × Sh)} {fr : List SV} {ss : List SV} {vs : List Value} {k : List SV → Option R}, SV.satL E fr a.tmps.toList → SV.satL E ss vs → (∀ (i : Nat) (p : Nat × Sh), l[i]? = some p → vs[i]? = a.tmps[p.1]?) → lay fr l ss k = some r →
    ∃ fr', SV.satL E fr' a.tmps.toList ∧ k fr' = some r
  | [], fr, ss, vs, k, hf, _, _, h => ⟨fr, hf, by cases ss <;> exact h⟩
  | (t, x) :: l, fr, [], vs, k, hf, hs, hi, h => by simp [lay] at h
  | (t, x) :: l, fr, s :: ss, vs, k, hf, hs, hi, h => by
    unfold lay at h
    rw [setK_eq] at h
    simp only [SV.satL] at hs
    obtain ⟨v, us, e, h1, h2⟩ := hs
    subst e
    have hv : some v = a.tmps[t]? := by simpa using hi 0 (t, x) (by simp)
    exact lay_some (satL_set_same hf hv.symm h1) h2 (fun i p hp => by simpa using hi (i + 1) p (by simpa using hp)) h
theorem forget_eq : ∀ (l : List Tmp) (fr : List SV) (k : List SV → Option R), forget fr l k = k (l.foldl (fun fr t => fr.set t .und) fr)
  | [], _, _ => rfl
  | t :: l, fr, k => by
    unfold forget
    rw [setK_eq, forget_eq l]
    rfl
theorem forget_sat {a' : Act} : ∀ {l : List Tmp} {fr : List SV}, (∀ (t : Nat) (s : SV), fr[t]? = some s → ∃ v, a'.tmps[t]? = some v ∧ (t ∉ l → s.sat E v)) → fr.length = a'.tmps.size → SV.satL E (l.foldl (fun fr t => fr.set t .und) fr) a'.tmps.toList
  | [], fr, h, hl => by
    -- all are as they were
    have key : ∀ (fr : List SV) (vs : List Value), fr.length = vs.length → (∀ (t : Nat) (s : SV), fr[t]? = some s → ∃ v, vs[t]? = some v ∧ s.sat E v) → SV.satL E fr vs := by
      intro fr
      induction fr with
      | nil => intro vs hl _; have : vs = [] := List.eq_nil_of_length_eq_zero (by simpa using hl.symm); subst this; simp [SV.satL]
      | cons s fr ih =>
        intro vs hl h
        cases vs with
        | nil => simp at hl
        | cons v vs =>
          simp only [SV.satL]
          obtain ⟨u, h1, h2⟩ := h 0 s (by simp)
          simp at h1
          subst h1
          exact ⟨v, vs, rfl, h2, ih vs (by simpa using hl) (fun t s' hs' => by simpa using h (t + 1) s' (by simpa using hs'))⟩
    exact key fr a'.tmps.toList (by simpa using hl) (fun t s hs => by
      obtain ⟨v, h1, h2⟩ := h t s hs
      exact ⟨v, by simpa using h1, h2 (by simp)⟩)
  | u :: l, fr, h, hl => by
    simp only [List.foldl_cons]
    refine forget_sat (fun t s hs => ?_) (by simpa using hl)
    rw [List.getElem?_set] at hs
    split at hs
    · split at hs
      · cases hs
        rename_i h1 h2
        subst h1
        obtain ⟨v, g1, _⟩ := h u _ (List.getElem?_eq_getElem h2)
        exact ⟨v, g1, fun _ => by simp [SV.sat]⟩
      · cases hs
    · rename_i hne
      obtain ⟨v, g1, g2⟩ := h t s hs
      exact ⟨v, g1, fun ht => g2 (by simp; exact ⟨fun e => hne e.symm, ht⟩)⟩
theorem forget_keeps {a' : Act} {E' : Env} {l : List Tmp} (hf : SV.satL E fr a.tmps.toList) (hE : E.le E') (hk : Keeps l a a') : SV.satL E' (l.foldl (fun fr t => fr.set t .und) fr) a'.tmps.toList := by
  have hl := SV.satL_length hf
  refine forget_sat (fun t s hs => ?_) (by rw [hk.size]; simpa using hl.symm)
  obtain ⟨v, h1, h2⟩ := tmp_get hf hs
  have ht := (Array.getElem?_eq_some_iff.1 h1).1
  refine ⟨a'.tmps[t]'(by rw [hk.size]; exact ht), Array.getElem?_eq_getElem _, fun hn => ?_⟩
  have h3 := hk.tmps t hn
  rw [h1, Array.getElem?_eq_getElem (by rw [hk.size]; exact ht)] at h3
  rw [Option.some.inj h3]
  exact SV.sat_mono hE s v h2
theorem packJ_openJ {E0 : Env} {fr0 fr1 : List SV} {a0 a1 : Act} {j : Jn} {l : List Tmp} {x : Tup j.skel.tys} {R' : Type} {r' : R'} {k : List SV → List HO → Option R'} {n0 : Nat} (hn0 : n0 = E0.L.length)
    (hf0 : SV.satL E0 fr0 a0.tmps.toList) (hE : E0.le E) (hh : Hp B E hp w) (hn : n0 ≤ hp.length) (hf : SV.satL E fr1 a1.tmps.toList) (hk : Keeps l a0 a1)
    (hp1 : packJ n0 j fr1 hp some = some x) (h : openJ j (l.foldl (fun fr t => fr.set t .und) fr0) x k = some r') :
    ∃ E' fr' hp', E0.le E' ∧ Hp B E' hp' w ∧ SV.satL E' fr' a1.tmps.toList ∧ k fr' hp' = some r' := by
  unfold packJ at hp1
  cases hle : Nat.ble n0 j.objs.length with
  | false => rw [hle] at hp1; cases hp1
  | true =>
    rw [hle, cond_true] at hp1
    have hle' := Nat.le_of_ble_eq_true hle
    obtain ⟨ss, vs, s1, hp1', s2, s3⟩ := fetch_some hf hp1
    replace hp1' := pack_some hh s1 hn hp1'; obtain ⟨E1, hp2, ds, mp, hpk, hp1'⟩ := hp1'
    replace hp1' := toTup_some hp1'; obtain ⟨y, hy, hp1'⟩ := hp1'
    have hxy : y = x := Option.some.inj hp1'
    subst hxy
    subst hy
    obtain ⟨hH, hS⟩ := hpk.heap
    unfold openJ at h
    replace h := build_some h
    have hE' : E0.le (pEnv E E1 mp) := by
      refine ⟨Mem.le_trans hE.1 hpk.frz.le.1, fun i e hi => ?_⟩
      have hil := (List.getElem?_eq_some_iff.1 hi).1
      show (mp.map (pmLE E))[i]? = some e
      rw [List.getElem?_map, hpk.fix i (by omega) (by show i < j.objs.length; omega)]
      simp [pmLE, hE.2 i e hi]
    have hfg := forget_keeps hf0 hE' hk
    obtain ⟨fr', g1, g2⟩ := lay_some hfg hS s3 h
    exact ⟨_, fr', _, hE', hH, g1, g2⟩
theorem same_eq {x y : Lv} (h : x.same y = true) : x = y := by
  cases x <;> cases y <;> simp_all [Lv.same]
theorem withO_some {α : Type} {x : Option α} {k : α → Option R} (h : withO x k = some r) : ∃ y, x = some y ∧ k y = some r := by
  cases x with
  | none => cases h
  | some y => exact ⟨y, rfl, h⟩
theorem goJ_at {j : Jn} {lv : Lv} (h : j.lv.same lv = true) {R' : Type} (K : Ks R') (fr0 : List SV) (x : Tup j.skel.tys) : goJ K fr0 j x = openJ j fr0 x (K.at lv) := by
  have e := same_eq h
  unfold goJ
  cases lv <;> rw [e]
  rw [e] at h
  simp [Lv.same] at h
theorem leaveP_some {T : TypeId} {t : Ty} {d : t.den} : ∀ {js : List Jn} {k : SumT js → Option R}, leaveP T t d js k = some r →
    ∃ (s : SumT js), k s = some r ∧ ∀ {R' : Type} (K : Ks R') (fr0 : List SV), goOn K fr0 js s = K.p T t d
  | [], k, h => by simp [leaveP] at h
  | [j], k, h => by
    unfold leaveP at h
    split at h
    case h_2 => cases h
    case h_1 T' hl =>
      cases hb : Nat.beq T' T with
      | false => rw [hb] at h; cases h
      | true =>
        rw [hb, cond_true] at h
        obtain rfl := Nat.eq_of_beq_eq_true hb
        obtain ⟨x, hx, h⟩ := toTup_some h
        refine ⟨x, h, fun K fr0 => ?_⟩
        show goJ K fr0 j x = _
        unfold goJ
        rw [hl]
        show goP K T' (ofTup j.skel.tys x) = _
        rw [hx]
        rfl
  | j :: i :: l, k, h => by
    unfold leaveP at h
    have nxt : (leaveP T t d (i :: l) fun x => k (.inr x)) = some r → ∃ (s : SumT (j :: i :: l)), k s = some r ∧ ∀ {R' : Type} (K : Ks R') (fr0 : List SV), goOn K fr0 (j :: i :: l) s = K.p T t d := fun h => by
      obtain ⟨s, h1, h2⟩ := leaveP_some h
      exact ⟨.inr s, h1, fun K fr0 => h2 K fr0⟩
    split at h
    case h_2 => exact nxt h
    case h_1 T' hl =>
      cases hb : Nat.beq T' T with
      | false => rw [hb] at h; exact nxt h
      | true =>
        rw [hb, cond_true] at h
        obtain rfl := Nat.eq_of_beq_eq_true hb
        obtain ⟨x, hx, h⟩ := toTup_some h
        refine ⟨.inl x, h, fun K fr0 => ?_⟩
        show goJ K fr0 j x = _
        unfold goJ
        rw [hl]
        show goP K T' (ofTup j.skel.tys x) = _
        rw [hx]
        rfl
theorem leaveK_some {n0 : Nat} {lv : Lv} : ∀ {js : List Jn} {k : SumT js → Option R}, leaveK n0 js lv fr hp k = some r →
    ∃ (j : Jn) (x : Tup j.skel.tys) (s : SumT js), packJ n0 j fr hp some = some x ∧ k s = some r ∧ ∀ {R' : Type} (K : Ks R') (fr0 : List SV), goOn K fr0 js s = openJ j fr0 x (K.at lv)
  | [], k, h => by simp [leaveK] at h
  | [j], k, h => by
    unfold leaveK at h
    cases hs : j.lv.same lv with
    | false => rw [hs] at h; cases h
    | true =>
      rw [hs, cond_true] at h
      obtain ⟨x, h1, h2⟩ := withO_some h
      exact ⟨j, x, x, h1, h2, fun K fr0 => goJ_at hs K fr0 x⟩
  | j :: i :: l, k, h => by
    unfold leaveK at h
    cases hs : j.lv.same lv with
    | true =>
      rw [hs, cond_true] at h
      obtain ⟨x, h1, h2⟩ := withO_some h
      exact ⟨j, x, .inl x, h1, h2, fun K fr0 => goJ_at hs K fr0 x⟩
    | false =>
      rw [hs, cond_false] at h
      obtain ⟨j', x, s, h1, h2, h4⟩ := leaveK_some (k := fun x => k (.inr x)) h
      exact ⟨j', x, .inr s, h1, h2, fun K fr0 => h4 K fr0⟩
def Lv.toExit : Lv → Exit
  | .normal => .normal
  | .exit i => .exit i
  | .ret => .ret
  | .goto l => .goto l
  | .panic _ => .outgrown
theorem catN_mem {t : Nat} : ∀ {l m : List Nat}, t ∈ catN l m ↔ t ∈ l ∨ t ∈ m
  | [], m => by simp [catN]
  | x :: l, m => by simp only [catN, List.mem_cons, catN_mem (l := l) (m := m)]; exact or_assoc.symm
theorem opsDst_mem {t : Tmp} : ∀ {l : List Oper} {o : Oper}, o ∈ l → o.dst = some t → t ∈ opsDst l
  | [], o, h, _ => by simp at h
  | x :: l, o, h, hd => by
    unfold opsDst
    rcases List.mem_cons.1 h with h | h
    · subst h; rw [hd]; simp
    · cases hx : x.dst with
      | none => exact opsDst_mem h hd
      | some u => exact List.mem_cons_of_mem _ (opsDst_mem h hd)
def Post (B : Base) (E : Env) (a : Act) (l : List Tmp) (K : Ks R) (r : R) (Q : Exit → Act → World → Prop) : Prop :=
  ∀ (lv : Lv) (E' : Env) (fr' : List SV) (hp' : List HO) (a' : Act) (w' : World), E.le E' → Hp B E' hp' w' → SV.satL E' fr' a'.tmps.toList → Keeps l a a' → K.at lv fr' hp' = some r → Q lv.toExit a' w'
def PostP (B : Base) (E : Env) (a : Act) (l : List Tmp) (K : Ks R) (r : R) (Q : Exit → Act → World → Prop) : Prop :=
  ∀ (M' : Mem) (T : TypeId) (t : Ty) (d : t.den) (cs : List Value) (a' : Act) (w' : World), E.M.le M' → Hp B ⟨M', []⟩ [] w' → Keeps l a a' → Rep M' t d cs → K.p T t d = some r → Q (.panic [{ v := .iface T (valOf t cs), recovered := false }]) a' w'
theorem PostP.of {R' : Type} {r' : R'} {K : Ks R} {K' : Ks R'} {Q Q' : Exit → Act → World → Prop} {l l' : List Tmp} {E' : Env} {a' : Act} (hP : PostP B E a l K r Q) (hE : E.M.le E'.M) (hk : Keeps l a a') (hl : ∀ t ∈ l', t ∈ l)
    (hK : ∀ T t d, K'.p T t d = some r' → K.p T t d = some r) (hQ : ∀ ch a w, Q (.panic ch) a w → Q' (.panic ch) a w) : PostP B E' a' l' K' r' Q' :=
  fun M' T t d cs a2 w' h1 h2 h3 h4 h5 => hQ _ _ _ (hP M' T t d cs a2 w' (Mem.le_trans hE h1) h2 (hk.trans (h3.mono hl)) h4 (hK _ _ _ h5))
theorem pconK_some {f : FuncId} {k : PCon → Option R} : ∀ {Θ : List PCon}, pconK Θ f k = some r → ∃ c, c ∈ Θ ∧ c.f = f ∧ k c = some r
  | [], h => by cases h
  | c :: l, h => by
    unfold pconK at h
    cases hb : Nat.beq c.f f with
    | true => rw [hb, cond_true] at h; exact ⟨c, by simp, Nat.eq_of_beq_eq_true hb, h⟩
    | false =>
      rw [hb, cond_false] at h
      obtain ⟨c', h1, h2, h3⟩ := pconK_some h
      exact ⟨c', by simp [h1], h2, h3⟩
theorem upon_then {o : Oper} {Q : Exit → Act → World → Prop} {n1 n2 N : Act → World → Prop} (hn : ∀ a w, n1 a w → n2 a w) : ∀ {x : Result Next}, o.upon P a n1 (Exit.then N Q) x → o.upon P a n2 Q x := by
  intro x h
  unfold Oper.upon at h ⊢
  split at h
  · exact hn _ _ h
  · exact hn _ _ h
  · exact hn _ _ h
  · refine h.mono fun e w' he => ?_
    cases e with
    | returned v => exact hn _ _ he
    | panicked ch => exact he
    | outgrown => exact he
  · obtain ⟨h⟩ := (show Nonempty _ from ⟨h⟩)
    exact fun fr cs => let ⟨v, w2, h1, h2⟩ := h fr cs; ⟨v, w2, hn _ _ h1, h2⟩
  · exact h
  · exact h
theorem wpList_append {ops : Array Oper} {Q : Exit → Act → World → Prop} {l : List Oper} : ∀ {pre : List Oper} {a : Act} {w : World}, wpList P ops (Exit.then (wpList P ops Q l) Q) pre a w → wpList P ops Q (pre ++ l) a w
  | [], a, w, h => h
  | o :: pre, a, w, h => by
    rw [List.cons_append]
    unfold wpList at h ⊢
    split at h
    · rename_i hw
      rw [if_pos hw]
      rcases h with h | ⟨h1, h2⟩
      · exact .inl (upon_then (fun a w => wpList_append) h)
      · exact .inr ⟨h1, h2⟩
    · rename_i hw
      rw [if_neg hw]
      exact wpList_append h
theorem evOpsS_wp {l : List Tmp} {ops : Array Oper} (hG : Given P C Γ) (hh : Hp B E hp w) (hg : C.globsOk E.M) : ∀ {os : List Oper} {fr : List SV} {a : Act} {k : List SV → Option R} {K : Act → Prop}, SV.satL E fr a.tmps.toList →
    (∀ o ∈ os, ∀ t, o.dst = some t → t ∈ l) → (∀ fr' a', SV.satL E fr' a'.tmps.toList → Keeps l a a' → k fr' = some r → K a') → evOpsQ C [] ops.toList os fr hp k = some r → wpStill P ops w K os a
  | [], fr, a, k, K, hf, hd, hn, h => hn fr a hf (Keeps.refl l a) h
  | o :: os, fr, a, k, K, hf, hd, hn, h => by
    have hdo := hd o (by simp)
    have hdos : ∀ o' ∈ os, ∀ t, o'.dst = some t → t ∈ l := fun o' ho' => hd o' (by simp [ho'])
    have doIt : ∀ {fr0 : List SV}, SV.satL E fr0 a.tmps.toList → (evQuiet C [] fr0 hp o fun fr => evOpsQ C [] ops.toList os fr hp k) = some r → o.still P a w (wpStill P ops w K os) := by
      intro fr0 hf0 h0
      unfold evQuiet at h0
      split at h0
      case h_1 x args argTypes ho =>
        obtain ⟨c, vs, hm, _⟩ := callK_con h0
        cases hm
      case h_2 =>
        cases he : isEff o.op with
        | true => rw [he] at h0; cases h0
        | false =>
          rw [he, cond_false] at h0
          obtain ⟨v, s, h1, h2, h3⟩ := evPure_sound hG.ctx hh hf0 hg h0
          obtain ⟨fr', q4, q5⟩ := putD_some hf0 h1 h2
          unfold Oper.still
          rw [h3 w (Below.refl _ _), Oper.stillUpon_value]
          exact evOpsS_wp hG hh hg q4 hdos (fun fr'' a'' g1 g2 g3 => hn fr'' a'' g1 ((Keeps.put l a o.dst v hdo).trans g2) g3) q5
    have leave : ∀ {fr0 : List SV}, SV.satL E fr0 a.tmps.toList → (putD fr0 o.dst .skip fun fr => evOpsQ C [] ops.toList os fr hp k) = some r → wpStill P ops w K os (a.put o.dst undef) := by
      intro fr0 hf0 h0
      obtain ⟨fr', h1, h2⟩ := putD_some (v := undef) hf0 (by simp [SV.sat]) h0
      exact evOpsS_wp hG hh hg h1 hdos (fun fr'' a'' g1 g2 g3 => hn fr'' a'' g1 ((Keeps.put l a o.dst undef hdo).trans g2) g3) h2
    unfold evOpsQ at h
    unfold wpStill
    split at h
    case h_1 hgd =>
      have hw : Region.wanted o (yielded ops a.tmps) = true := by simp [Region.wanted, hgd]
      rw [if_pos hw]
      exact doIt hf h
    case h_2 j want hgd =>
      split at h
      case h_1 => cases h
      case h_2 d hds =>
        replace h := nthK_some h; obtain ⟨s, hs, h⟩ := h
        obtain ⟨v, hv, hsv⟩ := tmp_get hf hs
        split at h
        case h_1 b =>
          have : v = .bool b := by simpa [SV.sat] using hsv
          subst this
          have hw := wanted_bool hgd hds hv
          cases hb : (b == want) with
          | true =>
            rw [hb] at h hw
            rw [if_pos hw]
            exact doIt hf h
          | false =>
            rw [hb] at h hw
            rw [if_neg (by rw [hw]; simp)]
            exact leave hf h
        case h_2 =>
          have : v = undef := by simpa [SV.sat] using hsv
          subst this
          have hw := wanted_skip hgd hds hv
          rw [if_neg (by rw [hw]; simp)]
          exact leave hf h
        case h_3 c =>
          simp only [SV.sat] at hsv
          have := rep_bool hsv
          subst this
          have hw := wanted_bool hgd hds hv
          cases hc : c with
          | true =>
            subst hc
            rw [if_pos rfl, setK_eq] at h
            have hf' := set_bit hf hv
            cases want with
            | true => rw [if_pos (by rw [hw]; rfl)]; exact doIt hf' h
            | false => rw [if_neg (by rw [hw]; simp)]; exact leave hf' h
          | false =>
            subst hc
            rw [if_neg (by simp), setK_eq] at h
            have hf' := set_bit hf hv
            cases want with
            | true => rw [if_neg (by rw [hw]; simp)]; exact leave hf' h
            | false => rw [if_pos (by rw [hw]; rfl)]; exact doIt hf' h
        case h_4 => cases h
theorem asg_label {l : Nat} : ∀ {c rest : Code}, findLabel c l = some rest → ∀ t ∈ asg rest, t ∈ asg c := by
  intro c
  induction c with
  | seq a b iha ihb =>
    intro rest h t ht
    simp only [findLabel] at h
    simp only [asg, catN_mem]
    cases ha : findLabel a l with
    | some r =>
      rw [ha] at h
      simp only [Option.some.injEq] at h
      subst h
      simp only [asg, catN_mem] at ht
      rcases ht with ht | ht
      · exact .inl (iha ha t ht)
      · exact .inr ht
    | none =>
      rw [ha] at h
      exact .inr (ihb h t ht)
  | label l' =>
    intro rest h t ht
    simp only [findLabel] at h
    split at h
    · simp only [Option.some.injEq] at h
      subst h
      simp [asg] at ht
    · cases h
  | _ => intro rest h; simp [findLabel] at h
theorem least_of {p : Nat → Prop} : ∀ {n : Nat}, p n → ∃ m, p m ∧ ∀ k, p k → m ≤ k := by
  intro n
  induction n using Nat.strongRecOn with
  | _ n ih =>
    intro hn
    by_cases h : ∃ k, k < n ∧ p k
    · obtain ⟨k, h1, h2⟩ := h
      exact ih k h1 h2
    · refine ⟨n, hn, fun k hk => ?_⟩
      rcases Nat.lt_or_ge k n with h1 | h1
      · exact absurd ⟨k, h1, hk⟩ h
      · exact h1
open Classical in
noncomputable def leastN (p : Nat → Prop) : Nat := if h : ∃ m, p m ∧ ∀ k, p k → m ≤ k then h.choose else 0
theorem leastN_spec {p : Nat → Prop} {n : Nat} (h : p n) : p (leastN p) ∧ ∀ k, p k → leastN p ≤ k := by
  have h' := least_of h
  unfold leastN
  rw [dif_pos h']
  exact h'.choose_spec
def Exit.jumps (J : Nat → Act → World → Prop) (Q : Exit → Act → World → Prop) : Exit → Act → World → Prop
  | .goto l, a, w => J l a w
  | e, a, w => Q e a w
theorem wp_scope_many {Q : Exit → Act → World → Prop} {c : Code} (J : Nat → Act → World → Prop) (μ : Nat → Act → World → Nat)
    (pass : ∀ l a w, J l a w → ∃ rest, findLabel c l = some rest ∧ rest.wp P (Exit.jumps (fun l' a' w' => J l' a' w' ∧ μ l' a' w' < μ l a w) Q) a w)
    (first : c.wp P (Exit.jumps J Q) a w) : (Code.scope c).wp P Q a w := by
  intro b k cs
  have hg : ∀ {l rest}, findLabel c l = some rest → gotoIn l (.inScope c :: k) = some (.code rest :: .inScope c :: k) := fun hf => by simp [gotoIn, hf]
  have key : ∀ n l a w rest, findLabel c l = some rest → μ l a w = n → J l a w → ∃ e a' w', Q e a' w' ∧ Arrives P (lone (b.at a (.code rest :: .inScope c :: k)) cs w) b k cs e a' w' := by
    intro n
    induction n using Nat.strongRecOn with
    | _ n ih =>
      intro l a w rest hfl hn hJ
      obtain ⟨rest', hfl', hp⟩ := pass l a w hJ
      rw [hfl] at hfl'
      cases hfl'
      obtain ⟨e, a₁, w₁, hq, harr⟩ := hp b (.inScope c :: k) cs
      cases e with
      | normal => exact ⟨.normal, a₁, w₁, hq, Steps.trans harr (.one step_inScope)⟩
      | exit id => exact ⟨.exit id, a₁, w₁, hq, fun k' hk => harr k' (by simp [exitTo, hk])⟩
      | goto l' =>
        obtain ⟨hJ', hlt⟩ := hq
        obtain ⟨rest2, hfl2, _⟩ := pass l' a₁ w₁ hJ'
        obtain ⟨e₂, a₂, w₂, hq₂, harr₂⟩ := ih _ (by omega) l' a₁ w₁ rest2 hfl2 rfl hJ'
        exact ⟨e₂, a₂, w₂, hq₂, .of_steps (harr _ (hg hfl2)) harr₂⟩
      | ret => exact ⟨_, a₁, w₁, hq, harr⟩
      | panic ch => exact ⟨_, a₁, w₁, hq, harr⟩
      | outgrown => exact ⟨_, a₁, w₁, hq, harr⟩
  obtain ⟨e, a₁, w₁, hq, harr⟩ := first b (.inScope c :: k) cs
  cases e with
  | normal => exact ⟨.normal, a₁, w₁, hq, .head step_scope (Steps.trans harr (.one step_inScope))⟩
  | exit id => exact ⟨.exit id, a₁, w₁, hq, fun k' hk => .head step_scope (harr k' (by simp [exitTo, hk]))⟩
  | goto l' =>
    obtain ⟨rest2, hfl2, _⟩ := pass l' a₁ w₁ hq
    obtain ⟨e₂, a₂, w₂, hq₂, harr₂⟩ := key _ l' a₁ w₁ rest2 hfl2 rfl hq
    exact ⟨e₂, a₂, w₂, hq₂, .of_steps (.head step_scope (harr _ (hg hfl2))) harr₂⟩
  | ret => exact ⟨_, a₁, w₁, hq, .of_steps (.one step_scope) harr⟩
  | panic ch => exact ⟨_, a₁, w₁, hq, .of_steps (.one step_scope) harr⟩
  | outgrown => exact ⟨_, a₁, w₁, hq, .of_steps (.one step_scope) harr⟩
theorem run_soundP {Θ : List PCon} (hG : Given P C Γ) (hT : ∀ c ∈ Θ, c.Ok P C) : ∀ {an : Ann} {R : Type} {r : R} {c : Code} {E : Env} {fr : List SV} {hp : List HO} {a : Act} {w : World} {K : Ks R} {Q : Exit → Act → World → Prop},
    Hp B E hp w → SV.satL E fr a.tmps.toList → C.globsOk E.M → run C Γ Θ an c fr hp K = some r → Post B E a (asg c) K r Q → PostP B E a (asg c) K r Q → c.wp P Q a w
  | .leaf, R, r, c, E, fr, hp, a, w, K, Q, hh, hf, hg, h, hQ, hP => by
    cases c <;> try (simp [run] at h; done)
    case skip => exact wp_skip (hQ .normal E fr hp a w (Env.le_refl E) hh hf (Keeps.refl _ a) h)
    case exit i => exact wp_exit (hQ (.exit i) E fr hp a w (Env.le_refl E) hh hf (Keeps.refl _ a) h)
    case ret => exact wp_ret (hQ .ret E fr hp a w (Env.le_refl E) hh hf (Keeps.refl _ a) h)
    case label l => exact wp_label (hQ .normal E fr hp a w (Env.le_refl E) hh hf (Keeps.refl _ a) h)
    case goto l => exact wp_goto (hQ (.goto l) E fr hp a w (Env.le_refl E) hh hf (Keeps.refl _ a) h)
    case region id ops draw =>
      have hd : ∀ o ∈ ops.toList, ∀ t, o.dst = some t → t ∈ asg (.region id ops draw) := fun o ho t ht => opsDst_mem ho ht
      cases draw with
      | false =>
        simp only [run] at h
        refine wp_region ?_
        rw [List.range_eq_range', show ops.size = ops.toList.length by simp, wpOps_eq_wpList ops.toList 0 (by simp)]
        exact evOps_wp hG hh hf hg hd (fun E' fr' hp' a' w' h1 h2 h3 h4 h5 => hQ .normal E' fr' hp' a' w' h1 h2 h3 h4 h5) h
      | true =>
        simp only [run] at h
        cases hB : Region.lexB .any ops with
        | false => rw [hB] at h; cases h
        | true =>
          rw [hB, cond_true] at h
          refine wp_region_quiet (C := fun w' => Below w.heap.size w w') hG.mixed hB ((Below.refl _ _).drew) ?_
          refine evOpsQ_wp hG hh hg hf hd (fun fr' a' h1 h2 h3 w' hw' => ?_) h
          exact hQ .normal E fr' hp a' w' (Env.le_refl E) (hh.grow hw') h1 h2 h3
  | .tail n, R, r, c, E, fr, hp, a, w, K, Q, hh, hf, hg, h, hQ, hP => by
    cases c <;> try (simp [run] at h; done)
    case region id ops draw =>
      cases draw <;> try (simp [run] at h; done)
      simp only [run] at h
      cases hB : Region.lexTailB .any ops n with
      | false => rw [hB] at h; cases h
      | true =>
        rw [hB, cond_true] at h
        have hops : ops = ops.toList.toArray := by simp
        rw [hops]
        have hd : ∀ o ∈ ops.toList, ∀ t, o.dst = some t → t ∈ asg (.region id ops true) := fun o ho t ht => opsDst_mem ho ht
        have hw1 : Below w.heap.size w { w with drawn := w.drawn + 1 } := (Below.refl _ _).drew
        refine wp_region_still_tail n hG.mixed (by rw [← hops]; exact hB) ?_
        rw [← hops]
        refine evOpsS_wp hG (hh.grow hw1) hg hf (fun o ho => hd o (List.mem_of_mem_take ho)) (fun fr' a' h1 h2 h3 => ?_) h
        refine evOps_wp hG (hh.grow hw1) h1 hg (fun o ho => hd o (List.mem_of_mem_drop ho)) (fun E' fr'' hp' a'' w' g1 g2 g3 g4 g5 => ?_) h3
        exact hQ .normal E' fr'' hp' a'' w' g1 g2 g3 (h2.trans g4) g5
  | .draw, R, r, c, E, fr, hp, a, w, K, Q, hh, hf, hg, h, hQ, hP => by
    cases c <;> try (simp [run] at h; done)
    case region id ops draw =>
      cases draw <;> try (simp [run] at h; done)
      simp only [run] at h
      cases hB : drawB ops with
      | false => rw [hB] at h; cases h
      | true =>
        rw [hB, cond_true] at h
        exact draw_wp hG hh hf hg hB (fun E' fr' a' w' h1 h2 h3 h4 h5 => hQ .normal E' fr' hp a' w' h1 h2 h3 h4 h5) h
  | .eff N fl anc, R, r, c, E, fr, hp, a, w, K, Q, hh, hf, hg, h, hQ, hP => by
    cases c <;> try (simp [run] at h; done)
    case region id ops draw =>
      cases draw <;> try (simp [run] at h; done)
      simp only [run] at h
      cases hB : (effB C fl anc ops && Nat.ble hp.length N) with
      | false => rw [hB] at h; cases h
      | true =>
        rw [hB, cond_true] at h
        simp only [Bool.and_eq_true] at hB
        exact eff_region_wp hG hh hf hg hB.1 (Nat.le_of_ble_eq_true hB.2) (fun E' fr' hp' a' w' h1 h2 h3 h4 h5 => hQ .normal E' fr' hp' a' w' h1 h2 h3 h4 h5) h
  | .eff2 f g N an1 an2 perm inv, R, r, c, E, fr, hp, a, w, K, Q, hh, hf, hg, h, hQ, hP => by
    cases c <;> try (simp [run] at h; done)
    case region id ops draw =>
      cases draw <;> try (simp [run] at h; done)
      simp only [run] at h
      cases hB : (!Nat.beq f g && (calmO f g 0 ops.toList && (permB ops.size perm inv && (edgesIn ops.size (addE g f ops.toList) && (effB C [] an1 (addE f g ops.toList).toArray && (effB C [] an2 (permE inv (addE g f ops.toList) perm).toArray && Nat.ble hp.length N)))))) with
      | false => rw [hB] at h; cases h
      | true =>
        rw [hB, cond_true] at h
        simp only [Bool.and_eq_true] at hB
        obtain ⟨b1, b2, b6, b7, b3, b4, b5⟩ := hB
        obtain ⟨h1, h2⟩ := agree_some h
        have hlt : ∀ i ∈ perm, i < (addE g f ops.toList).length := by
          intro i hi
          have hb := b6
          simp only [permB, Bool.and_eq_true, List.all_eq_true, List.mem_range] at hb
          obtain ⟨k1, k2⟩ := hb
          obtain ⟨m, hm, rfl⟩ := List.mem_iff_getElem.1 hi
          have hl := Nat.eq_of_beq_eq_true k1
          have := Nat.le_of_ble_eq_true (k2 m (by omega)).2.2.1
          rw [nthN_get perm m hm, addE_len]
          have h9 : ops.toList.length = ops.size := by simp
          omega
        refine eff2_region_wp hG hh hf hg (fun e => ?_) b2 b6 b7 b3 b4 (Nat.le_of_ble_eq_true b5) (fun E' fr' hp' a' w' k1 k2 k3 k4 k5 => ?_) (fun E' fr' hp' a' w' k1 k2 k3 k4 k5 => ?_) h1 h2
        · subst e; simp at b1
        · exact hQ .normal E' fr' hp' a' w' k1 k2 k3 (by rw [opsDst_add] at k4; exact k4) k5
        · exact hQ .normal E' fr' hp' a' w' k1 k2 k3 (k4.mono fun t ht => by have := opsDst_perm hlt ht; rw [opsDst_add] at this; exact this) k5
  | .effl N fl anc, R, r, c, E, fr, hp, a, w, K, Q, hh, hf, hg, h, hQ, hP => by
    cases c <;> try (simp [run] at h; done)
    case region id ops draw =>
      cases draw <;> try (simp [run] at h; done)
      simp only [run] at h
      split at h
      case h_2 => cases h
      case h_1 b o hl =>
        cases hB : (efflB C fl anc b o && Nat.ble hp.length N) with
        | false => rw [hB] at h; cases h
        | true =>
          rw [hB, cond_true] at h
          simp only [efflB, Bool.and_eq_true] at hB
          obtain ⟨⟨g1, g2, g3, g4, g5⟩, g6⟩ := hB
          exact effl_region_wp hG hh hf hg hl g1 (Nat.le_of_ble_eq_true g6) g2 g3 g4 g5 (fun E' fr' hp' a' w' h1 h2 h3 h4 h5 => hQ .normal E' fr' hp' a' w' h1 h2 h3 h4 h5) h
  | .fro ids an, R, r, c, E, fr, hp, a, w, K, Q, hh, hf, hg, h, hQ, hP => by
    simp only [run] at h
    obtain ⟨E1, hp1, h1, h2, h, _⟩ := frzO_some hh h
    obtain ⟨fr1, h3, h⟩ := thawK_some h2 (SV.satL_mono h1 _ _ hf) h
    refine run_soundP hG hT h2 h3 (C.globsOk_mono h1.1 hg) h ?_ (hP.of h1.1 (Keeps.refl _ _) (fun _ h => h) (fun _ _ _ h => h) fun _ _ _ h => h)
    intro lv E' fr' hp' a' w' k1 k2 k3 k4 k5
    exact hQ lv E' fr' hp' a' w' (Env.le_trans h1 k1) k2 k3 k4 k5
  | .seq an bn, R, r, c, E, fr, hp, a, w, K, Q, hh, hf, hg, h, hQ, hP => by
    cases c <;> try (simp [run] at h; done)
    case seq x y =>
      simp only [run] at h
      refine wp_seq (run_soundP hG hT hh hf hg h ?_ (hP.of (Mem.le_refl _) (Keeps.refl _ _) (fun t ht => by simp only [asg, catN_mem]; exact .inl ht) (fun _ _ _ h => h) fun _ _ _ h => h))
      intro lv E' fr' hp' a' w' h1 h2 h3 h4 h5
      have h4' : Keeps (asg (.seq x y)) a a' := h4.mono fun t ht => by simp only [asg, catN_mem]; exact .inl ht
      cases lv with
      | normal =>
        refine run_soundP hG hT h2 h3 (C.globsOk_mono h1.1 hg) h5 ?_ (hP.of h1.1 h4' (fun t ht => by simp only [asg, catN_mem]; exact .inr ht) (fun _ _ _ h => h) fun _ _ _ h => h)
        intro lv2 E2 fr2 hp2 a2 w2 k1 k2 k3 k4 k5
        exact hQ lv2 E2 fr2 hp2 a2 w2 (Env.le_trans h1 k1) k2 k3 (h4'.trans (k4.mono fun t ht => by simp only [asg, catN_mem]; exact .inr ht)) k5
      | exit i => exact hQ (.exit i) E' fr' hp' a' w' h1 h2 h3 h4' h5
      | ret => exact hQ .ret E' fr' hp' a' w' h1 h2 h3 h4' h5
      | goto l => exact hQ (.goto l) E' fr' hp' a' w' h1 h2 h3 h4' h5
      | panic T => cases h5
  | .cond an bn, R, r, c, E, fr, hp, a, w, K, Q, hh, hf, hg, h, hQ, hP => by
    cases c <;> try (simp [run] at h; done)
    case cond c x y =>
      simp only [run] at h
      have goX : ∀ {fr0 : List SV}, SV.satL E fr0 a.tmps.toList → run C Γ Θ an x fr0 hp K = some r → x.wp P Q a w := fun hf0 h0 => run_soundP hG hT hh hf0 hg h0 (fun lv E' fr' hp' a' w' h1 h2 h3 h4 h5 =>
        hQ lv E' fr' hp' a' w' h1 h2 h3 (h4.mono fun t ht => by cases c <;> simp only [asg, List.mem_cons, catN_mem] <;> first | exact .inl ht | exact .inr (.inl ht)) h5)
        (hP.of (Mem.le_refl _) (Keeps.refl _ _) (fun t ht => by cases c <;> simp only [asg, List.mem_cons, catN_mem] <;> first | exact .inl ht | exact .inr (.inl ht)) (fun _ _ _ h => h) fun _ _ _ h => h)
      have goY : ∀ {fr0 : List SV}, SV.satL E fr0 a.tmps.toList → run C Γ Θ bn y fr0 hp K = some r → y.wp P Q a w := fun hf0 h0 => run_soundP hG hT hh hf0 hg h0 (fun lv E' fr' hp' a' w' h1 h2 h3 h4 h5 =>
        hQ lv E' fr' hp' a' w' h1 h2 h3 (h4.mono fun t ht => by cases c <;> simp only [asg, List.mem_cons, catN_mem] <;> first | exact .inr (.inr ht) | exact .inr ht) h5)
        (hP.of (Mem.le_refl _) (Keeps.refl _ _) (fun t ht => by cases c <;> simp only [asg, List.mem_cons, catN_mem] <;> first | exact .inr (.inr ht) | exact .inr ht) (fun _ _ _ h => h) fun _ _ _ h => h)
      split at h
      case h_1 t =>
        replace h := nthK_some h; obtain ⟨s, hs, h⟩ := h
        obtain ⟨v, hv, hsv⟩ := tmp_get hf hs
        have hev : a.eval (.tmp t) = v := by simp [Act.eval, Array.getD_eq_getD_getElem?, hv]
        split at h
        case h_1 =>
          have : v = .bool true := by simpa [SV.sat] using hsv
          subst this
          exact wp_cond_true hev (goX hf h)
        case h_2 =>
          have : v = .bool false := by simpa [SV.sat] using hsv
          subst this
          exact wp_cond_false hev (goY hf h)
        case h_3 b =>
          simp only [SV.sat] at hsv
          have := rep_bool hsv
          subst this
          cases hb : b with
          | true =>
            subst hb
            rw [if_pos rfl, setK_eq] at h
            exact wp_cond_true hev (goX (set_bit hf hv) h)
          | false =>
            subst hb
            rw [if_neg (by simp), setK_eq] at h
            exact wp_cond_false hev (goY (set_bit hf hv) h)
        case h_4 c =>
          simp only [SV.sat] at hsv
          obtain ⟨b, hb, hbc⟩ := hsv
          subst hb
          rw [setK_eq, setK_eq] at h
          cases b with
          | true =>
            rw [if_pos (hbc rfl)] at h
            exact wp_cond_true hev (goX (set_bit hf hv) (agree_some h).1)
          | false =>
            refine wp_cond_false hev (goY (set_bit hf hv) ?_)
            split at h
            · exact (agree_some h).2
            · exact h
        case h_5 c =>
          simp only [SV.sat] at hsv
          obtain ⟨b, hb, hbc⟩ := hsv
          subst hb
          rw [setK_eq, setK_eq] at h
          cases b with
          | false =>
            rw [if_pos (hbc rfl)] at h
            exact wp_cond_false hev (goY (set_bit hf hv) (agree_some h).2)
          | true =>
            refine wp_cond_true hev (goX (set_bit hf hv) ?_)
            split at h
            · exact (agree_some h).1
            · exact h
        case h_6 => cases h
      case h_2 => exact wp_cond_true rfl (goX hf h)
      case h_3 => exact wp_cond_false rfl (goY hf h)
      case h_4 => cases h
  | .block an, R, r, c, E, fr, hp, a, w, K, Q, hh, hf, hg, h, hQ, hP => by
    cases c <;> try (simp [run] at h; done)
    case block i x =>
      simp only [run] at h
      refine wp_block (run_soundP hG hT hh hf hg h ?_ (hP.of (Mem.le_refl _) (Keeps.refl _ _) (fun t ht => ht) (fun _ _ _ h => h) fun _ _ _ h => h))
      intro lv E' fr' hp' a' w' h1 h2 h3 h4 h5
      cases lv with
      | panic T => cases h5
      | normal => exact hQ .normal E' fr' hp' a' w' h1 h2 h3 h4 h5
      | ret => exact hQ .ret E' fr' hp' a' w' h1 h2 h3 h4 h5
      | goto l => exact hQ (.goto l) E' fr' hp' a' w' h1 h2 h3 h4 h5
      | exit j =>
        simp only [Ks.at] at h5
        simp only [Lv.toExit, Exit.inBlock]
        cases hb : Nat.beq j i with
        | true =>
          rw [hb] at h5
          have := Nat.eq_of_beq_eq_true hb
          rw [if_pos this]
          exact hQ .normal E' fr' hp' a' w' h1 h2 h3 h4 h5
        | false =>
          rw [hb] at h5
          rw [if_neg (fun (e : j = i) => by subst e; simp at hb)]
          exact hQ (.exit j) E' fr' hp' a' w' h1 h2 h3 h4 h5
    case scope x =>
      simp only [run] at h
      refine wp_scope_straight (run_soundP hG hT hh hf hg h ?_ (hP.of (Mem.le_refl _) (Keeps.refl _ _) (fun t ht => by simpa [asg] using ht) (fun _ _ _ h => h) fun _ _ _ h => h))
      intro lv E' fr' hp' a' w' h1 h2 h3 h4 h5
      cases lv with
      | panic T => cases h5
      | normal => exact hQ .normal E' fr' hp' a' w' h1 h2 h3 (by simpa [asg] using h4) h5
      | ret => exact hQ .ret E' fr' hp' a' w' h1 h2 h3 (by simpa [asg] using h4) h5
      | exit j => exact hQ (.exit j) E' fr' hp' a' w' h1 h2 h3 (by simpa [asg] using h4) h5
      | goto l => simp only [Ks.at] at h5; cases h5
  | .join js an, R, r, c, E, fr, hp, a, w, K, Q, hh, hf, hg, h, hQ, hP => by
    simp only [run] at h
    rw [forget_eq] at h
    cases hrun : run C Γ Θ an (R := SumT js) c fr hp { n := fun fr hp' => leaveK hp.length js .normal fr hp' some, e := fun i fr hp' => leaveK hp.length js (.exit i) fr hp' some, r := fun fr hp' => leaveK hp.length js .ret fr hp' some, g := fun i fr hp' => leaveK hp.length js (.goto i) fr hp' some, p := fun T t d => leaveP T t d js some } with
    | none => rw [hrun] at h; cases h
    | some e =>
      rw [hrun, Option.bind_some] at h
      refine run_soundP hG hT hh hf hg hrun ?_ (hP.of (Mem.le_refl _) (Keeps.refl _ _) (fun t ht => ht) (fun T t d h' => by
        obtain ⟨s, q1, q2⟩ := leaveP_some h'
        have := Option.some.inj q1
        subst this
        rw [q2] at h
        exact h) fun _ _ _ h => h)
      intro lv E' fr' hp' a' w' h1 h2 h3 h4 h5
      have h5' : leaveK hp.length js lv fr' hp' some = some e := by cases lv <;> first | exact h5 | cases h5
      obtain ⟨j, x, s, q1, q2, q3⟩ := leaveK_some h5'
      have := Option.some.inj q2
      subst this
      rw [q3] at h
      have hlen : hp.length ≤ hp'.length := by
        rw [← hh.len, ← h2.len]
        cases hl : E.L.length with
        | zero => exact Nat.zero_le _
        | succ m =>
          have := h1.2 m _ (List.getElem?_eq_getElem (by omega))
          have := (List.getElem?_eq_some_iff.1 this).1
          omega
      obtain ⟨E2, fr2, hp2, g1, g2, g3, g4⟩ := packJ_openJ hh.len.symm hf h1 h2 hlen h3 h4 q1 h
      exact hQ lv E2 fr2 hp2 a' w' g1 g2 g3 h4 g4
  | .loop hd js an, R, r, c, E, fr, hp, a, w, K, Q, hh, hf, hg, h, hQ, hP => by
    cases c <;> try (simp [run] at h; done)
    case loop x =>
      simp only [run] at h
      rw [forget_eq] at h
      obtain ⟨s0, hs0, h⟩ := withO_some h
      -- name the round
      generalize hF : (fun s : Tup hd.skel.tys => openJ hd ((asg x).foldl (fun fr t => fr.set t .und) fr) s fun fr hp1 => run C Γ Θ an (R := Tup hd.skel.tys ⊕ SumT js) x fr hp1
        { n := fun fr hp' => withO (packJ hp.length hd fr hp' some) fun s => some (.inl s)
          e := fun i fr hp' => leaveK hp.length js (.exit i) fr hp' fun e => some (.inr e)
          r := fun fr hp' => leaveK hp.length js .ret fr hp' fun e => some (.inr e)
          g := fun i fr hp' => leaveK hp.length js (.goto i) fr hp' fun e => some (.inr e)
          p := fun T t d => leaveP T t d js fun e => some (.inr e) }) = F at h
      cases hit : iter F s0 with
      | none => rw [hit] at h; cases h
      | some e =>
        rw [hit, Option.bind_some] at h
        obtain ⟨n, hn⟩ := iter_some hit
        have hle : ∀ {E' : Env} {hp' : List HO} {w' : World}, E.le E' → Hp B E' hp' w' → hp.length ≤ hp'.length := by
          intro E' hp' w' h1 h2
          rw [← hh.len, ← h2.len]
          cases hl : E.L.length with
          | zero => exact Nat.zero_le _
          | succ m =>
            have := h1.2 m _ (List.getElem?_eq_getElem (by omega))
            have := (List.getElem?_eq_some_iff.1 this).1
            omega
        -- round after round
        have key : ∀ (n : Nat) (s : Tup hd.skel.tys) (E1 : Env) (fr1 : List SV) (hp1 : List HO) (a1 : Act) (w1 : World), iterN F n s = some e → E.le E1 → Hp B E1 hp1 w1 → SV.satL E1 fr1 a1.tmps.toList → Keeps (asg x) a a1 → packJ hp.length hd fr1 hp1 some = some s →
            Code.rounds P x Q n a1 w1 := by
          intro n
          induction n with
          | zero => intro s E1 fr1 hp1 a1 w1 h0; simp [iterN] at h0
          | succ n ih =>
            intro s E1 fr1 hp1 a1 w1 h0 h1 h2 h3 h4 h5
            rw [rounds_succ]
            simp only [iterN] at h0
            cases hFs : F s with
            | none => rw [hFs] at h0; cases h0
            | some y =>
              have hFs' := hFs
              rw [← hF] at hFs
              simp only at hFs
              obtain ⟨E2, fr2, hp2, g1, g2, g3, g4⟩ := packJ_openJ hh.len.symm hf h1 h2 (hle h1 h2) h3 h4 h5 hFs
              refine run_soundP hG hT g2 g3 (C.globsOk_mono g1.1 hg) g4 ?_ (hP.of g1.1 (by simpa [asg] using h4) (fun t ht => by simpa [asg] using ht) (fun T t d h' => by
                obtain ⟨s2, q1, q2⟩ := leaveP_some h'
                have hy := Option.some.inj q1
                subst hy
                rw [hFs'] at h0
                have := Option.some.inj h0
                subst this
                rw [q2] at h
                exact h) fun _ _ _ h => h)
              intro lv E' fr' hp' a' w' k1 k2 k3 k4 k5
              have kE := Env.le_trans g1 k1
              have kk : Keeps (asg x) a a' := h4.trans k4
              -- a way out
              have out : ∀ (lv : Lv), (leaveK hp.length js lv fr' hp' fun e => some (Sum.inr e : Tup hd.skel.tys ⊕ SumT js)) = some y → Q lv.toExit a' w' := by
                intro lv hl
                obtain ⟨j, z, t, q1, q2, q3⟩ := leaveK_some hl
                have hy := Option.some.inj q2
                subst hy
                rw [hFs'] at h0
                have := Option.some.inj h0
                subst this
                have h' := h
                rw [q3] at h'
                obtain ⟨E3, fr3, hp3, f1, f2, f3, f4⟩ := packJ_openJ hh.len.symm hf kE k2 (hle kE k2) k3 kk q1 h'
                exact hQ lv E3 fr3 hp3 a' w' f1 f2 f3 (by simpa [asg] using kk) f4
              cases lv with
              | normal =>
                simp only [Ks.at] at k5
                obtain ⟨s', q1, q2⟩ := withO_some k5
                have hy := Option.some.inj q2
                subst hy
                rw [hFs'] at h0
                exact ih s' E' fr' hp' a' w' h0 kE k2 k3 kk q1
              | exit i => exact out (.exit i) k5
              | ret => exact out .ret k5
              | goto i => exact out (.goto i) k5
              | panic T => cases k5
        exact wp_loop_rounds n (key n s0 E fr hp a w hn (Env.le_refl E) hh hf (Keeps.refl _ a) hs0)

  | .scope lb hd js an bn, R, r, c, E, fr, hp, a, w, K, Q, hh, hf, hg, h, hQ, hP => by
    cases c <;> try (simp [run] at h; done)
    case scope x =>
      simp only [run] at h
      cases hfl : findLabel x lb with
      | none => rw [hfl] at h; cases h
      | some rest =>
        rw [hfl] at h
        simp only at h
        rw [forget_eq] at h
        have hasg := asg_label hfl
        generalize hKd : ({ n := fun fr hp' => leaveK hp.length js .normal fr hp' fun e => some (.inr e)
                            e := fun i fr hp' => leaveK hp.length js (.exit i) fr hp' fun e => some (.inr e)
                            r := fun fr hp' => leaveK hp.length js .ret fr hp' fun e => some (.inr e)
                            g := fun i fr hp' => bif Nat.beq i lb then withO (packJ hp.length hd fr hp' some) fun s => some (.inl s) else none
                            p := fun T t d => leaveP T t d js fun e => some (.inr e) } : Ks (Tup hd.skel.tys ⊕ SumT js)) = Kd at h
        generalize hF : (fun s : Tup hd.skel.tys => openJ hd ((asg x).foldl (fun fr t => fr.set t .und) fr) s fun fr hp1 => run C Γ Θ bn (R := Tup hd.skel.tys ⊕ SumT js) rest fr hp1 Kd) = F at h
        cases hrun : run C Γ Θ an (R := Tup hd.skel.tys ⊕ SumT js) x fr hp Kd with
        | none => rw [hrun] at h; cases h
        | some y0 =>
          rw [hrun, Option.bind_some] at h
          cases he : Sum.elim (fun s0 => iter F s0) some y0 with
          | none => rw [he] at h; cases h
          | some e =>
            rw [he, Option.bind_some] at h
            have hle : ∀ {E' : Env} {hp' : List HO} {w' : World}, E.le E' → Hp B E' hp' w' → hp.length ≤ hp'.length := by
              intro E' hp' w' h1 h2
              rw [← hh.len, ← h2.len]
              cases hl : E.L.length with
              | zero => exact Nat.zero_le _
              | succ m =>
                have := h1.2 m _ (List.getElem?_eq_getElem (by omega))
                have := (List.getElem?_eq_some_iff.1 this).1
                omega
            -- where a jump leads
            let J : Nat → Act → World → Prop := fun n a1 w1 => ∃ (s : Tup hd.skel.tys) (E1 : Env) (fr1 : List SV) (hp1 : List HO), iterN F n s = some e ∧ E.le E1 ∧ Hp B E1 hp1 w1 ∧ SV.satL E1 fr1 a1.tmps.toList ∧ Keeps (asg x) a a1 ∧ packJ hp.length hd fr1 hp1 some = some s
            -- a way out
            have out : ∀ (lv : Lv) (E' : Env) (fr' : List SV) (hp' : List HO) (a' : Act) (w' : World), E.le E' → Hp B E' hp' w' → SV.satL E' fr' a'.tmps.toList → Keeps (asg x) a a' →
                (leaveK hp.length js lv fr' hp' fun e => some (Sum.inr e : Tup hd.skel.tys ⊕ SumT js)) = some (.inr e) → Q lv.toExit a' w' := by
              intro lv E' fr' hp' a' w' k1 k2 k3 kk hl
              obtain ⟨j, z, t, q1, q2, q3⟩ := leaveK_some hl
              have hy := Option.some.inj q2
              have hy := Sum.inr.inj hy
              subst hy
              have h' := h
              rw [q3] at h'
              obtain ⟨E3, fr3, hp3, f1, f2, f3, f4⟩ := packJ_openJ hh.len.symm hf k1 k2 (hle k1 k2) k3 kk q1 h'
              exact hQ lv E3 fr3 hp3 a' w' f1 f2 f3 (by simpa [asg] using kk) f4
            -- behind a piece of it
            have post : ∀ (y : Tup hd.skel.tys ⊕ SumT js) (J' : Act → World → Prop), (∀ lv E' fr' hp' a' w', E.le E' → Hp B E' hp' w' → SV.satL E' fr' a'.tmps.toList → Keeps (asg x) a a' → lv ≠ .goto lb → (leaveK hp.length js lv fr' hp' fun e => some (Sum.inr e : Tup hd.skel.tys ⊕ SumT js)) = some y → Q lv.toExit a' w') →
                (∀ s E' fr' hp' a' w', y = .inl s → E.le E' → Hp B E' hp' w' → SV.satL E' fr' a'.tmps.toList → Keeps (asg x) a a' → packJ hp.length hd fr' hp' some = some s → J' a' w') →
                ∀ (lv : Lv) (E' : Env) (fr' : List SV) (hp' : List HO) (a' : Act) (w' : World), E.le E' → Hp B E' hp' w' → SV.satL E' fr' a'.tmps.toList → Keeps (asg x) a a' → Kd.at lv fr' hp' = some y → Exit.jump lb J' Q lv.toExit a' w' := by
              intro y J' ho hj lv E' fr' hp' a' w' k1 k2 k3 kk k5
              rw [← hKd] at k5
              cases lv with
              | normal => exact ho .normal E' fr' hp' a' w' k1 k2 k3 kk (by simp) k5
              | exit i => exact ho (.exit i) E' fr' hp' a' w' k1 k2 k3 kk (by simp) k5
              | ret => exact ho .ret E' fr' hp' a' w' k1 k2 k3 kk (by simp) k5
              | goto i =>
                simp only [Ks.at] at k5
                cases hb : Nat.beq i lb with
                | true =>
                  rw [hb, cond_true] at k5
                  have := Nat.eq_of_beq_eq_true hb
                  subst this
                  obtain ⟨s', q1, q2⟩ := withO_some k5
                  exact ⟨rfl, hj s' E' fr' hp' a' w' (Option.some.inj q2).symm k1 k2 k3 kk q1⟩
                | false =>
                  rw [hb, cond_false] at k5
                  cases k5
              | panic T => cases k5
            have hKp : ∀ T t d, Kd.p T t d = leaveP T t d js fun e => some (.inr e) := fun T t d => by rw [← hKd]
            refine wp_scope_jumps lb (fun a1 w1 => ∃ n, J n a1 w1) (fun a1 w1 => leastN fun n => J n a1 w1) hfl ?_ ?_
            · refine run_soundP hG hT hh hf hg hrun ?_ (hP.of (Mem.le_refl _) (Keeps.refl _ _) (fun t ht => by simpa [asg] using ht) (fun T t d h' => by
                rw [hKp] at h'
                obtain ⟨s2, q1, q2⟩ := leaveP_some h'
                have hy := Option.some.inj q1
                rw [← hy] at he
                simp only [Sum.elim_inr, Option.some.injEq] at he
                subst he
                rw [q2] at h
                exact h) fun _ _ _ h => h)
              refine post y0 _ (fun lv E' fr' hp' a' w' k1 k2 k3 kk hlv hl => ?_) (fun s E' fr' hp' a' w' hy k1 k2 k3 kk q1 => ?_)
              · obtain ⟨j, z, t, q1, q2, q3⟩ := leaveK_some hl
                have hy := Option.some.inj q2
                rw [← hy] at he
                simp only [Sum.elim_inr, Option.some.injEq] at he
                subst he
                rw [← hy] at hl
                exact out lv E' fr' hp' a' w' k1 k2 k3 kk hl
              · rw [hy] at he
                simp only [Sum.elim_inl] at he
                obtain ⟨n, hn⟩ := iter_some he
                exact ⟨n, s, E', fr', hp', hn, k1, k2, k3, kk, q1⟩
            · intro a1 w1 hJ
              obtain ⟨n0, hn0⟩ := hJ
              have hmin := leastN_spec (p := fun n => J n a1 w1) hn0
              generalize (leastN fun n => J n a1 w1) = n at hmin
              obtain ⟨⟨s, E1, fr1, hp1, h0, h1, h2, h3, h4, h5⟩, hmin⟩ := hmin
              cases n with
              | zero => simp [iterN] at h0
              | succ n =>
                simp only [iterN] at h0
                cases hFs : F s with
                | none => rw [hFs] at h0; cases h0
                | some y =>
                  have hFs' := hFs
                  rw [← hF] at hFs
                  simp only at hFs
                  obtain ⟨E2, fr2, hp2, g1, g2, g3, g4⟩ := packJ_openJ hh.len.symm hf h1 h2 (hle h1 h2) h3 h4 h5 hFs
                  refine run_soundP hG hT g2 g3 (C.globsOk_mono g1.1 hg) g4 ?_ (hP.of g1.1 (by simpa [asg] using h4) (fun t ht => by simpa [asg] using hasg t ht) (fun T t d h' => by
                    rw [hKp] at h'
                    obtain ⟨s2, q1, q2⟩ := leaveP_some h'
                    have hy := Option.some.inj q1
                    rw [hFs', ← hy] at h0
                    have := Option.some.inj h0
                    subst this
                    rw [q2] at h
                    exact h) fun _ _ _ h => h)
                  intro lv E' fr' hp' a' w' k1 k2 k3 k4 k5
                  have kE := Env.le_trans g1 k1
                  have kk : Keeps (asg x) a a' := h4.trans (k4.mono hasg)
                  refine post y _ (fun lv E' fr' hp' a' w' k1 k2 k3 kk hlv hl => ?_) (fun s' E' fr' hp' a' w' hy k1 k2 k3 kk q1 => ?_) lv E' fr' hp' a' w' kE k2 k3 kk k5
                  · obtain ⟨j, z, t, q1, q2, q3⟩ := leaveK_some hl
                    have hy := Option.some.inj q2
                    rw [hFs', ← hy] at h0
                    have := Option.some.inj h0
                    subst this
                    rw [← hy] at hl
                    exact out lv E' fr' hp' a' w' k1 k2 k3 kk hl
                  · rw [hFs', hy] at h0
                    have hJ' : J n a' w' := ⟨s', E', fr', hp', h0, k1, k2, k3, kk, q1⟩
                    refine ⟨⟨n, hJ'⟩, ?_⟩
                    have := (leastN_spec (p := fun n => J n a' w') hJ').2 n hJ'
                    omega
  | .callp n, R, r, c, E, fr, hp, a, w, K, Q, hh, hf, hg, h, hQ, hP => by
    cases c <;> try (simp [run] at h; done)
    case region id ops draw =>
      cases draw <;> try (simp [run] at h; done)
      simp only [run] at h
      have hd : ∀ o ∈ ops.toList, ∀ t, o.dst = some t → t ∈ asg (.region id ops false) := fun o ho t ht => opsDst_mem ho ht
      refine wp_region_list ?_
      rw [← List.take_append_drop n ops.toList]
      refine wpList_append ?_
      refine evOps_wp (Q := Exit.then (wpList P ops Q (ops.toList.drop n)) Q) hG hh hf hg (fun o ho => hd o (List.mem_of_mem_take ho)) ?_ h
      intro E1 fr1 hp1 a1 w1 h1 h2 h3 h4 h5
      show wpList P ops Q (ops.toList.drop n) a1 w1
      split at h5
      case h_2 => cases h5
      case h_1 o rest hdr =>
        have hmem : ∀ o' ∈ o :: rest, o' ∈ ops.toList := fun o' ho' => List.mem_of_mem_drop (hdr ▸ ho')
        rw [hdr]
        split at h5
        case h_2 => cases h5
        case h_1 x args argTypes ho hgd =>
          unfold callP at h5
          split at h5
          case h_2 => cases h5
          case h_1 f =>
            replace h5 := opds_some h3 (C.globsOk_mono h1.1 hg) h5; obtain ⟨vs, v1, h5⟩ := h5
            obtain ⟨c, c1, c2, h6⟩ := pconK_some h5
            clear h5
            subst c2
            have hc := hT c c1
            unfold wpList
            rw [if_pos (by simp [Region.wanted, hgd])]
            left
            unfold Oper.wp
            rw [run_call (c := c.nrm) hc.nrm ho w1, Oper.upon_enter]
            refine (evPCon_some hc (C.globsOk_mono h1.1 hg) h2 v1 h6).mono ?_
            rintro e w' (⟨v, E', hp', s, rfl, q1, q2, q3, q4⟩ | ⟨t, d, cs, E', hp', rfl, q1, q2, q3, q4⟩)
            · obtain ⟨fr2, g1, g2⟩ := putD_some (SV.satL_mono q1 _ _ h3) q3 q4
              obtain ⟨fr3, g3, g4⟩ := thawK_some q2 g1 g2
              have hk2 : Keeps (asg (.region id ops false)) a (a1.put o.dst v) := h4.trans (Keeps.put _ a1 o.dst v (hd o (hmem o (by simp))))
              refine evOps_wp hG q2 g3 (C.globsOk_mono q1.1 (C.globsOk_mono h1.1 hg)) (fun o' ho' => hd o' (hmem o' (by simp [ho']))) ?_ g4
              intro E2 fr4 hp2 a2 w2 k1 k2 k3 k4 k5
              exact hQ .normal E2 fr4 hp2 a2 w2 (Env.le_trans h1 (Env.le_trans q1 k1)) k2 k3 (hk2.trans k4) k5
            · exact hP E'.M c.T t d cs a1 w' (Mem.le_trans h1.1 q1.1) q2.nil h4 q3 q4
  | .throw, R, r, c, E, fr, hp, a, w, K, Q, hh, hf, hg, h, hQ, hP => by
    cases c <;> try (simp [run] at h; done)
    case region id ops draw =>
      cases draw <;> try (simp [run] at h; done)
      simp only [run] at h
      have hd : ∀ o ∈ ops.toList, ∀ t, o.dst = some t → t ∈ asg (.region id ops false) := fun o ho t ht => opsDst_mem ho ht
      split at h
      case h_2 => cases h
      case h_1 b0 o2 hl =>
        split at h
        case h_2 => cases h
        case h_1 b o1 hl2 =>
          have e1 := lastK_eq hl
          have e2 := lastK_eq hl2
          subst e2
          have e3 : ops.toList = b ++ [o1, o2] := by rw [e1]; simp
          refine wp_region_list ?_
          rw [e3]
          refine wpList_append ?_
          refine evOps_wp (Q := Exit.then (wpList P ops Q [o1, o2]) Q) hG hh hf hg (fun o ho => hd o (by rw [e3]; simp [ho])) ?_ h
          intro E1 fr1 hp1 a1 w1 h1 h2 h3 h4 h5
          show wpList P ops Q [o1, o2] a1 w1
          split at h5
          case h_2 => cases h5
          case h_1 T x d d' ho1 hd1 hg1 ho2 hg2 =>
              dsimp only at h5
              cases hb : Nat.beq d d' with
              | false => rw [hb] at h5; cases h5
              | true =>
              rw [hb, cond_true] at h5
              obtain rfl := Nat.eq_of_beq_eq_true hb
              replace h5 := nthK_some h5; obtain ⟨s0, hs0, h5⟩ := h5
              replace h5 := tinfo_some h5; obtain ⟨i, hi, h5⟩ := h5
              split at h5
              case h_2 => cases h5
              case h_1 t ht =>
                cases hag : i.kind.isAgg with
                | false => rw [hag] at h5; cases h5
                | true =>
                rw [hag, cond_true] at h5
                replace h5 := opd_some h3 (C.globsOk_mono h1.1 hg) h5; obtain ⟨s, s1, h5⟩ := h5
                obtain ⟨dd, hdd, hda⟩ := (hG.ctx.types _ _ hi).under
                rw [hag] at hda
                obtain ⟨E2, hp2, y, f1, ⟨cs, c1, c2⟩, h5⟩ := dataF_some h2 s1 h5
                have hlt : d < a1.tmps.size := by
                  obtain ⟨v, hv, _⟩ := tmp_get h3 hs0
                  exact (Array.getElem?_eq_some_iff.1 hv).1
                have r1 : (execOp a1.eval o1).run P w1 = .ok (.value (.iface T (a1.eval x))) w1 := by
                  cases dd <;> simp [descAgg] at hda <;> simp [execOp, ho1, Instr.makeInterface, run_underlying hdd]
                have hev : (a1.put (some d) (.iface T (a1.eval x))).eval (.tmp d) = .iface T (a1.eval x) := by simp [Act.put, Act.eval, Array.getD, hlt]
                have r2 : (execOp (a1.put (some d) (.iface T (a1.eval x))).eval o2).run P w1 = .halt (.panic (.iface T (a1.eval x))) w1 := by
                  simp [execOp, ho2, hev, Instr.panic, goPanic]
                unfold wpList
                rw [if_pos (by simp [Region.wanted, hg1])]
                left
                unfold Oper.wp
                rw [r1, Oper.upon_value, hd1]
                unfold wpList
                rw [if_pos (by simp [Region.wanted, hg2])]
                left
                unfold Oper.wp
                rw [r2, Oper.upon_panic, c2]
                exact hP E2.M T t y cs _ w1 (Mem.le_trans h1.1 f1.le.1) f1.heap.nil (h4.trans (Keeps.put _ a1 (some d) _ fun t ht => hd o1 (by rw [e3]; simp) t (by rw [hd1]; exact ht))) c1 h5
  | .scope2 hs js an b1 b2, R, r, c, E, fr, hp, a, w, K, Q, hh, hf, hg, h, hQ, hP => by
    cases c <;> try (simp [run] at h; done)
    case scope x =>
      simp only [run] at h
      rw [forget_eq] at h
      generalize hKd : scK hp.length hs js = Kd at h
      generalize hKg : scR x hs (fun rest fr hp1 => run C Γ Θ b1 (R := SumT hs ⊕ SumT js) rest fr hp1 Kd) (fun rest fr hp1 => run C Γ Θ b2 (R := SumT hs ⊕ SumT js) rest fr hp1 Kd) = Kg at h
      generalize hF : (fun s : SumT hs => goOn Kg ((asg x).foldl (fun fr t => fr.set t .und) fr) hs s) = F at h
      cases hrun : run C Γ Θ an (R := SumT hs ⊕ SumT js) x fr hp Kd with
      | none => rw [hrun] at h; cases h
      | some y0 =>
        rw [hrun, Option.bind_some] at h
        cases he : Sum.elim (fun s0 => iter F s0) some y0 with
        | none => rw [he] at h; cases h
        | some e =>
          rw [he, Option.bind_some] at h
          have hle : ∀ {E' : Env} {hp' : List HO} {w' : World}, E.le E' → Hp B E' hp' w' → hp.length ≤ hp'.length := by
            intro E' hp' w' h1 h2
            rw [← hh.len, ← h2.len]
            cases hl : E.L.length with
            | zero => exact Nat.zero_le _
            | succ m =>
              have := h1.2 m _ (List.getElem?_eq_getElem (by omega))
              have := (List.getElem?_eq_some_iff.1 this).1
              omega
          -- where a jump leads
          let J : Nat → Nat → Act → World → Prop := fun n l a1 w1 => ∃ (s : SumT hs) (E1 : Env) (fr1 : List SV) (hp1 : List HO) (j : Jn) (z : Tup j.skel.tys), iterN F n s = some e ∧ E.le E1 ∧ Hp B E1 hp1 w1 ∧ SV.satL E1 fr1 a1.tmps.toList ∧ Keeps (asg x) a a1 ∧ packJ hp.length j fr1 hp1 some = some z ∧
            goOn Kg ((asg x).foldl (fun fr t => fr.set t .und) fr) hs s = openJ j ((asg x).foldl (fun fr t => fr.set t .und) fr) z (Kg.at (.goto l))
          have hKp : ∀ T t d, Kd.p T t d = leaveP T t d js fun e => some (.inr e) := fun T t d => by rw [← hKd]; rfl
          have outP : ∀ y : SumT hs ⊕ SumT js, (∀ s, y = .inr s → s = e) → ∀ T t d, Kd.p T t d = some y → K.p T t d = some r := by
            intro y hy T t d h'
            rw [hKp] at h'
            obtain ⟨s2, q1, q2⟩ := leaveP_some h'
            have := hy s2 (Option.some.inj q1).symm
            subst this
            rw [q2] at h
            exact h
          -- behind a piece of it
          have post : ∀ (y : SumT hs ⊕ SumT js) (J' : Nat → Act → World → Prop), (∀ s, y = .inr s → s = e) →
              (∀ l s E' fr' hp' a' w' (j : Jn) (z : Tup j.skel.tys), y = .inl s → E.le E' → Hp B E' hp' w' → SV.satL E' fr' a'.tmps.toList → Keeps (asg x) a a' → packJ hp.length j fr' hp' some = some z →
                goOn Kg ((asg x).foldl (fun fr t => fr.set t .und) fr) hs s = openJ j ((asg x).foldl (fun fr t => fr.set t .und) fr) z (Kg.at (.goto l)) → J' l a' w') →
              ∀ (lv : Lv) (E' : Env) (fr' : List SV) (hp' : List HO) (a' : Act) (w' : World), E.le E' → Hp B E' hp' w' → SV.satL E' fr' a'.tmps.toList → Keeps (asg x) a a' → Kd.at lv fr' hp' = some y → Exit.jumps J' Q lv.toExit a' w' := by
            intro y J' ho hj lv E' fr' hp' a' w' k1 k2 k3 kk k5
            rw [← hKd] at k5
            have out : ∀ (lv : Lv), (leaveK hp.length js lv fr' hp' fun e => some (Sum.inr e : SumT hs ⊕ SumT js)) = some y → Q lv.toExit a' w' := by
              intro lv hl
              obtain ⟨j, z, t, q1, q2, q3⟩ := leaveK_some hl
              have := ho t (Option.some.inj q2).symm
              subst this
              have h' := h
              rw [q3] at h'
              obtain ⟨E3, fr3, hp3, f1, f2, f3, f4⟩ := packJ_openJ hh.len.symm hf k1 k2 (hle k1 k2) k3 kk q1 h'
              exact hQ lv E3 fr3 hp3 a' w' f1 f2 f3 (by simpa [asg] using kk) f4
            cases lv with
            | normal => exact out .normal k5
            | exit i => exact out (.exit i) k5
            | ret => exact out .ret k5
            | goto i =>
              obtain ⟨j, z, t, q1, q2, q3⟩ := leaveK_some (show leaveK hp.length hs (.goto i) fr' hp' (fun s => some (Sum.inl s : SumT hs ⊕ SumT js)) = some y from k5)
              exact hj i t E' fr' hp' a' w' j z (Option.some.inj q2).symm k1 k2 k3 kk q1 (q3 Kg _)
            | panic T => cases k5
          refine wp_scope_many (fun l a1 w1 => ∃ n, J n l a1 w1) (fun l a1 w1 => leastN fun n => J n l a1 w1) ?_ ?_
          · intro l a1 w1 hJ
            obtain ⟨n0, hn0⟩ := hJ
            have hmin := leastN_spec (p := fun n => J n l a1 w1) hn0
            generalize (leastN fun n => J n l a1 w1) = n at hmin
            obtain ⟨⟨s, E1, fr1, hp1, j, z, h0, h1, h2, h3, h4, h5, h6⟩, hmin⟩ := hmin
            cases n with
            | zero => simp [iterN] at h0
            | succ n =>
              simp only [iterN] at h0
              cases hFs : F s with
              | none => rw [hFs] at h0; cases h0
              | some y =>
                have hFs' := hFs
                rw [← hF] at hFs
                simp only at hFs
                rw [h6] at hFs
                obtain ⟨E2, fr2, hp2, g1, g2, g3, g4⟩ := packJ_openJ hh.len.symm hf h1 h2 (hle h1 h2) h3 h4 h5 hFs
                rw [← hKg] at g4
                simp only [Ks.at, scR] at g4
                cases hfl : findLabel x l with
                | none => rw [hfl] at g4; cases g4
                | some rest =>
                  rw [hfl] at g4
                  simp only at g4
                  have hasg := asg_label hfl
                  refine ⟨rest, rfl, ?_⟩
                  have hy : ∀ s', y = .inr s' → s' = e := by
                    rintro s' rfl
                    rw [hFs'] at h0
                    exact Option.some.inj h0
                  have hPost : Post B E2 a1 (asg rest) Kd y (Exit.jumps (fun l' a' w' => (∃ n, J n l' a' w') ∧ (leastN fun n => J n l' a' w') < n + 1) Q) := by
                    intro lv E' fr' hp' a' w' k1 k2 k3 k4 k5
                    refine post y _ hy (fun l' s' E' fr' hp' a' w' j' z' hys k1 k2 k3 kk q1 q2 => ?_) lv E' fr' hp' a' w' (Env.le_trans g1 k1) k2 k3 (h4.trans (k4.mono hasg)) k5
                    rw [hFs', hys] at h0
                    have hJ' : J n l' a' w' := ⟨s', E', fr', hp', j', z', h0, k1, k2, k3, kk, q1, q2⟩
                    refine ⟨⟨n, hJ'⟩, ?_⟩
                    have := (leastN_spec (p := fun n => J n l' a' w') hJ').2 n hJ'
                    omega
                  have hPP : PostP B E2 a1 (asg rest) Kd y (Exit.jumps (fun l' a' w' => (∃ n, J n l' a' w') ∧ (leastN fun n => J n l' a' w') < n + 1) Q) :=
                    hP.of g1.1 (by simpa [asg] using h4) (fun t ht => by simpa [asg] using hasg t ht) (outP y hy) fun _ _ _ h => h
                  cases hfst : isFst hs l with
                  | true => rw [hfst] at g4; exact run_soundP hG hT g2 g3 (C.globsOk_mono g1.1 hg) g4 hPost hPP
                  | false => rw [hfst] at g4; exact run_soundP hG hT g2 g3 (C.globsOk_mono g1.1 hg) g4 hPost hPP
          · have hy : ∀ s', y0 = .inr s' → s' = e := by
              rintro s' rfl
              exact Option.some.inj he
            refine run_soundP hG hT hh hf hg hrun ?_ (hP.of (Mem.le_refl _) (Keeps.refl _ _) (fun t ht => by simpa [asg] using ht) (outP y0 hy) fun _ _ _ h => h)
            refine post y0 _ hy (fun l s E' fr' hp' a' w' j z hys k1 k2 k3 kk q1 q2 => ?_)
            rw [hys] at he
            simp only [Sum.elim_inl] at he
            obtain ⟨n, hn⟩ := iter_some he
            exact ⟨n, s, E', fr', hp', j, z, hn, k1, k2, k3, kk, q1, q2⟩
theorem run_sound (hG : Given P C Γ) {an : Ann} {R : Type} {r : R} {c : Code} {E : Env} {fr : List SV} {hp : List HO} {a : Act} {w : World} {K : Ks R} {Q : Exit → Act → World → Prop}
    (hh : Hp B E hp w) (hf : SV.satL E fr a.tmps.toList) (hg : C.globsOk E.M) (h : run C Γ [] an c fr hp K = some r) (hQ : Post B E a (asg c) K r Q) (hp : ∀ T t d, K.p T t d = none := by intros; rfl) : c.wp P Q a w :=
  run_soundP (Θ := []) hG (fun _ h => nomatch h) hh hf hg h hQ fun M' T t d cs a' w' _ _ _ _ h5 => by rw [hp] at h5; cases h5
theorem evLoad_addr {i : TI} {x : SV} {v : Value} {k : SV → Option R} (hs : x.sat E v) (h : evLoad i hp x k = some r) : ∃ ad, v = .pointer (some ad) := by
  unfold evLoad at h
  split at h
  · simp only [SV.sat] at hs; obtain ⟨b, off, d, h1, _⟩ := hs; exact ⟨_, h1⟩
  · simp only [SV.sat] at hs; obtain ⟨e, b, _, _, h1⟩ := hs; exact ⟨_, h1⟩
  · simp only [SV.sat] at hs; obtain ⟨e, b, _, _, _, h1⟩ := hs; exact ⟨_, h1⟩
  · cases h
theorem resTmps_some {fn : Func} (hC : C.ok P) (hh : Hp B E hp w) : ∀ {l : List ResultVar} {k : List SV → Option R}, SV.satL E fr a.tmps.toList → resTmps C hp fr l k = some r →
    ∃ ss vs, SV.satL E ss vs ∧ k ss = some r ∧ (l.mapM fun (x : ResultVar) => match x with
      | .tmp t => (pure (a.tmps.getD t undef) : Sem Value)
      | .cell ad t => do loadVar t (← asAddr (a.tmps.getD ad undef))).run P w = .ok vs w
  | [], k, _, h => ⟨[], [], by simp [SV.satL], h, by simp⟩
  | .tmp t :: l, k, hf, h => by
    unfold resTmps at h
    replace h := nthK_some h; obtain ⟨x, h1, h⟩ := h
    obtain ⟨v, h2, h3⟩ := tmp_get hf h1
    obtain ⟨ss, vs, g1, g2, g3⟩ := resTmps_some (fn := fn) hC hh hf h
    refine ⟨x :: ss, v :: vs, by simp only [SV.satL]; exact ⟨v, vs, rfl, h3, g1⟩, g2, ?_⟩
    have hv : a.tmps.getD t undef = v := by simp [Array.getD_eq_getD_getElem?, h2]
    rw [List.mapM_cons]
    simp only [Sem.run_bind, Sem.run_pure, Result.andThen_ok, hv, g3]
  | .cell ad T :: l, k, hf, h => by
    unfold resTmps at h
    replace h := nthK_some h; obtain ⟨x, h1, h⟩ := h
    obtain ⟨v, h2, h3⟩ := tmp_get hf h1
    replace h := tinfo_some h; obtain ⟨i, hi, h⟩ := h
    have h0 := h
    obtain ⟨u, s, q1, h, q2⟩ := evLoad_some hC hh hi h3 h
    obtain ⟨ss, vs, g1, g2, g3⟩ := resTmps_some (fn := fn) hC hh hf h
    refine ⟨s :: ss, u :: vs, by simp only [SV.satL]; exact ⟨u, vs, rfl, q1, g1⟩, g2, ?_⟩
    have hv : a.tmps.getD ad undef = v := by simp [Array.getD_eq_getD_getElem?, h2]
    rw [List.mapM_cons]
    have q2' := q2 w (Below.refl _ _)
    obtain ⟨ad', rfl⟩ := evLoad_addr h3 h0
    have e1 : (Instr.sureAddr (Value.pointer (some ad'))).run P w = .ok ad' w := by simp [Instr.sureAddr]
    have e2 : (asAddr (Value.pointer (some ad'))).run P w = .ok ad' w := by simp [asAddr]
    simp only [Instr.loadAt, Sem.run_bind, e1, Result.andThen_ok] at q2'
    simp only [Sem.run_bind, Sem.run_pure, hv, e2, Result.andThen_ok, q2', g3]
theorem run_results {fn : Func} {vs : List Value} (h : (fn.results.toList.mapM fun (x : ResultVar) => match x with
      | .tmp t => (pure (a.tmps.getD t undef) : Sem Value)
      | .cell ad t => do loadVar t (← asAddr (a.tmps.getD ad undef))).run P w = .ok vs w) : (results fn a.tmps).run P w = .ok (retVal vs) w := by
  unfold results
  rw [Array.mapM_eq_mapM_toList]
  simp only [Sem.run_bind, Sem.run_map]
  erw [h]
  simp only [Result.andThen_ok]
  match vs with
  | [] => rfl
  | [v] => rfl
  | v :: u :: l => rfl
theorem runFn_ok (hG : Given P C Γ) {f : FuncId} {fn : Func} {sg : Sig} {an : Ann} (hf : P.funcs[f]? = some fn) (hb : fn.body.isNone = false) (hname : (fn.name == "runtime.NumGoroutine") = false)
    {F : Tup sg.ins.tys → Option (Tup sg.outs.tys)} (hF : ∀ x y, F x = some y → runFn C Γ sg an fn x = some y) (hio : sg.ins.objs.length ≤ sg.outs.objs.length) : Con.Ok P C ⟨f, sg, F⟩ where
  there := ⟨fn, hf, hb, hname⟩
  calls := by
    intro E w args x y W hg hs hh hxy
    have h := hF x y hxy
    unfold runFn at h
    cases hbody : fn.body with
    | none => rw [hbody] at hb; cases hb
    | some c =>
      rw [hbody] at h
      replace h := build_some h
      rw [repK_eq] at h
      have hargs := SV.satL_length hs
      have hs' : SV.satL E (bL (idList sg.ins.objs.length 0) sg.ins.slots (ofTup sg.ins.tys x)).1 args := hs
      have hargs' : args.length = (bL (idList sg.ins.objs.length 0) sg.ins.slots (ofTup sg.ins.tys x)).1.length := hargs
      refine calls_of_wp hf hbody ?_
      have hskip : ∀ n, SV.satL E (List.replicate n SV.skip) (List.replicate n undef) := by
        intro n
        induction n with
        | zero => simp [SV.satL]
        | succ n ih => rw [List.replicate_succ, List.replicate_succ]; simp only [SV.satL]; exact ⟨_, _, rfl, by simp [SV.sat], ih⟩
      refine run_sound (B := ⟨w, W, E.M⟩) hG hh (fr := (bL (idList sg.ins.objs.length 0) sg.ins.slots (ofTup sg.ins.tys x)).1 ++ List.replicate (fn.ntmps - (bL (idList sg.ins.objs.length 0) sg.ins.slots (ofTup sg.ins.tys x)).1.length) SV.skip) ?_ hg h ?_
      · simp only [Array.toList_append, Array.toList_replicate, List.size_toArray]
        rw [← hargs']
        exact SV.satL_append hs' (hskip _)
      · intro lv E' fr' hp' a' w' h1 h2 h3 h4 h5
        -- what is handed back
        have fin : (resTmps C hp' fr' fn.results.toList fun rs => pack sg.ins.objs.length sg.outs rs hp' fun ds _ _ => toTup sg.outs.tys ds some) = some y →
            a'.defers = [] ∧ ∃ v, (results fn a'.tmps).run P w' = .ok v w' ∧ ∃ (E' : Env) (vs : List Value), Ending.returned v = .returned (retVal vs) ∧ SV.satL E' (Con.outL ⟨f, sg, F⟩ y).1 vs ∧ Hp ⟨w, W, E.M⟩ E' (Con.outO ⟨f, sg, F⟩ y) w' ∧
              ∀ (j : Nat) (e : LE), j < sg.ins.objs.length → E.L[j]? = some e → E'.L[j]? = some e := by
          intro h5
          obtain ⟨ss, vs, q1, h5, q2⟩ := resTmps_some (P := P) (w := w') (fn := fn) hG.ctx h2 h3 h5
          have hn : sg.ins.objs.length ≤ hp'.length := by
            have hl : E.L.length = sg.ins.objs.length := by
              rw [hh.len]
              exact bO_len (bL_rest (ss := sg.ins.slots) (by rw [ofTup_tys, Skel.tys, catTys_eq]))
            rw [← hl, ← h2.len]
            cases hl : E.L.length with
            | zero => exact Nat.zero_le _
            | succ m =>
              have := h1.2 m _ (List.getElem?_eq_getElem (by omega))
              have := (List.getElem?_eq_some_iff.1 this).1
              omega
          replace h5 := pack_some h2 q1 hn h5; obtain ⟨E1, hp2, ds, mp, hpk, h5⟩ := h5
          replace h5 := toTup_some h5; obtain ⟨y', hy', h5⟩ := h5
          have := Option.some.inj h5
          subst this
          subst hy'
          obtain ⟨hH, hS⟩ := hpk.heap
          refine ⟨by rw [h4.defers], retVal vs, run_results q2, _, vs, rfl, hS, hH, fun j e hj he => ?_⟩
          show (mp.map (pmLE E'))[j]? = some e
          rw [List.getElem?_map, hpk.fix j hj (by omega)]
          simp [pmLE, h1.2 j e he]
        cases lv with
        | normal =>
          obtain ⟨g1, v, g2, g3⟩ := fin h5
          exact ⟨g1, v, g2, g3⟩
        | ret =>
          obtain ⟨g1, v, g2, g3⟩ := fin h5
          exact ⟨g1, v, g2, g3⟩
        | exit i => simp [Ks.at] at h5
        | goto i => simp [Ks.at] at h5
        | panic T => simp [Ks.at] at h5
def runEnd (f : FuncId) (sg : Sig) (T : TypeId) (t : Ty) (E : Env) (w : World) (W : Nat → Prop) (z : Tup sg.outs.tys ⊕ t.den) (e : Ending) (w' : World) : Prop :=
  match z with
  | .inl y => ∃ (E' : Env) (vs : List Value), e = .returned (retVal vs) ∧ SV.satL E' (Con.outL ⟨f, sg, fun _ => none⟩ y).1 vs ∧ Hp ⟨w, W, E.M⟩ E' (Con.outO ⟨f, sg, fun _ => none⟩ y) w' ∧
      ∀ (j : Nat) (e : LE), j < sg.ins.objs.length → E.L[j]? = some e → E'.L[j]? = some e
  | .inr d => ∃ (M' : Mem) (cs : List Value), e = .panicked [{ v := .iface T (valOf t cs), recovered := false }] ∧ Rep M' t d cs ∧ Hp ⟨w, W, E.M⟩ ⟨M', []⟩ [] w'
theorem runFnP_calls {Θ : List PCon} (hG : Given P C Γ) (hT : ∀ c ∈ Θ, c.Ok P C) {f : FuncId} {fn : Func} {sg : Sig} {T : TypeId} {t : Ty} {an : Ann} (hf : P.funcs[f]? = some fn) (hb : fn.body.isNone = false)
    {x : Tup sg.ins.tys} {z : Tup sg.outs.tys ⊕ t.den} (hx : runFnP C Γ Θ sg T t an fn x = some z) (hio : sg.ins.objs.length ≤ sg.outs.objs.length)
    (E : Env) (w : World) (args : List Value) (W : Nat → Prop) (hg : C.globsOk E.M) (hs : SV.satL E (Con.inL ⟨f, sg, fun _ => none⟩ x).1 args) (hh : Hp ⟨w, W, E.M⟩ E (Con.inO ⟨f, sg, fun _ => none⟩ x) w) :
    Calls P f args.toArray w fun e w' => runEnd f sg T t E w W z e w' := by
  have hty : dvTys (ofTup sg.ins.tys x) = shTys sg.ins.slots ++ objTys sg.ins.objs := by rw [ofTup_tys, Skel.tys, catTys_eq]
  have h := hx
  unfold runFnP at h
  cases hbody : fn.body with
  | none => rw [hbody] at hb; cases hb
  | some c =>
    rw [hbody] at h
    replace h := build_some h
    rw [repK_eq] at h
    have hargs := SV.satL_length hs
    have hs' : SV.satL E (bL (idList sg.ins.objs.length 0) sg.ins.slots (ofTup sg.ins.tys x)).1 args := hs
    have hargs' : args.length = (bL (idList sg.ins.objs.length 0) sg.ins.slots (ofTup sg.ins.tys x)).1.length := hargs
    refine calls_of_wp hf hbody ?_
    have hskip : ∀ n, SV.satL E (List.replicate n SV.skip) (List.replicate n undef) := by
      intro n
      induction n with
      | zero => simp [SV.satL]
      | succ n ih => rw [List.replicate_succ, List.replicate_succ]; simp only [SV.satL]; exact ⟨_, _, rfl, by simp [SV.sat], ih⟩
    refine run_soundP (B := ⟨w, W, E.M⟩) hG hT hh (fr := (bL (idList sg.ins.objs.length 0) sg.ins.slots (ofTup sg.ins.tys x)).1 ++ List.replicate (fn.ntmps - (bL (idList sg.ins.objs.length 0) sg.ins.slots (ofTup sg.ins.tys x)).1.length) SV.skip) ?_ hg h ?_ ?_
    · simp only [Array.toList_append, Array.toList_replicate, List.size_toArray]
      rw [← hargs']
      exact SV.satL_append hs' (hskip _)
    · intro lv E' fr' hp' a' w' h1 h2 h3 h4 h5
      -- what is handed back
      have fin : (resTmps C hp' fr' fn.results.toList fun rs => pack sg.ins.objs.length sg.outs rs hp' fun ds _ _ => toTup sg.outs.tys ds fun y => some (Sum.inl y : Tup sg.outs.tys ⊕ t.den)) = some z →
          a'.defers = [] ∧ ∃ v, (results fn a'.tmps).run P w' = .ok v w' ∧ runEnd f sg T t E w W z (.returned v) w' := by
        intro h5
        obtain ⟨ss, vs, q1, h5, q2⟩ := resTmps_some (P := P) (w := w') (fn := fn) hG.ctx h2 h3 h5
        have hn : sg.ins.objs.length ≤ hp'.length := by
          have hl : E.L.length = sg.ins.objs.length := by
            rw [hh.len]
            exact bO_len (bL_rest (ss := sg.ins.slots) hty)
          rw [← hl, ← h2.len]
          cases hl : E.L.length with
          | zero => exact Nat.zero_le _
          | succ m =>
            have := h1.2 m _ (List.getElem?_eq_getElem (by omega))
            have := (List.getElem?_eq_some_iff.1 this).1
            omega
        replace h5 := pack_some h2 q1 hn h5; obtain ⟨E1, hp2, ds, mp, hpk, h5⟩ := h5
        replace h5 := toTup_some h5; obtain ⟨y', hy', h5⟩ := h5
        have := Option.some.inj h5
        subst this
        subst hy'
        obtain ⟨hH, hS⟩ := hpk.heap
        refine ⟨by rw [h4.defers], retVal vs, run_results q2, ?_⟩
        unfold runEnd
        refine ⟨_, vs, rfl, hS, hH, fun j e hj he => ?_⟩
        show (mp.map (pmLE E'))[j]? = some e
        rw [List.getElem?_map, hpk.fix j hj (by omega)]
        simp [pmLE, h1.2 j e he]
      cases lv with
      | normal =>
        obtain ⟨g1, v, g2, g3⟩ := fin h5
        exact ⟨g1, v, g2, g3⟩
      | ret =>
        obtain ⟨g1, v, g2, g3⟩ := fin h5
        exact ⟨g1, v, g2, g3⟩
      | exit i => simp [Ks.at] at h5
      | goto i => simp [Ks.at] at h5
      | panic T => simp [Ks.at] at h5
    · intro M' T' t' d cs a' w' k1 k2 k3 k4 k5
      dsimp only at k5
      cases hb : Nat.beq T' T with
      | false => rw [hb] at k5; cases k5
      | true =>
        rw [hb, cond_true] at k5
        obtain rfl := Nat.eq_of_beq_eq_true hb
        obtain ⟨e, k5⟩ := dite_some' k5
        subst e
        have := Option.some.inj k5
        subst this
        exact ⟨by rw [k3.defers], M', cs, rfl, k4, k2⟩
theorem runFnP_ok {Θ : List PCon} (hG : Given P C Γ) (hT : ∀ c ∈ Θ, c.Ok P C) {f : FuncId} {fn : Func} {sg : Sig} {T : TypeId} {t : Ty} {an : Ann} (hf : P.funcs[f]? = some fn) (hb : fn.body.isNone = false) (hname : (fn.name == "runtime.NumGoroutine") = false)
    {F : Tup sg.ins.tys → Option (Tup sg.outs.tys ⊕ t.den)} (hF : ∀ x z, F x = some z → runFnP C Γ Θ sg T t an fn x = some z) (hio : sg.ins.objs.length ≤ sg.outs.objs.length) : PCon.Ok P C ⟨f, sg, T, t, F⟩ where
  nrm := {
    there := ⟨fn, hf, hb, hname⟩
    calls := fun E w args x y W hg hs hh hxy => by
      have : F x = some (.inl y) := by
        cases hFx : F x with
        | none => simp [PCon.nrm, hFx] at hxy
        | some z =>
          cases z with
          | inl y' =>
            have : some y' = some y := by simpa [PCon.nrm, hFx] using hxy
            rw [Option.some.inj this]
          | inr d => simp [PCon.nrm, hFx] at hxy
      exact runFnP_calls hG hT hf hb (hF x _ this) hio E w args W hg hs hh }
  pan := fun E w args x d W hg hs hh hxd => runFnP_calls hG hT hf hb (hF x _ hxd) hio E w args W hg hs hh
end
end Go.Sx
