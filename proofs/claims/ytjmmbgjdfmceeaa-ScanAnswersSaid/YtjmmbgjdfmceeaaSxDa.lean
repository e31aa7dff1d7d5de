/- Dfa, plain: caches of states. -/
import Derived.Test.YtjmmbgjdfmceeaaSxDY9
set_option linter.unusedVariables false
set_option linter.unusedSimpArgs false
namespace Go.Sx
abbrev StD := List Int × Bool × List (Int × Int)
def dSt : StD := ([], false, [])
def knownS (S : List StD) (A : List Int) (b : Bool) : Int := match (S.map fun s => (s.1, s.2.1)).findIdx? (fun k => decide (k = (A, b))) with
  | some k => (k : Int)
  | none => -1
noncomputable def behS (p : List Inst) (s : StD) (c : Int) : List Int := moveS p (reachS p s.1 s.2.1 false) c
def listOk (A : List Int) (n : Nat) : Prop := A ≠ [] ∧ (∀ a ∈ A, 0 ≤ a ∧ a < n) ∧ A.Pairwise (· < ·)
def edgeOk (p : List Inst) (S : List StD) (s : StD) (e : Int × Int) : Prop := (behS p s e.1 = [] → e.2 = -1) ∧ (behS p s e.1 ≠ [] → e.2 ≠ -1 ∧ e.2 = knownS S (behS p s e.1) false)
structure StateI (p : List Inst) (S : List StD) (i : Nat) (s : StD) : Prop where
  list : listOk s.1 p.length
  known : knownS S s.1 s.2.1 = i
  dist : (s.2.2.map fun e => e.1).Nodup
  edge : ∀ e ∈ s.2.2, edgeOk p S s e
def CacheI (p : List Inst) (S : List StD) : Prop := ∀ i (h : i < S.length), StateI p S i S[i]
theorem knownS_ge (S : List StD) (A : List Int) (b : Bool) : knownS S A b = -1 ∨ (0 ≤ knownS S A b ∧ knownS S A b < S.length) := by
  unfold knownS
  split
  · rename_i k hk
    have := (List.findIdx?_eq_some_iff_getElem.1 hk).1
    rw [List.length_map] at this
    omega
  · exact .inl rfl
theorem knownS_some {S : List StD} {A : List Int} {b : Bool} {k : Nat} (h : knownS S A b = k) : ∃ hk : k < S.length, S[k].1 = A ∧ S[k].2.1 = b := by
  unfold knownS at h
  split at h
  · rename_i j hj
    have : j = k := by omega
    subst this
    obtain ⟨h1, h2, _⟩ := List.findIdx?_eq_some_iff_getElem.1 hj
    simp only [List.getElem_map, decide_eq_true_eq, Prod.mk.injEq] at h2
    rw [List.length_map] at h1
    exact ⟨h1, h2.1, h2.2⟩
  · omega
theorem knownS_congr {S T : List StD} (h : S.map (fun s => (s.1, s.2.1)) = T.map fun s => (s.1, s.2.1)) (A : List Int) (b : Bool) : knownS S A b = knownS T A b := by
  unfold knownS
  rw [h]
theorem knownS_app {S : List StD} {A : List Int} {b : Bool} (h : knownS S A b ≠ -1) (T : List StD) : knownS (S ++ T) A b = knownS S A b := by
  unfold knownS at h ⊢
  rw [List.map_append, List.findIdx?_append]
  cases hf : (S.map fun s => (s.1, s.2.1)).findIdx? (fun k => decide (k = (A, b))) with
  | some k => rfl
  | none => rw [hf] at h; exact absurd rfl h
theorem knownS_new {S : List StD} {A : List Int} {b : Bool} (h : knownS S A b = -1) (E : List (Int × Int)) : knownS (S ++ [(A, b, E)]) A b = S.length := by
  unfold knownS at h ⊢
  rw [List.map_append, List.findIdx?_append]
  cases hf : (S.map fun s => (s.1, s.2.1)).findIdx? (fun k => decide (k = (A, b))) with
  | some k => rw [hf] at h; simp at h
  | none => simp [List.findIdx?_cons]
def findS (most : Int) (S : List StD) (fl : Int) (A : List Int) (b : Bool) : List StD × Int × Int × Bool :=
  if knownS S A b ≠ -1 then (S, fl, knownS S A b, false)
  else if (S.length : Int) = most then ([(A, b, [])], fl + 1, 0, true)
  else (S ++ [(A, b, [])], fl, (S.length : Int), false)
def edgeS (s : StD) (c to : Int) : StD := (s.1, s.2.1, s.2.2 ++ [(c, to)])
noncomputable def nextS (p : List Inst) (most : Int) (S : List StD) (fl : Int) (i : Nat) (c : Int) : List StD × Int × Int :=
  match (S.getD i dSt).2.2.find? fun e => e.1 == c with
  | some e => (S, fl, e.2)
  | none =>
    if behS p (S.getD i dSt) c = [] then (S.set i (edgeS (S.getD i dSt) c (-1)), fl, -1)
    else
      let r := findS most S fl (behS p (S.getD i dSt) c) false
      if r.2.2.2 = true then (r.1, r.2.1, r.2.2.1) else (r.1.set i (edgeS (r.1.getD i dSt) c r.2.2.1), r.2.1, r.2.2.1)
theorem edgeOk_congr {p : List Inst} {S T : List StD} {s : StD} {e : Int × Int} (h : edgeOk p S s e) (hk : ∀ A b, knownS S A b ≠ -1 → knownS T A b = knownS S A b) : edgeOk p T s e := by
  refine ⟨h.1, fun hb => ?_⟩
  obtain ⟨h1, h2⟩ := h.2 hb
  refine ⟨h1, ?_⟩
  rw [hk _ _ (by rw [← h2]; exact h1)]
  exact h2
theorem CacheI.nil (p : List Inst) : CacheI p [] := fun i h => by simp at h
theorem CacheI.one {p : List Inst} {A : List Int} {b : Bool} (hA : listOk A p.length) : CacheI p [(A, b, [])] := by
  intro i h
  have : i = 0 := by simp at h; omega
  subst this
  refine ⟨hA, ?_, List.nodup_nil, fun e he => by simp at he⟩
  simp [knownS, List.findIdx?_cons]
theorem findS_ok {p : List Inst} {most : Int} {S : List StD} (h : CacheI p S) (hm : (S.length : Int) ≤ most) (hm1 : 1 ≤ most) (fl : Int) {A : List Int} {b : Bool} (hA : listOk A p.length) :
    ∃ (T : List StD) (fl' : Int) (k : Nat) (w : Bool), findS most S fl A b = (T, fl', (k : Int), w) ∧ CacheI p T ∧ (T.length : Int) ≤ most ∧ (∃ hk : k < T.length, T[k].1 = A ∧ T[k].2.1 = b) ∧ knownS T A b = k ∧
      (w = true → fl' = fl + 1 ∧ T = [(A, b, [])]) ∧ (w = false → fl' = fl ∧ (T = S ∨ (T = S ++ [(A, b, [])] ∧ knownS S A b = -1))) := by
  unfold findS
  by_cases hk : knownS S A b ≠ -1
  · rw [if_pos hk]
    rcases knownS_ge S A b with h1 | ⟨h1, h2⟩
    · exact absurd h1 hk
    · obtain ⟨k, hk2⟩ := Int.eq_ofNat_of_zero_le h1
      rw [hk2]
      exact ⟨S, fl, k, false, rfl, h, hm, knownS_some hk2, hk2, (fun e => by cases e), fun _ => ⟨rfl, .inl rfl⟩⟩
  · rw [if_neg hk]
    have hk' : knownS S A b = -1 := by
      apply Decidable.byContradiction
      exact hk
    by_cases hl : (S.length : Int) = most
    · rw [if_pos hl]
      refine ⟨_, _, 0, true, rfl, CacheI.one hA, by simp; exact hm1, ⟨by simp, rfl, rfl⟩, ?_, fun _ => ⟨rfl, rfl⟩, fun e => by cases e⟩
      simp [knownS, List.findIdx?_cons]
    · rw [if_neg hl]
      refine ⟨_, _, S.length, false, rfl, ?_, by simp; omega, ⟨by simp, by simp, by simp⟩, knownS_new hk' [], (fun e => by cases e), fun _ => ⟨rfl, .inr ⟨rfl, hk'⟩⟩⟩
      intro i hi
      by_cases his : i < S.length
      · rw [List.getElem_append_left his]
        obtain ⟨g1, g2, g3, g4⟩ := h i his
        refine ⟨g1, ?_, g3, fun e he => edgeOk_congr (g4 e he) fun A b hn => knownS_app hn _⟩
        rw [knownS_app (by rw [g2]; omega)]
        exact g2
      · have : i = S.length := by simp at hi; omega
        subst this
        simp only [List.getElem_concat_length]
        exact ⟨hA, knownS_new hk' [], List.nodup_nil, fun e he => by simp at he⟩
theorem keys_set {S : List StD} {i : Nat} {s : StD} (h : i < S.length) (h1 : s.1 = S[i].1) (h2 : s.2.1 = S[i].2.1) : (S.set i s).map (fun s => (s.1, s.2.1)) = S.map fun s => (s.1, s.2.1) := by
  apply List.ext_getElem
  · simp
  · intro n g1 g2
    simp only [List.getElem_map, List.getElem_set]
    split
    · rename_i hn; subst hn; rw [h1, h2]
    · rfl
theorem edge_new {p : List Inst} {S : List StD} (h : CacheI p S) {i : Nat} (hi : i < S.length) {c to : Int} (hc : ∀ e ∈ S[i].2.2, e.1 ≠ c) (he : edgeOk p S S[i] (c, to)) : CacheI p (S.set i (edgeS S[i] c to)) := by
  have hkeys := keys_set (s := edgeS S[i] c to) hi rfl rfl
  intro j hj
  rw [List.length_set] at hj
  obtain ⟨g1, g2, g3, g4⟩ := h j hj
  rw [List.getElem_set]
  split
  · rename_i hij
    subst hij
    refine ⟨g1, ?_, ?_, fun e hem => ?_⟩
    · rw [knownS_congr hkeys]; exact g2
    · show ((S[i].2.2 ++ [(c, to)]).map fun e => e.1).Nodup
      rw [List.map_append, List.nodup_append]
      refine ⟨g3, by simp, fun a ha b hb => ?_⟩
      simp at hb
      subst hb
      obtain ⟨e, he1, rfl⟩ := List.mem_map.1 ha
      exact hc e he1
    · have hem' : e ∈ S[i].2.2 ++ [(c, to)] := hem
      rcases List.mem_append.1 hem' with h1 | h1
      · exact edgeOk_congr (g4 e h1) fun A b _ => knownS_congr hkeys A b
      · simp at h1
        subst h1
        exact edgeOk_congr he fun A b _ => knownS_congr hkeys A b
  · refine ⟨g1, ?_, g3, fun e hem => edgeOk_congr (g4 e hem) fun A b _ => knownS_congr hkeys A b⟩
    rw [knownS_congr hkeys]; exact g2
theorem rightS_last {p : List Inst} (hp : rightS p = true) : 0 < p.length ∧ (p.getD (p.length - 1) dI).1 = 0 ∧ p.length ≤ 1000 := by
  unfold rightS at hp
  simp only [Bool.and_eq_true, decide_eq_true_eq] at hp
  obtain ⟨⟨⟨h1, h2⟩, h3⟩, _⟩ := hp
  exact ⟨by cases p with
    | nil => exact absurd rfl h1
    | cons a r => simp, h3, h2⟩
theorem behS_ok {p : List Inst} (hp : rightS p = true) (s : StD) (c : Int) (h : behS p s c ≠ []) : listOk (behS p s c) p.length := by
  refine ⟨h, fun a ha => ?_, moveS_rise (reachS_rise p s.1 s.2.1 false) c⟩
  unfold behS at ha
  obtain ⟨h1, h2⟩ := moveS_mem.1 ha
  have h3 := reachS_in _ h1
  obtain ⟨g1, g2, g3⟩ := rightS_last hp
  refine ⟨by omega, ?_⟩
  apply Int.lt_of_not_ge
  intro hge
  unfold okM at h2
  simp only [Bool.and_eq_true, decide_eq_true_eq] at h2
  have : (a - 1).toNat = p.length - 1 := by omega
  rw [this, g2] at h2
  omega
theorem nextS_ok {p : List Inst} (hp : rightS p = true) {most : Int} {S : List StD} (h : CacheI p S) (hm : (S.length : Int) ≤ most) (hm1 : 1 ≤ most) (fl : Int) {i : Nat} (hi : i < S.length) (c : Int) :
    ∃ (T : List StD) (fl' to : Int), nextS p most S fl i c = (T, fl', to) ∧ CacheI p T ∧ (T.length : Int) ≤ most ∧ (fl' = fl ∨ fl' = fl + 1) ∧ (fl' = fl → S.length ≤ T.length) ∧
      (behS p S[i] c = [] → to = -1) ∧ (behS p S[i] c ≠ [] → ∃ k : Nat, to = (k : Int) ∧ ∃ hk : k < T.length, T[k].1 = behS p S[i] c ∧ T[k].2.1 = false) := by
  have hg : S.getD i dSt = S[i] := by simp [List.getD_eq_getElem?_getD, hi]
  obtain ⟨g1, g2, g3, g4⟩ := h i hi
  unfold nextS
  rw [hg]
  cases hf : S[i].2.2.find? fun e => e.1 == c with
  | some e =>
    have hm2 := List.mem_of_find?_eq_some hf
    have hc := List.find?_some hf
    rw [beq_iff_eq] at hc
    have he := g4 e hm2
    rw [← hc]
    refine ⟨S, fl, e.2, rfl, h, hm, .inl rfl, fun _ => Nat.le_refl _, he.1, fun hb => ?_⟩
    obtain ⟨h1, h2⟩ := he.2 hb
    rcases knownS_ge S (behS p S[i] e.1) false with h3 | ⟨h3, h4⟩
    · exact absurd (h2.trans h3) h1
    · obtain ⟨k, hk⟩ := Int.eq_ofNat_of_zero_le h3
      exact ⟨k, h2.trans hk, knownS_some hk⟩
  | none =>
    have hno : ∀ e ∈ S[i].2.2, e.1 ≠ c := fun e he => by
      have := List.find?_eq_none.1 hf e he
      simpa using this
    simp only
    by_cases hb : behS p S[i] c = []
    · rw [if_pos hb]
      refine ⟨_, _, _, rfl, edge_new h hi hno ⟨fun _ => rfl, fun k => absurd hb k⟩, by simpa using hm, .inl rfl, fun _ => by simp, fun _ => rfl, fun k => absurd hb k⟩
    · rw [if_neg hb]
      obtain ⟨T, fl', k, w, f1, f2, f3, ⟨f4, f5, f6⟩, f7, f8, f9⟩ := findS_ok h hm hm1 fl (b := false) (behS_ok hp S[i] c hb)
      rw [f1]
      simp only
      cases w with
      | true =>
        obtain ⟨q1, q2⟩ := f8 rfl
        rw [if_pos rfl]
        exact ⟨T, fl', k, rfl, f2, f3, .inr q1, fun e => by omega, fun e => absurd e hb, fun _ => ⟨k, rfl, f4, f5, f6⟩⟩
      | false =>
        obtain ⟨q1, q2⟩ := f9 rfl
        rw [if_neg (by simp)]
        have hiT : ∃ hiT : i < T.length, T[i] = S[i] := by
          rcases q2 with rfl | ⟨rfl, _⟩
          · exact ⟨hi, rfl⟩
          · exact ⟨by simp; omega, List.getElem_append_left hi⟩
        obtain ⟨hiT, heT⟩ := hiT
        have hgT : T.getD i dSt = T[i] := by simp [List.getD_eq_getElem?_getD, hiT]
        rw [hgT]
        have hnew := edge_new (to := (k : Int)) f2 hiT (c := c) (by rw [heT]; exact hno) (by
          rw [heT]
          exact ⟨fun e => absurd e hb, fun _ => ⟨by show (k : Int) ≠ -1; omega, f7.symm⟩⟩)
        have hlen : S.length ≤ T.length := by
          rcases q2 with rfl | ⟨rfl, _⟩
          · exact Nat.le_refl _
          · simp
        refine ⟨_, _, _, rfl, hnew, by simpa using f3, .inl q1, fun _ => by simpa using hlen, fun e => absurd e hb, fun _ => ⟨k, rfl, by simpa using f4, ?_⟩⟩
        rw [List.getElem_set]
        split
        · rename_i hik
          subst hik
          exact ⟨f5, f6⟩
        · exact ⟨f5, f6⟩
noncomputable def roundsS (p : List Inst) : List Int → Nat → List Int → Nat
  | _, _, [] => 0
  | [], _, _ => 1
  | c :: l, i, A => 1 + roundsS p l (i + 1) (moveS p (reachS p A (decide (i = 0)) false) c)
theorem roundsS_le (p : List Inst) : ∀ (l : List Int) (i : Nat) (A : List Int), roundsS p l i A ≤ l.length + 1
  | l, i, [] => by cases l <;> simp [roundsS]
  | [], i, a :: A => by simp [roundsS]
  | c :: l, i, a :: A => by
    have := roundsS_le p l (i + 1) (moveS p (reachS p (a :: A) (decide (i = 0)) false) c)
    simp only [roundsS, List.length_cons]
    omega
noncomputable def longG (p : List Inst) (most : Int) : List Int → Nat → List StD → Int → Nat → Int → Nat → List StD × Int × Int × Nat
  | [], i, S, fl, s, e, n => (S, fl, if matchS p (reachS p (S.getD s dSt).1 (S.getD s dSt).2.1 true) = true then (i : Int) else e, n + 1)
  | c :: l, i, S, fl, s, e, n =>
    let e' := if matchS p (reachS p (S.getD s dSt).1 (S.getD s dSt).2.1 false) = true then (i : Int) else e
    let r := nextS p most S fl s c
    if r.2.2 < 0 then (r.1, r.2.1, e', n + 1) else longG p most l (i + 1) r.1 r.2.1 r.2.2.toNat e' (n + 1)
theorem longG_ok {p : List Inst} (hp : rightS p = true) {most : Int} (hm1 : 1 ≤ most) : ∀ (l : List Int) (i : Nat) (S : List StD) (fl : Int) (s : Nat) (e : Int) (n : Nat), CacheI p S → (S.length : Int) ≤ most → (hs : s < S.length) → S[s].2.1 = decide (i = 0) →
    ∃ (T : List StD) (fl' : Int), longG p most l i S fl s e n = (T, fl', lastOr e (walkS p l i S[s].1).1, n + roundsS p l i S[s].1) ∧ CacheI p T ∧ (T.length : Int) ≤ most ∧ fl ≤ fl' ∧ fl' ≤ fl + l.length := by
  intro l
  induction l with
  | nil =>
    intro i S fl s e n h hm hs hb
    have hg : S.getD s dSt = S[s] := by simp [List.getD_eq_getElem?_getD, hs]
    have hne : S[s].1 ≠ [] := (h s hs).list.1
    refine ⟨S, fl, ?_, h, hm, Int.le_refl _, by simp⟩
    unfold longG
    rw [hg, walkS_last p hne, hb]
    have hr : roundsS p [] i S[s].1 = 1 := by
      cases hA : S[s].1 with
      | nil => exact absurd hA hne
      | cons a A => rfl
    rw [hr]
    cases matchS p (reachS p S[s].1 (decide (i = 0)) true) <;> rfl
  | cons c l ih =>
    intro i S fl s e n h hm hs hb
    have hg : S.getD s dSt = S[s] := by simp [List.getD_eq_getElem?_getD, hs]
    have hne : S[s].1 ≠ [] := (h s hs).list.1
    obtain ⟨T, fl', to, t1, t2, t3, t4, t5, t6, t7⟩ := nextS_ok hp h hm hm1 fl hs c
    have hbeh : behS p S[s] c = moveS p (reachS p S[s].1 (decide (i = 0)) false) c := by unfold behS; rw [hb]
    have hr : roundsS p (c :: l) i S[s].1 = 1 + roundsS p l (i + 1) (behS p S[s] c) := by
      rw [hbeh]
      cases hA : S[s].1 with
      | nil => exact absurd hA hne
      | cons a A => rfl
    unfold longG
    rw [hg, walkS_cons p hne, hb, t1, hr, ← hbeh]
    simp only
    by_cases hbe : behS p S[s] c = []
    · rw [t6 hbe, if_pos (by omega), hbe]
      refine ⟨T, fl', ?_, t2, t3, by omega, by simp; omega⟩
      rw [walkS_nil]
      have hr0 : roundsS p l (i + 1) [] = 0 := by cases l <;> rfl
      rw [hr0, List.append_nil]
      cases matchS p (reachS p S[s].1 (decide (i = 0)) false) <;> rfl
    · obtain ⟨k, rfl, hk, k1, k2⟩ := t7 hbe
      rw [if_neg (by omega), Int.toNat_natCast]
      obtain ⟨T', fl'', r1, r2, r3, r4, r5⟩ := ih (i + 1) T fl' k (if matchS p (reachS p S[s].1 (decide (i = 0)) false) = true then (i : Int) else e) (n + 1) t2 t3 hk (by rw [k2]; simp)
      refine ⟨T', fl'', ?_, r2, r3, by omega, by simp; omega⟩
      rw [r1, k1, lastOr_app]
      have e1 : n + 1 + roundsS p l (i + 1) (behS p S[s] c) = n + (1 + roundsS p l (i + 1) (behS p S[s] c)) := by omega
      have e2 : (if matchS p (reachS p S[s].1 (decide (i = 0)) false) = true then (i : Int) else e) = lastOr e (if matchS p (reachS p S[s].1 (decide (i = 0)) false) = true then [(i : Int)] else []) := by
        cases matchS p (reachS p S[s].1 (decide (i = 0)) false) <;> rfl
      rw [e1, e2]
noncomputable def longS (p : List Inst) (most : Int) (S : List StD) (fl : Int) (l : List Int) (k : Nat) : List StD × Int × Int × Nat :=
  let r := findS most S fl [0] (decide (k = 0))
  longG p most (l.drop k) k r.1 r.2.1 r.2.2.1.toNat (-1) 0
theorem zero_ok {p : List Inst} (hp : rightS p = true) : listOk [0] p.length := by
  obtain ⟨h, _⟩ := rightS_last hp
  exact ⟨by simp, fun a ha => by simp at ha; subst ha; omega, by simp⟩
theorem longS_ok {p : List Inst} (hp : rightS p = true) {most : Int} (hm1 : 1 ≤ most) {S : List StD} (h : CacheI p S) (hm : (S.length : Int) ≤ most) (fl : Int) (l : List Int) {k : Nat} (hk : k ≤ l.length) :
    ∃ (T : List StD) (fl' : Int), longS p most S fl l k = (T, fl', lastOr (-1) (runS p l k).1, roundsS p (l.drop k) k [0]) ∧ CacheI p T ∧ (T.length : Int) ≤ most ∧ fl ≤ fl' ∧ fl' ≤ fl + l.length + 1 := by
  unfold longS
  obtain ⟨T, fl', j, w, f1, f2, f3, ⟨f4, f5, f6⟩, f7, f8, f9⟩ := findS_ok h hm hm1 fl (b := decide (k = 0)) (zero_ok hp)
  rw [f1]
  simp only [Int.toNat_natCast]
  obtain ⟨T', fl'', r1, r2, r3, r4, r5⟩ := longG_ok hp hm1 (l.drop k) k T fl' j (-1) 0 f2 f3 f4 f6
  have hfl : fl ≤ fl' ∧ fl' ≤ fl + 1 := by
    cases w with
    | true => have := (f8 rfl).1; omega
    | false => have := (f9 rfl).1; omega
  have hrun : runS p l k = walkS p (l.drop k) k [0] := by
    unfold runS runOk
    rw [hp, if_pos (by simp; omega), Int.toNat_natCast]
  refine ⟨T', fl'', ?_, r2, r3, by omega, by rw [List.length_drop] at r5; omega⟩
  rw [r1, f5, hrun, Nat.zero_add]
end Go.Sx
