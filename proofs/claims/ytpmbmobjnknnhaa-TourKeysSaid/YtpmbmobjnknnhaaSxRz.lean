/- The symbolic evaluator, part Rz: a law's call, whose arguments are no larger than memory. -/
import Derived.Test.YtpmbmobjnknnhaaSxR
set_option linter.unusedVariables false
set_option linter.unusedSimpArgs false
namespace Go.Sx
open Go.RowKit Go.ChangeShapes Go.WideShapes
def Ty.sm : (t : Ty) → t.den → Prop
  | .sl e, xs => xs.length ≤ reachBytes ∧ ∀ y ∈ xs, e.sm y
  | .arr _ e, xs => ∀ y ∈ xs, e.sm y
  | .pair a b, x => a.sm x.1 ∧ b.sm x.2
  | .st f, x => f.sm x
  | _, _ => True
def modeZ (g : TypeId → Bool) : TypeId ⊕ List Field → Bool
  | .inl T => g T
  | .inr [f] => g f.type
  | _ => false
def bigA (P : Program) : Ty → TypeId ⊕ List Field → Bool
  | .sl e, x => modeZ (fun T => match P.underlying T with
    | some (.slice E) => Nat.ble 1 (P.bytesOf E) && bigA P e (.inl E)
    | _ => false) x
  | .arr _ e, x => modeZ (fun T => match P.underlying T with
    | some (.array _ E) => bigA P e (.inl E)
    | _ => false) x
  | .st f, x => modeZ (fun T => match P.underlying T with
    | some (.struct fs) => bigA P f (.inr fs.toList)
    | _ => false) x
  | .pair a b, .inr (f :: fs) => bigA P a (.inl f.type) && bigA P b (.inr fs)
  | .pair _ _, _ => false
  | _, _ => true
section
variable {H : Type} {P : Program}
def weighA (P : Program) : TypeId ⊕ List Field → DataW H ⊕ List (DataW H) → List Nat
  | .inl T, .inl d => d.weights P T
  | .inr fs, .inr ds => DataW.weightsEach P (fs.map (·.type)) ds
  | _, _ => []
def sideA : TypeId ⊕ List Field → DataW H ⊕ List (DataW H) → Prop
  | .inl _, .inl _ => True
  | .inr _, .inr _ => True
  | _, _ => False
theorem weigh_one {g : TypeId → Bool} {α : Type} {rd : DataW H → Option α} {y : α} {x : TypeId ⊕ List Field} {d : DataW H ⊕ List (DataW H)} (hs : sideA x d) (hg : modeZ g x = true) (hr : modeD rd d = some y)
    (hw : ∀ n ∈ weighA P x d, n ≤ reachBytes) : ∃ T d', g T = true ∧ rd d' = some y ∧ ∀ n ∈ d'.weights P T, n ≤ reachBytes := by
  match x, d, hs with
  | .inl T, .inl d', _ => exact ⟨T, d', hg, hr, hw⟩
  | .inr [f], .inr [d'], _ => exact ⟨f.type, d', hg, hr, fun n hn => hw n (by simp [weighA, DataW.weightsEach, hn])⟩
  | .inr [], .inr _, _ => cases hg
  | .inr (_ :: _ :: _), .inr _, _ => cases hg
  | .inr [_], .inr [], _ => cases hr
  | .inr [_], .inr (_ :: _ :: _), _ => cases hr
theorem mapO_all {α β : Type} {f : α → Option β} {q : β → Prop} {r : α → Prop} (h : ∀ a b, r a → f a = some b → q b) : ∀ {l : List α} {m : List β}, mapO f l = some m → (∀ a ∈ l, r a) → (m.length = l.length ∧ ∀ b ∈ m, q b)
  | [], m, hm, _ => by cases hm; simp
  | a :: l, m, hm, hr => by
    simp only [mapO] at hm
    split at hm
    · rename_i y m' h1 h2
      cases hm
      obtain ⟨k1, k2⟩ := mapO_all h h2 fun a ha => hr a (by simp [ha])
      refine ⟨by simp [k1], fun b hb => ?_⟩
      rcases List.mem_cons.1 hb with rfl | hb
      · exact h a _ (hr a (by simp)) h1
      · exact k2 b hb
    · cases hm
theorem weighAll_mem {e : TypeId} : ∀ {l : List (DataW H)} {d : DataW H}, d ∈ l → ∀ n ∈ d.weights P e, n ∈ DataW.weightsAll P e l
  | x :: l, d, h, n, hn => by
    simp only [DataW.weightsAll, List.mem_append]
    rcases List.mem_cons.1 h with rfl | h
    · exact .inl hn
    · exact .inr (weighAll_mem h n hn)
theorem sm_of : ∀ (t : Ty) (x : TypeId ⊕ List Field) (d : DataW H ⊕ List (DataW H)) (y : t.den), sideA x d → bigA P t x = true → readA t d = some y → (∀ n ∈ weighA P x d, n ≤ reachBytes) → t.sm y := by
  intro t
  induction t with
  | int k => intros; trivial
  | bool => intros; trivial
  | str => intros; trivial
  | unit => intros; trivial
  | osl e => intros; trivial
  | flt => intros; trivial
  | cplx => intros; trivial
  | sl e ih =>
    intro x d y hs hb hr hw
    obtain ⟨T, d', h1, h2, h3⟩ := weigh_one hs hb hr hw
    split at h1
    case h_2 => cases h1
    case h_1 E hu =>
      simp only [Bool.and_eq_true] at h1
      have hpos := Nat.le_of_ble_eq_true h1.1
      split at h2
      · cases h2
        exact ⟨Nat.zero_le _, by simp⟩
      · rename_i l sp
        have hw2 : ∀ n ∈ (DataW.slice l sp).weights P T, n ≤ reachBytes := h3
        simp only [DataW.weights, hu, List.mem_cons, List.mem_append] at hw2
        obtain ⟨k1, k2⟩ := mapO_all (q := e.sm) (r := fun d => ∀ n ∈ d.weights P E, n ≤ reachBytes) (fun a b ha hab => ih (.inl E) (.inl a) b trivial h1.2 hab ha) h2 fun a ha n hn => hw2 n (.inr (.inl (weighAll_mem ha n hn)))
        refine ⟨?_, k2⟩
        have := hw2 _ (.inl rfl)
        have h4 := Nat.le_mul_of_pos_right (l.length + sp.length) hpos
        omega
      · cases h2
  | arr n e ih =>
    intro x d y hs hb hr hw
    obtain ⟨T, d', h1, h2, h3⟩ := weigh_one hs hb hr hw
    split at h1
    case h_2 => cases h1
    case h_1 E hu =>
      split at h2
      · rename_i l
        have hw2 : ∀ n ∈ (DataW.agg l).weights P T, n ≤ reachBytes := h3
        simp only [DataW.weights, hu] at hw2
        exact (mapO_all (q := e.sm) (r := fun d => ∀ n ∈ d.weights P E, n ≤ reachBytes) (fun a b ha hab => ih (.inl E) (.inl a) b trivial h1 hab ha) h2 fun a ha n hn => hw2 n (weighAll_mem ha n hn)).2
      · cases h2
  | st f ih =>
    intro x d y hs hb hr hw
    obtain ⟨T, d', h1, h2, h3⟩ := weigh_one hs hb hr hw
    split at h1
    case h_2 => cases h1
    case h_1 fs hu =>
      split at h2
      · rename_i l
        have hw2 : ∀ n ∈ (DataW.agg l).weights P T, n ≤ reachBytes := h3
        simp only [DataW.weights, hu] at hw2
        exact ih (.inr fs.toList) (.inr l) y trivial h1 h2 hw2
      · cases h2
  | pair a b iha ihb =>
    intro x d y hs hb hr hw
    match x, d, hs, hb, hr with
    | .inr (f :: fs), .inr (d :: l), _, hb, hr =>
      simp only [bigA, Bool.and_eq_true] at hb
      simp only [readA] at hr
      split at hr
      · rename_i x' y' h1 h2
        cases hr
        refine ⟨iha (.inl f.type) (.inl d) x' trivial hb.1 h1 fun n hn => hw n ?_, ihb (.inr fs) (.inr l) y' trivial hb.2 h2 fun n hn => hw n ?_⟩
        · simp only [weighA, List.map_cons, DataW.weightsEach, List.mem_append]; exact .inl hn
        · simp only [weighA, List.map_cons, DataW.weightsEach, List.mem_append]; exact .inr hn
      · cases hr
    | .inr (f :: fs), .inr [], _, hb, hr => cases hr
    | .inr [], .inr _, _, hb, _ => cases hb
    | .inl _, .inl _, _, hb, _ => cases hb
def smTup : (ts : List Ty) → Tup ts → Prop
  | [], _ => True
  | [t], x => t.sm x
  | t :: u :: l, x => t.sm x.1 ∧ smTup (u :: l) x.2
def bigs (P : Program) : List Sh → List TypeId → Bool
  | [], [] => true
  | .hole t :: ss, T :: Ts => bigA P t (.inl T) && bigs P ss Ts
  | _, _ => false
theorem sm_reads : ∀ {slots : List Sh} {Ts rest : List TypeId} {xs : List DV} {ds gs : List (DataW H)}, bigs P slots Ts = true → dvTys xs = shTys slots → readsL xs ds → (∀ n ∈ DataW.weightsEach P (Ts ++ rest) (ds ++ gs), n ≤ reachBytes) → ∀ x ∈ xs, x.t.sm x.x
  | .hole t :: ss, T :: Ts, rest, x :: xs, d :: ds, gs, hb, hx, hr, hw => by
    simp only [bigs, Bool.and_eq_true] at hb
    simp only [dvTys, List.map_cons, shTys, List.cons.injEq] at hx
    obtain ⟨t', y⟩ := x
    obtain ⟨h1, h2⟩ := hx
    have h1 : t' = t := h1
    subst h1
    simp only [List.cons_append, DataW.weightsEach, List.mem_append] at hw
    have hh : Ty.sm t' y := sm_of (P := P) t' (.inl T) (.inl d) y trivial hb.1 hr.1 fun n hn => hw n (.inl hn)
    have ih := sm_reads (slots := ss) (Ts := Ts) (rest := rest) (gs := gs) hb.2 h2 hr.2 fun n hn => hw n (.inr hn)
    intro z hz
    rcases List.mem_cons.1 hz with rfl | hz
    · exact hh
    · exact ih z hz
  | [], [], rest, [], ds, gs, _, _, _, _ => by simp
  | [], [], rest, _ :: _, ds, gs, _, hx, _, _ => by simp [dvTys, shTys] at hx
  | .hole t :: ss, T :: Ts, rest, [], ds, gs, _, hx, _, _ => by simp
  | .hole t :: ss, T :: Ts, rest, _ :: _, [], gs, _, hx, hr, _ => by cases hr
  | [], _ :: _, _, _, _, _, hb, _, _, _ => by cases hb
  | .hole _ :: _, [], _, _, _, _, hb, _, _, _ => by cases hb
  | .own _ :: _, _, _, _, _, _, hb, _, _, _ => by simp [bigs] at hb
  | .ptr _ _ :: _, _, _, _, _, _, hb, _, _, _ => by simp [bigs] at hb
  | .nilp :: _, _, _, _, _, _, hb, _, _, _ => by simp [bigs] at hb
  | .und :: _, _, _, _, _, _, hb, _, _, _ => by simp [bigs] at hb
  | .ro _ :: _, _, _, _, _, _, hb, _, _, _ => by simp [bigs] at hb
  | .fnc _ _ :: _, _, _, _, _, _, hb, _, _, _ => by simp [bigs] at hb
  | .agn _ :: _, _, _, _, _, _, hb, _, _, _ => by simp [bigs] at hb
theorem sm_tup : ∀ (ts : List Ty) (x : Tup ts), (∀ d ∈ ofTup ts x, d.t.sm d.x) → smTup ts x
  | [], _, _ => trivial
  | [t], x, h => h ⟨t, x⟩ (by simp [ofTup])
  | t :: u :: l, x, h => ⟨h ⟨t, x.1⟩ (by simp [ofTup]), sm_tup (u :: l) x.2 fun d hd => h d (by simp [ofTup, hd])⟩
end
section
variable {H : Type} {enc : TypeId × Value → H} {P : Program} {W : World}
theorem law_postZ {C : Ctx} {f : FuncId} {fn : Func} {slots : List Sh} {F : Tup (Skel.tys ⟨slots, []⟩) → Option (Tup (Skel.tys ⟨[.hole .bool], []⟩))} {s : ChangeSpec} {tb : TypeId}
    (hok : Con.Ok P C ⟨f, ⟨⟨slots, []⟩, ⟨[.hole .bool], []⟩⟩, F⟩) (hm : holesM P slots fn.params.toList = true) (hres : fn.resultTypes = #[tb]) (hub : P.underlying tb = some .bool)
    (hread : (fn.params.toList.all fun t => P.readableRec t && decide (t < P.types.size)) = true) (hl : laidOutB P = true) (hvars : s.vars = [])
    (hspec : ∀ ds : List (DataW H), ds.length = fn.params.toList.length → s.fn H ds = { results := [.lit (.bool true)], args := ds })
    (hbig : bigs P slots fn.params.toList = true) {ts : List TypeId}
    (pure : ∀ x : Tup (Skel.tys ⟨slots, []⟩), wfTup _ x → smTup _ x → F x = some true) (hg : C.globsOk (snap W)) {base : Nat} {args : Array Value} {ds gs : List (DataW H)} {before : List MemPlace}
    (hz : (DataW.weightsEach P (fn.params.toList ++ ts) (ds ++ gs)).all (· ≤ reachBytes) = true)
    (hval : ∀ (j : Nat) t v, fn.params[j]? = some t → args[j]? = some v → Value.okWide P W .any base t v) (hW : DataW.Whole enc P fn.params.toList s.vars false W args.toList ds gs before) :
    Calls P f args W fun e W' => ∃ v, e = .returned v ∧ s.post enc P fn false true false false W args v W' := by
  have hty : Skel.tys ⟨slots, []⟩ = shTys slots := by simp [Skel.tys, catTys_eq, objTys]
  refine law_post_of hok hm hres hub hread hl hvars hspec hg (fun x h hr => pure x h (sm_tup _ x ?_)) hval hW
  refine sm_reads hbig ?_ hr (rest := ts) (gs := gs) fun n hn => by simpa using List.all_eq_true.1 hz n hn
  rw [← hty]
  exact ofTup_tys _ x
end
end Go.Sx
