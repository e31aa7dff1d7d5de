/- The symbolic evaluator, part V3: operations with effects are told alike, whatever goes on behind. -/
import Derived.Test.YtemngcdlgnconaaSxV2
set_option linter.unusedVariables false
set_option linter.unusedSimpArgs false
namespace Go.Sx
open Go.RowKit
def CN2 {A B : Type} (m : (R : Type) → (A → B → Option R) → Option R) : Prop := ∀ (R : Type) (k : A → B → Option R), m R k = (m (A × B) fun a b => some (a, b)).bind fun p => k p.1 p.2
def CN3 {A B D : Type} (m : (R : Type) → (A → B → D → Option R) → Option R) : Prop := ∀ (R : Type) (k : A → B → D → Option R), m R k = (m (A × B × D) fun a b d => some (a, b, d)).bind fun p => k p.1 p.2.1 p.2.2
theorem cn2_step {A B X R : Type} {m : (R : Type) → (A → B → Option R) → Option R} (hm : CN2 m) {f : A → B → Option R} {g : A → B → Option X} {k : X → Option R} (h : ∀ a b, f a b = (g a b).bind k) : m R f = (m X g).bind k := by
  rw [hm R f, hm X g]
  cases m (A × B) (fun a b => some (a, b)) with
  | none => rfl
  | some p => exact h p.1 p.2
theorem cn3_step {A B D X R : Type} {m : (R : Type) → (A → B → D → Option R) → Option R} (hm : CN3 m) {f : A → B → D → Option R} {g : A → B → D → Option X} {k : X → Option R} (h : ∀ a b d, f a b d = (g a b d).bind k) : m R f = (m X g).bind k := by
  rw [hm R f, hm X g]
  cases m (A × B × D) (fun a b d => some (a, b, d)) with
  | none => rfl
  | some p => exact h p.1 p.2.1 p.2.2
theorem dite_step {X R : Type} {c : Prop} [Decidable c] {a : c → Option R} {a' : c → Option X} {b : ¬ c → Option R} {b' : ¬ c → Option X} {k : X → Option R} (h1 : ∀ h, a h = (a' h).bind k) (h2 : ∀ h, b h = (b' h).bind k) : (if h : c then a h else b h) = (if h : c then a' h else b' h).bind k := by
  by_cases h : c
  · simp only [dif_pos h, h1]
  · simp only [dif_neg h, h2]
theorem set_step {α X R : Type} (l : List α) (n : Nat) (v : α) {f : List α → Option R} {g : List α → Option X} {k : X → Option R} (h : ∀ a, f a = (g a).bind k) : setK l n v f = (setK l n v g).bind k := by
  rw [setK_eq, setK_eq]; exact h _
theorem snoc_step {α X R : Type} (l : List α) (v : α) {f : List α → Option R} {g : List α → Option X} {k : X → Option R} (h : ∀ a, f a = (g a).bind k) : snocK l v f = (snocK l v g).bind k := by
  rw [snocK_eq, snocK_eq]; exact h _
theorem nth_step {α X R : Type} (l : List α) (n : Nat) {f : α → Option R} {g : α → Option X} {k : X → Option R} (h : ∀ a, f a = (g a).bind k) : nthK l n f = (nthK l n g).bind k :=
  cn_step (m := fun R => nthK (R := R) l n) (cn_nth l n) h
theorem cn_oneF (t : Ty) (s : SV) (hp : List HO) : CN2 fun R => oneF (R := R) t s hp := by
  intro R k
  cases s with
  | val t' x => exact cond_step (dite_step (fun h => by subst h; rfl) (fun _ => rfl)) (dite_step (fun h => by subst h; rfl) (fun _ => rfl))
  | bit b => cases t <;> rfl
  | nils => cases t <;> rfl
  | nil0 => cases t <;> rfl
  | own id len =>
    cases t with
    | sl e =>
      show nthK hp id _ = (nthK hp id _).bind _
      refine nth_step hp id fun o => ?_
      cases o with
      | arr T e' xs => exact dite_step (fun h => by subst h; exact set_step _ _ _ fun _ => rfl) (fun _ => dite_step (fun h => by subst h; exact set_step _ _ _ fun _ => rfl) fun _ => rfl)
      | fro e' xs => exact dite_step (fun h => by subst h; rfl) (fun _ => rfl)
      | tk _ e' xs => exact dite_step (fun h => by subst h; rfl) (fun _ => rfl)
      | _ => rfl
    | osl e =>
      refine cond_step (nth_step hp id fun o => ?_) rfl
      cases o with
      | arr T e' xs => exact dite_step (fun h => by subst h; exact set_step _ _ _ fun _ => rfl) (fun _ => rfl)
      | fro e' xs => exact dite_step (fun h => by subst h; rfl) (fun _ => rfl)
      | tk _ e' xs => exact dite_step (fun h => by subst h; exact set_step _ _ _ fun _ => rfl) (fun _ => rfl)
      | _ => rfl
    | _ => rfl
  | _ => rfl
theorem cn_cellsN {α : Type} {step : (R : Type) → List SV → List HO → (α → List SV → List HO → Option R) → Option R} (hs : ∀ l hp, CN3 fun R => step R l hp) : ∀ (n : Nat) (l : List SV) (hp : List HO), CN3 fun R => cellsN (step R) n l hp
  | 0, l, hp => fun _ _ => rfl
  | n + 1, l, hp => by
    intro R k
    show step R l hp _ = (step _ l hp _).bind _
    exact cn3_step (m := fun R => step R l hp) (hs l hp) fun x l hp => cn3_step (m := fun R => cellsN (step R) n l hp) (cn_cellsN hs n l hp) fun xs l hp => rfl
theorem cn_cellsF : ∀ (t : Ty) (l : List SV) (hp : List HO), CN3 fun R => cellsF (R := R) t l hp
  | .pair a b, l, hp => by
    intro R k
    show cellsF a l hp _ = (cellsF a l hp _).bind _
    exact cn3_step (m := fun R => cellsF (R := R) a l hp) (cn_cellsF a l hp) fun x l hp => cn3_step (m := fun R => cellsF (R := R) b l hp) (cn_cellsF b l hp) fun y l hp => rfl
  | .unit, l, hp => fun _ _ => rfl
  | .st f, l, hp => cn_cellsF f l hp
  | .arr n e, l, hp => cn_cellsN (step := fun R => cellsF (R := R) e) (fun l hp => cn_cellsF e l hp) n l hp
  | .int i, [], hp => fun _ _ => rfl
  | .int i, s :: l, hp => fun R k => cn2_step (m := fun R => oneF (R := R) (.int i) s hp) (cn_oneF _ s hp) fun _ _ => rfl
  | .bool, [], hp => fun _ _ => rfl
  | .bool, s :: l, hp => fun R k => cn2_step (m := fun R => oneF (R := R) .bool s hp) (cn_oneF _ s hp) fun _ _ => rfl
  | .str, [], hp => fun _ _ => rfl
  | .str, s :: l, hp => fun R k => cn2_step (m := fun R => oneF (R := R) .str s hp) (cn_oneF _ s hp) fun _ _ => rfl
  | .flt, [], hp => fun _ _ => rfl
  | .flt, s :: l, hp => fun R k => cn2_step (m := fun R => oneF (R := R) .flt s hp) (cn_oneF _ s hp) fun _ _ => rfl
  | .cplx, [], hp => fun _ _ => rfl
  | .cplx, s :: l, hp => fun R k => cn2_step (m := fun R => oneF (R := R) .cplx s hp) (cn_oneF _ s hp) fun _ _ => rfl
  | .sl e, [], hp => fun _ _ => rfl
  | .sl e, s :: l, hp => fun R k => cn2_step (m := fun R => oneF (R := R) (.sl e) s hp) (cn_oneF _ s hp) fun _ _ => rfl
  | .osl e, [], hp => fun _ _ => rfl
  | .osl e, s :: l, hp => fun R k => cn2_step (m := fun R => oneF (R := R) (.osl e) s hp) (cn_oneF _ s hp) fun _ _ => rfl
theorem cn_dataF (t : Ty) (s : SV) (hp : List HO) : CN2 fun R => dataF (R := R) t s hp := by
  intro R k
  show dataF t s hp k = (dataF t s hp _).bind _
  unfold dataF
  split
  · refine cond_step (cn3_step (m := fun R => cellsF (R := R) t _ hp) (cn_cellsF t _ hp) fun x l hp => ?_) rfl
    cases l <;> rfl
  · exact cn_oneF t _ hp R k
section
variable {X R : Type} {C : Ctx} {fr : List SV} {k : X → Option R}
theorem data_step (t : Ty) (s : SV) (hp : List HO) {f : t.den → List HO → Option R} {g : t.den → List HO → Option X} (h : ∀ a b, f a b = (g a b).bind k) : dataF t s hp f = (dataF t s hp g).bind k :=
  cn2_step (m := fun R => dataF (R := R) t s hp) (cn_dataF t s hp) h
theorem cells_step (s : SV) {f : List SV → Option R} {g : List SV → Option X} (h : ∀ a, f a = (g a).bind k) : s.cellsK f = (s.cellsK g).bind k :=
  cn_step (m := fun R => s.cellsK (R := R)) (cn_cellsK s) h
end
theorem cn_roF (t : Ty) (s : SV) (hp : List HO) : CN2 fun R => roF (R := R) t s hp := by
  intro R k
  show roF t s hp k = (roF t s hp _).bind _
  unfold roF
  split
  · exact dite_step (fun h => by subst h; rfl) fun _ => rfl
  · refine cond_step (nth_step hp _ fun o => ?_) rfl
    cases o with
    | cells l =>
      refine cn3_step (m := fun R => cellsF (R := R) t l hp) (cn_cellsF t l hp) fun x l' hp => ?_
      cases l' with
      | nil =>
        refine nth_step hp _ fun o => ?_
        cases o with
        | cells _ => exact set_step _ _ _ fun _ => rfl
        | _ => rfl
      | cons _ _ => rfl
    | frs t' x => exact dite_step (fun h => by subst h; rfl) fun _ => rfl
    | _ => rfl
  · rfl
theorem cn_elemsK (C : Ctx) (fr : List SV) (t : Ty) : ∀ (l : List (Nat × Operand)) (xs : List t.den) (hp : List HO), CN2 fun R => elemsK (R := R) C fr t l xs hp
  | [], xs, hp => fun _ _ => rfl
  | (i, x) :: l, xs, hp => by
    intro R k
    show elemsK C fr t ((i, x) :: l) xs hp k = (elemsK C fr t ((i, x) :: l) xs hp _).bind _
    unfold elemsK
    exact cond_step (opd_step _ fun s => data_step t s hp fun y hp => set_step xs i y fun xs => cn2_step (m := fun R => elemsK (R := R) C fr t l xs hp) (cn_elemsK C fr t l xs hp) fun _ _ => rfl) rfl
theorem cn_repK {α : Type} (x : α) : ∀ (n : Nat), CN fun R => repK (R := R) x n
  | 0 => fun _ _ => rfl
  | n + 1 => fun R k => cn_step (m := fun R => repK (R := R) x n) (cn_repK x n) fun _ => rfl
theorem cn_srcK (t : Ty) (s : SV) (hp : List HO) : CN fun R => srcK (R := R) t s hp := by
  intro R k
  show srcK t s hp k = (srcK t s hp some).bind k
  unfold srcK
  split
  · exact dite_step (fun h => by subst h; rfl) fun _ => rfl
  · rfl
  · rfl
  · refine nth_step hp _ fun o => ?_
    cases o with
    | arr T e xs => exact dite_step (fun h => by subst h; rfl) fun _ => rfl
    | tk T e xs => exact dite_step (fun h => by subst h; rfl) fun _ => rfl
    | _ => rfl
  · rfl
theorem cn_fset {t' : Ty} : ∀ (i : Nat) (f : Ty) (x : f.den) (gR : (R : Type) → (u : Ty) → u.den → (u.den → Option R) → Option R), (∀ u z, CN fun R => gR R u z) → CN fun R => pset.fsetAux (R := R) i f x (gR R)
  | 0, .pair a b, x, g, hg => fun R k => cn_step (m := fun R => g R a x.1) (hg a x.1) fun _ => rfl
  | i + 1, .pair a b, x, g, hg => fun R k => cn_step (m := fun R => pset.fsetAux (R := R) i b x.2 (g R)) (cn_fset (t' := t') i b x.2 g hg) fun _ => rfl
  | 0, .int _, x, g, hg => hg _ _
  | 0, .bool, x, g, hg => hg _ _
  | 0, .str, x, g, hg => hg _ _
  | 0, .flt, x, g, hg => hg _ _
  | 0, .cplx, x, g, hg => hg _ _
  | 0, .unit, x, g, hg => hg _ _
  | 0, .sl _, x, g, hg => hg _ _
  | 0, .osl _, x, g, hg => hg _ _
  | 0, .arr _ _, x, g, hg => hg _ _
  | 0, .st _, x, g, hg => hg _ _
  | _ + 1, .int _, x, g, hg => fun _ _ => rfl
  | _ + 1, .bool, x, g, hg => fun _ _ => rfl
  | _ + 1, .str, x, g, hg => fun _ _ => rfl
  | _ + 1, .flt, x, g, hg => fun _ _ => rfl
  | _ + 1, .cplx, x, g, hg => fun _ _ => rfl
  | _ + 1, .unit, x, g, hg => fun _ _ => rfl
  | _ + 1, .sl _, x, g, hg => fun _ _ => rfl
  | _ + 1, .osl _, x, g, hg => fun _ _ => rfl
  | _ + 1, .arr _ _, x, g, hg => fun _ _ => rfl
  | _ + 1, .st _, x, g, hg => fun _ _ => rfl
theorem cn_pset : ∀ (p : List Nat) (t : Ty) (x : t.den) (t' : Ty) (y : t'.den), CN fun R => pset (R := R) p t x t' y
  | [], t, x, t', y => fun R k => dite_step (fun h => by subst h; rfl) fun _ => rfl
  | i :: p, .st f, x, t', y => cn_fset (t' := t') i f x (fun R u z k => pset p u z t' y k) fun u z => cn_pset p u z t' y
  | _ :: _, .int _, _, _, _ => fun _ _ => rfl
  | _ :: _, .bool, _, _, _ => fun _ _ => rfl
  | _ :: _, .str, _, _, _ => fun _ _ => rfl
  | _ :: _, .flt, _, _, _ => fun _ _ => rfl
  | _ :: _, .cplx, _, _, _ => fun _ _ => rfl
  | _ :: _, .unit, _, _, _ => fun _ _ => rfl
  | _ :: _, .sl _, _, _, _ => fun _ _ => rfl
  | _ :: _, .osl _, _, _, _ => fun _ _ => rfl
  | _ :: _, .arr _ _, _, _, _ => fun _ _ => rfl
  | _ :: _, .pair _ _, _, _, _ => fun _ _ => rfl
theorem cn_evStore (i : TI) (x v : SV) (hp : List HO) : CN2 fun R => evStore (R := R) i x v hp := by
  intro R k
  show evStore i x v hp k = (evStore i x v hp _).bind _
  unfold evStore
  split
  · refine cells_step v fun l' => cond_step (nth_step hp _ fun o => ?_) rfl
    cases o with
    | cells l => exact cond_step (set_step _ _ _ fun _ => rfl) rfl
    | _ => rfl
  · split
    · refine cond_step (data_step _ v hp fun y hp => nth_step hp _ fun o => ?_) rfl
      cases o with
      | arr T t' xs => exact dite_step (fun h => cn_step (m := fun R => pset (R := R) _ _ _ _ y) (cn_pset _ _ _ _ y) fun z => set_step _ _ _ fun _ => rfl) fun _ => rfl
      | _ => rfl
    · rfl
  · rfl
theorem cn_srcM (t : Ty) (s : SV) (hp : List HO) : CN2 fun R => srcM (R := R) t s hp := by
  intro R k
  show srcM t s hp k = (srcM t s hp _).bind _
  unfold srcM
  split
  · exact dite_step (fun h => by subst h; rfl) fun _ => rfl
  · rfl
  · rfl
  · refine nth_step hp _ fun o => ?_
    cases o with
    | arr T e xs => exact dite_step (fun h => by subst h; exact set_step _ _ _ fun _ => rfl) fun _ => rfl
    | _ => rfl
  · rfl
theorem cn_evAppendN (C : Ctx) (E : TypeId) (ei : TI) (x : SV) (hp : List HO) : CN2 fun R => evAppendN (R := R) C E ei x hp := by
  intro R k
  show evAppendN C E ei x hp k = (evAppendN C E ei x hp _).bind _
  unfold evAppendN
  split
  · exact cond_step (cond_step (cn_step (m := fun R => srcK (R := R) _ x hp) (cn_srcK _ x hp) fun ys => ite_step (snoc_step _ _ fun _ => rfl) rfl)
      (cn2_step (m := fun R => srcM (R := R) _ x hp) (cn_srcM _ x hp) fun ys hp => ite_step (snoc_step _ _ fun _ => rfl) rfl)) rfl
  · rfl
theorem cn_evAppend (C : Ctx) (E : TypeId) (ei : TI) (s x : SV) (hp : List HO) : CN2 fun R => evAppend (R := R) C E ei s x hp := by
  intro R k
  show evAppend C E ei s x hp k = (evAppend C E ei s x hp _).bind _
  unfold evAppend
  split
  · exact cn_evAppendN C E ei x hp R k
  · exact cn_evAppendN C E ei x hp R k
  · refine nth_step hp _ fun o => ?_
    cases o with
    | arr E' t xs => exact cond_step (cond_step (cn_step (m := fun R => srcK (R := R) t x hp) (cn_srcK t x hp) fun ys => ite_step (set_step _ _ _ fun _ => snoc_step _ _ fun _ => rfl) rfl)
        (set_step _ _ _ fun hp1 => cn2_step (m := fun R => srcM (R := R) t x hp1) (cn_srcM t x hp1) fun ys hp2 => ite_step (snoc_step _ _ fun _ => rfl) rfl)) rfl
    | tk E' t xs => exact cond_step (cn_step (m := fun R => srcK (R := R) t x hp) (cn_srcK t x hp) fun ys => ite_step (set_step _ _ _ fun _ => snoc_step _ _ fun _ => rfl) rfl) rfl
    | _ => rfl
  · rfl
theorem cn_bindPM (mp : List PM) (j : Nat) (p : PM) : CN fun R => bindPM (R := R) mp j p := by
  intro R k
  show bindPM mp j p k = (bindPM mp j p some).bind k
  unfold bindPM
  refine nth_step mp j fun q => ?_
  cases q with
  | none => exact set_step _ _ _ fun _ => rfl
  | nil => exact cond_step rfl rfl
  | id i l => exact cond_step rfl rfl
theorem cn_matchL : ∀ (ss : List Sh) (vs : List SV) (mp : List PM) (hp : List HO), CN3 fun R => matchL (R := R) ss vs mp hp
  | [], [], mp, hp => fun _ _ => rfl
  | [], _ :: _, mp, hp => fun _ _ => rfl
  | .hole t :: ss, [], mp, hp => fun _ _ => rfl
  | .own t :: ss, [], mp, hp => fun _ _ => rfl
  | .ptr t _ :: ss, [], mp, hp => fun _ _ => rfl
  | .nilp :: ss, [], mp, hp => fun _ _ => rfl
  | .mp _ :: ss, [], mp, hp => fun _ _ => rfl
  | .mp j :: ss, v :: vs, mp, hp => fun R k => by
    cases v with
    | mp id => exact cn_step (m := fun R => bindPM (R := R) mp j _) (cn_bindPM mp j _) fun mp => cn_matchL ss vs mp hp R k
    | _ => rfl
  | .und :: ss, [], mp, hp => fun _ _ => rfl
  | .fnc f n :: ss, [], mp, hp => fun _ _ => rfl
  | .fnc f n :: ss, v :: vs, mp, hp => fun R k => by
    cases v with
    | fn g l => exact cond_step (cn_matchL ss (l ++ vs) mp hp R k) rfl
    | _ => rfl
  | .agn n :: ss, [], mp, hp => fun _ _ => rfl
  | .agn n :: ss, v :: vs, mp, hp => fun R k => by
    cases v with
    | agg l => exact cond_step (cn_matchL ss (l ++ vs) mp hp R k) rfl
    | _ => rfl
  | .ro t :: ss, [], mp, hp => fun _ _ => rfl
  | .ro t :: ss, v :: vs, mp, hp => fun R k => cn2_step (m := fun R => roF (R := R) t v hp) (cn_roF t v hp) fun x hp => cn3_step (m := fun R => matchL (R := R) ss vs mp hp) (cn_matchL ss vs mp hp) fun _ _ _ => rfl
  | .hole t :: ss, v :: vs, mp, hp => fun R k => data_step t v hp fun x hp => cn3_step (m := fun R => matchL (R := R) ss vs mp hp) (cn_matchL ss vs mp hp) fun _ _ _ => rfl
  | .own j :: ss, v :: vs, mp, hp => fun R k => by
    cases v with
    | own id len => exact cn_step (m := fun R => bindPM (R := R) mp j _) (cn_bindPM mp j _) fun mp => cn_matchL ss vs mp hp R k
    | nils => exact cn_step (m := fun R => bindPM (R := R) mp j _) (cn_bindPM mp j _) fun mp => cn_matchL ss vs mp hp R k
    | _ => rfl
  | .ptr j off :: ss, v :: vs, mp, hp => fun R k => by
    cases v with
    | ptr id o => exact cond_step (cn_step (m := fun R => bindPM (R := R) mp j _) (cn_bindPM mp j _) fun mp => cn_matchL ss vs mp hp R k) rfl
    | _ => rfl
  | .nilp :: ss, v :: vs, mp, hp => fun R k => by
    cases v with
    | nilp => exact cn_matchL ss vs mp hp R k
    | _ => rfl
  | .und :: ss, v :: vs, mp, hp => cn_matchL ss vs mp hp
theorem cn_matchO : ∀ (os : List OSh) (j : Nat) (mp : List PM) (hp : List HO), CN3 fun R => matchO (R := R) j os mp hp
  | [], j, mp, hp => fun _ _ => rfl
  | .gone :: os, j, mp, hp => cn_matchO os (j + 1) mp hp
  | .cells sl :: os, j, mp, hp => fun R k => by
    refine nth_step mp j fun p => ?_
    cases p with
    | id i l =>
      cases l with
      | none =>
        refine nth_step hp i fun o => ?_
        cases o with
        | cells l => exact cn3_step (m := fun R => matchL (R := R) sl l mp hp) (cn_matchL sl l mp hp) fun mp ds hp => cn3_step (m := fun R => matchO (R := R) (j + 1) os mp hp) (cn_matchO os (j + 1) mp hp) fun _ _ _ => rfl
        | _ => rfl
      | some n => rfl
    | _ => rfl
  | .arr T t :: os, j, mp, hp => fun R k => by
    refine nth_step mp j fun p => ?_
    cases p with
    | nil => exact cn3_step (m := fun R => matchO (R := R) (j + 1) os mp hp) (cn_matchO os (j + 1) mp hp) fun _ _ _ => rfl
    | id i len =>
      refine nth_step hp i fun o => ?_
      cases o with
      | arr T' t' xs => exact cond_step (dite_step (fun h => cn3_step (m := fun R => matchO (R := R) (j + 1) os mp hp) (cn_matchO os (j + 1) mp hp) fun _ _ _ => rfl) fun _ => rfl) rfl
      | _ => rfl
    | none => rfl
  | .map K V :: os, j, mp, hp => fun R k => by
    refine nth_step mp j fun p => ?_
    cases p with
    | id i l =>
      cases l with
      | none =>
        refine nth_step hp i fun o => ?_
        cases o with
        | map K' V' es => exact dite_step (fun h => cn3_step (m := fun R => matchO (R := R) (j + 1) os mp hp) (cn_matchO os (j + 1) mp hp) fun _ _ _ => rfl) fun _ => rfl
        | _ => rfl
      | some n => rfl
    | _ => rfl
theorem liveK_step {X R : Type} {k : X → Option R} {x : Option R} {y : Option X} (hp : List HO) (h : x = y.bind k) : ∀ (l : List Nat), liveK l hp x = (liveK l hp y).bind k
  | [] => h
  | i :: l => nth_step hp i fun o => cond_step (liveK_step hp h l) rfl
theorem pack_step {X R : Type} {k : X → Option R} (n0 : Nat) (sk : Skel) (vs : List SV) (hp : List HO) {f : List DV → List PM → List HO → Option R} {g : List DV → List PM → List HO → Option X} (h : ∀ a b c, f a b c = (g a b c).bind k) :
    pack n0 sk vs hp f = (pack n0 sk vs hp g).bind k := by
  unfold pack
  exact cn3_step (m := fun R => matchL (R := R) sk.slots vs _ hp) (cn_matchL _ _ _ _) fun mp ds hp => cn3_step (m := fun R => matchO (R := R) 0 sk.objs mp hp) (cn_matchO _ _ _ _) fun mp ds' hp =>
    cond_step (liveK_step hp (h _ _ _) _) rfl
theorem cn_toTup : ∀ (ts : List Ty) (ds : List DV), CN fun R => toTup (R := R) ts ds
  | [], [] => fun _ _ => rfl
  | [], _ :: _ => fun _ _ => rfl
  | [t], [] => fun _ _ => rfl
  | [t], [d] => fun R k => dite_step (fun h => rfl) fun _ => rfl
  | [t], _ :: _ :: _ => fun _ _ => rfl
  | t :: u :: l, [] => fun _ _ => rfl
  | t :: u :: l, d :: ds => fun R k => dite_step (fun h => cn_step (m := fun R => toTup (R := R) (u :: l) ds) (cn_toTup (u :: l) ds) fun _ => rfl) fun _ => rfl
theorem cn_buildL (ρ : List Nat) : ∀ (ss : List Sh) (ds : List DV), CN2 fun R => buildL (R := R) ρ ss ds
  | [], ds => fun _ _ => rfl
  | .fnc f n :: ss, ds => fun R k => by
    show buildL ρ (.fnc f n :: ss) ds k = (buildL ρ (.fnc f n :: ss) ds _).bind _
    unfold buildL
    exact cn2_step (m := fun R => buildL (R := R) ρ ss ds) (cn_buildL ρ ss ds) fun _ _ => rfl
  | .agn n :: ss, ds => fun R k => by
    show buildL ρ (.agn n :: ss) ds k = (buildL ρ (.agn n :: ss) ds _).bind _
    unfold buildL
    exact cn2_step (m := fun R => buildL (R := R) ρ ss ds) (cn_buildL ρ ss ds) fun _ _ => rfl
  | .ro _ :: ss, [] => fun _ _ => rfl
  | .ro _ :: ss, d :: ds => fun R k => cn2_step (m := fun R => buildL (R := R) ρ ss ds) (cn_buildL ρ ss ds) fun _ _ => rfl
  | .hole _ :: ss, [] => fun _ _ => rfl
  | .hole _ :: ss, d :: ds => fun R k => cn2_step (m := fun R => buildL (R := R) ρ ss ds) (cn_buildL ρ ss ds) fun _ _ => rfl
  | .own j :: ss, ds => fun R k => by
    show buildL ρ (.own j :: ss) ds k = (buildL ρ (.own j :: ss) ds _).bind _
    unfold buildL
    exact cn2_step (m := fun R => buildL (R := R) ρ ss ds) (cn_buildL ρ ss ds) fun _ _ => rfl
  | .ptr j off :: ss, ds => fun R k => by
    show buildL ρ (.ptr j off :: ss) ds k = (buildL ρ (.ptr j off :: ss) ds _).bind _
    unfold buildL
    exact cn2_step (m := fun R => buildL (R := R) ρ ss ds) (cn_buildL ρ ss ds) fun _ _ => rfl
  | .nilp :: ss, ds => fun R k => by
    show buildL ρ (.nilp :: ss) ds k = (buildL ρ (.nilp :: ss) ds _).bind _
    unfold buildL
    exact cn2_step (m := fun R => buildL (R := R) ρ ss ds) (cn_buildL ρ ss ds) fun _ _ => rfl
  | .mp j :: ss, ds => fun R k => by
    show buildL ρ (.mp j :: ss) ds k = (buildL ρ (.mp j :: ss) ds _).bind _
    unfold buildL
    exact cn2_step (m := fun R => buildL (R := R) ρ ss ds) (cn_buildL ρ ss ds) fun _ _ => rfl
  | .und :: ss, ds => fun R k => by
    show buildL ρ (.und :: ss) ds k = (buildL ρ (.und :: ss) ds _).bind _
    unfold buildL
    exact cn2_step (m := fun R => buildL (R := R) ρ ss ds) (cn_buildL ρ ss ds) fun _ _ => rfl
theorem cn_buildO (ρ : List Nat) : ∀ (os : List OSh) (ds : List DV), CN fun R => buildO (R := R) ρ os ds
  | [], ds => fun _ _ => rfl
  | .gone :: os, ds => fun R k => by
    show buildO ρ (.gone :: os) ds k = (buildO ρ (.gone :: os) ds some).bind k
    unfold buildO
    exact cn_step (m := fun R => buildO (R := R) ρ os ds) (cn_buildO ρ os ds) fun _ => rfl
  | .cells sl :: os, ds => fun R k => by
    show buildO ρ (.cells sl :: os) ds k = (buildO ρ (.cells sl :: os) ds some).bind k
    unfold buildO
    exact cn2_step (m := fun R => buildL (R := R) ρ sl ds) (cn_buildL ρ sl ds) fun vs ds => cn_step (m := fun R => buildO (R := R) ρ os ds) (cn_buildO ρ os ds) fun _ => rfl
  | .arr _ _ :: os, [] => fun _ _ => rfl
  | .arr T t :: os, d :: ds => fun R k => by
    show buildO ρ (.arr T t :: os) (d :: ds) k = (buildO ρ (.arr T t :: os) (d :: ds) some).bind k
    unfold buildO
    split
    · exact cn_step (m := fun R => buildO (R := R) ρ os ds) (cn_buildO ρ os ds) fun _ => rfl
    · rfl
  | .map _ _ :: os, [] => fun _ _ => rfl
  | .map K V :: os, d :: ds => fun R k => by
    show buildO ρ (.map K V :: os) (d :: ds) k = (buildO ρ (.map K V :: os) (d :: ds) some).bind k
    unfold buildO
    split
    · exact cn_step (m := fun R => buildO (R := R) ρ os ds) (cn_buildO ρ os ds) fun _ => rfl
    · rfl
theorem build_step {X R : Type} {k : X → Option R} (ρ : List Nat) (sk : Skel) (ds : List DV) {f : List SV → List HO → Option R} {g : List SV → List HO → Option X} (h : ∀ a b, f a b = (g a b).bind k) : build ρ sk ds f = (build ρ sk ds g).bind k := by
  unfold build
  exact cn2_step (m := fun R => buildL (R := R) ρ sk.slots ds) (cn_buildL _ _ _) fun vs ds => cn_step (m := fun R => buildO (R := R) ρ sk.objs ds) (cn_buildO _ _ _) fun hs => h vs hs
theorem drop_step {X R : Type} {k : X → Option R} {f : List HO → Option R} {g : List HO → Option X} (h : ∀ a, f a = (g a).bind k) : ∀ (mp : List PM) (hp : List HO), dropIns mp hp f = (dropIns mp hp g).bind k
  | [], hp => h hp
  | .id i l :: mp, hp => set_step hp i .gone fun hp => drop_step h mp hp
  | .nil :: mp, hp => drop_step h mp hp
  | .none :: mp, hp => drop_step h mp hp
theorem grow_step {X R : Type} {k : X → Option R} {f : List HO → Option R} {g : List HO → Option X} (h : ∀ a, f a = (g a).bind k) (mp : List PM) (os : List OSh) (hp : List HO) : growK mp os hp f = (growK mp os hp g).bind k := by
  rw [growK_eq [] 0, growK_eq [] 0]; exact h _
theorem putAll_step {X R : Type} {k : X → Option R} {f : List HO → Option R} {g : List HO → Option X} (h : ∀ a, f a = (g a).bind k) : ∀ (ρ : List Nat) (os hp : List HO), putAll ρ os hp f = (putAll ρ os hp g).bind k
  | [], _, hp => by unfold putAll; exact h hp
  | _ :: _, [], hp => by unfold putAll; exact h hp
  | i :: ρ, o :: os, hp => by unfold putAll; exact set_step hp i o fun hp => putAll_step h ρ os hp
theorem cn_evCon (c : Con) (args : List SV) (hp : List HO) : CN2 fun R => evCon (R := R) c args hp := by
  intro R k
  show evCon c args hp k = (evCon c args hp _).bind _
  unfold evCon
  refine cond_step (pack_step 0 _ args hp fun ds mp hp1 => cn_step (m := fun R => toTup (R := R) _ ds) (cn_toTup _ ds) fun x => ?_) rfl
  cases c.F x with
  | none => rfl
  | some y =>
    simp only [Option.bind_some]
    refine build_step _ _ _ fun vs hos => ?_
    refine drop_step (fun hp2 => ?_) _ _
    refine grow_step (fun hp3 => ?_) _ _ _
    refine putAll_step (fun hp4 => ?_) _ _ _
    rfl
theorem cn_evClear (C : Ctx) (E : TypeId) (ei : TI) (x : SV) (hp : List HO) : CN2 fun R => evClear (R := R) C E ei x hp := by
  intro R k
  show evClear C E ei x hp k = (evClear C E ei x hp _).bind _
  unfold evClear
  split
  · rfl
  · refine cn_step (m := fun R => nthK (R := R) hp _) (cn_nth hp _) fun o => ?_
    split
    · split
      · refine cond_step ?_ rfl
        split
        · exact set_step _ _ _ fun _ => rfl
        · rfl
      · rfl
    · rfl
  · refine cn_step (m := fun R => nthK (R := R) hp _) (cn_nth hp _) fun o => ?_
    split
    · split
      · refine cond_step ?_ rfl
        split
        · exact set_step _ _ _ fun _ => rfl
        · rfl
      · rfl
    · rfl
  · rfl
theorem cn_evMakeMap (C : Ctx) (fr : List SV) (i : TI) (n : Option Operand) (hp : List HO) : CN2 fun R => evMakeMap (R := R) C fr i n hp := by
  intro R k
  show evMakeMap C fr i n hp k = (evMakeMap C fr i n hp _).bind _
  unfold evMakeMap
  split
  · refine ti_step _ fun ki => ti_step _ fun vi => ?_
    split
    · exact cn_step (m := fun R => optI (R := R) C fr n 0) (cn_optI C fr n 0) fun _ => snoc_step _ _ fun _ => rfl
    · rfl
  · rfl
theorem cn_evMapUpdate (C : Ctx) (i : TI) (m y v : SV) (hp : List HO) : CN2 fun R => evMapUpdate (R := R) C i m y v hp := by
  intro R k
  show evMapUpdate C i m y v hp k = (evMapUpdate C i m y v hp _).bind _
  unfold evMapUpdate
  split
  · refine ti_step _ fun ki => ti_step _ fun vi => ?_
    split
    · refine cn2_step (m := fun R => dataF (R := R) _ v hp) (cn_dataF _ v hp) fun x hp => cn_step (m := fun R => nthK (R := R) hp _) (cn_nth hp _) fun o => ?_
      split
      · refine cond_step ?_ rfl
        split
        · exact set_step _ _ _ fun _ => rfl
        · rfl
      · rfl
    · rfl
  · rfl
theorem cn_evMove (i : TI) (x : SV) (hp : List HO) : CN2 fun R => evMove (R := R) i hp x := by
  intro R k
  have plain : (evLoad i hp x fun s => k s hp) = (evLoad i hp x fun s => some (s, hp)).bind fun p => k p.1 p.2 := cn_step (m := fun R => evLoad (R := R) i hp x) (cn_evLoad i hp x) fun _ => rfl
  show evMove i hp x k = (evMove i hp x _).bind _
  unfold evMove
  split
  · refine nth_step hp _ fun o => ?_
    cases o with
    | arr T t' xs =>
      refine dite_step (fun h => ?_) fun _ => rfl
      subst h
      simp only
      split
      · split
        · exact cond_step (ite_step (cn_step (m := fun R => pset (R := R) _ _ _ _ _) (cn_pset _ _ _ _ _) fun z => set_step _ _ _ fun _ => snoc_step _ _ fun _ => rfl) rfl) rfl
        · exact plain
      · rfl
    | _ => rfl
  · exact plain
theorem cn_evEff (C : Ctx) (Γ : List Con) (fr : List SV) (hp : List HO) (op : Op) : CN2 fun R => evEff (R := R) C Γ fr hp op := by
  intro R k
  show evEff C Γ fr hp op k = (evEff C Γ fr hp op _).bind _
  unfold evEff
  split
  · exact ti_step _ fun i => snoc_step _ _ fun _ => rfl
  · exact opd_step _ fun s => cells_step s fun l => snoc_step _ _ fun _ => rfl
  · refine ti_step _ fun i => ?_
    split
    · refine ti_step _ fun ei => ?_
      split
      · exact cond_step (cn_step (m := fun R => repK (R := R) _ _) (cn_repK _ _) fun xs => cn2_step (m := fun R => elemsK (R := R) C fr _ _ xs hp) (cn_elemsK C fr _ _ xs hp) fun xs hp => snoc_step _ _ fun _ => rfl) rfl
      · rfl
    · rfl
  · refine ti_step _ fun i => ?_
    split
    · refine ti_step _ fun ei => ?_
      split
      · exact cond_step (opd_step _ fun l => cn_step (m := fun R => asI (R := R) l) (cn_asI l) fun l => opd_step _ fun c => cn_step (m := fun R => asI (R := R) c) (cn_asI c) fun c => ite_step (snoc_step _ _ fun _ => rfl) rfl) rfl
      · rfl
    · rfl
  · exact ti_step _ fun i => opd_step _ fun x => opd_step _ fun v => cn_evStore i x v hp R k
  · split
    · refine cond_step (ti_step _ fun i => ?_) rfl
      split
      · exact ti_step _ fun ei => opd_step _ fun s => opd_step _ fun x => cn_evAppend C _ ei s x hp R k
      · rfl
    · rfl
  · split
    · refine ti_step _ fun i => ?_
      split
      · exact ti_step _ fun ei => opd_step _ fun x => cn_evClear C _ ei x hp R k
      · rfl
    · rfl
  · exact ti_step _ fun i => cn_evMakeMap C fr i _ hp R k
  · exact ti_step _ fun i => opd_step _ fun m => opd_step _ fun y => opd_step _ fun v => cn_evMapUpdate C i m y v hp R k
  · exact ti_step _ fun i => opd_step _ fun m => opd_step _ fun y => opd_step _ fun v => cn_evMapUpdate C i m y v hp R k
  · exact ti_step _ fun i => opd_step _ fun x => cn_evMove i x hp R k
  · rw [callK_cn]
    rw [callK_cn (k := fun c vs => evCon c vs hp fun a b => some (a, b))]
    cases (callK (R := Con × List SV) C Γ fr _ _ fun c vs => some (c, vs)) with
    | none => rfl
    | some p => exact cn_evCon p.1 p.2 hp R k
  · rfl
theorem cn_froK (hp : List HO) : ∀ (n : List HO) (i id : Nat) (len : Option Nat), CN fun R => froK (R := R) n i id len
  | [], _, _, _ => fun _ _ => rfl
  | o :: l, 0, id, len => fun R k => by cases o <;> rfl
  | o :: l, n + 1, id, len => fun R k => by cases o <;> exact cn_froK hp l n id len R k
theorem cn_frsK (hp : List HO) : ∀ (n : List HO) (i id off : Nat), CN fun R => frsK (R := R) n i id off
  | [], _, _, _ => fun _ _ => rfl
  | o :: l, 0, id, off => fun R k => by
    cases o with
    | frs t x => exact cond_step rfl rfl
    | _ => rfl
  | o :: l, n + 1, id, off => fun R k => by cases o <;> exact cn_frsK hp l n id off R k
theorem cn_thawS (hp : List HO) (s : SV) : CN fun R => thawS (R := R) hp s := by
  intro R k
  cases s with
  | own id len => exact cn_froK hp hp id id len R k
  | ptr id off => exact cn_frsK hp hp id id off R k
  | _ => rfl
theorem cn_thawL (hp : List HO) : ∀ (l : List SV), CN fun R => thawL (R := R) hp l
  | [] => fun _ _ => rfl
  | s :: l => fun R k => cn_step (m := fun R => thawS (R := R) hp s) (cn_thawS hp s) fun s' => cn_step (m := fun R => thawL (R := R) hp l) (cn_thawL hp l) fun _ => rfl
theorem cn_thawK (hp : List HO) (fr : List SV) : CN fun R => thawK (R := R) hp fr := by
  intro R k
  show thawK hp fr k = (thawK hp fr some).bind k
  unfold thawK
  exact cond_step (cn_thawL hp fr R k) rfl
end Go.Sx
