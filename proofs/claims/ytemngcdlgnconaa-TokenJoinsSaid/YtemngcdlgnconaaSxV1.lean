/- The symbolic evaluator, part V1: what goes on behind an evaluation does not turn it. -/
import Derived.Test.YtemngcdlgnconaaSxC
set_option linter.unusedVariables false
set_option linter.unusedSimpArgs false
namespace Go.Sx
open Go.RowKit
def CN {A : Type} (m : (R : Type) → (A → Option R) → Option R) : Prop := ∀ (R : Type) (k : A → Option R), m R k = (m A some).bind k
theorem CN.pure {A : Type} (a : A) : CN fun R (k : A → Option R) => k a := fun _ _ => rfl
theorem CN.none {A : Type} : CN fun R (_ : A → Option R) => (Option.none : Option R) := fun _ _ => rfl
theorem CN.bind {A B : Type} {m : (R : Type) → (A → Option R) → Option R} {f : A → (R : Type) → (B → Option R) → Option R} (hm : CN m) (hf : ∀ a, CN (f a)) : CN fun R k => m R fun a => f a R k := by
  intro R k
  show m R (fun a => f a R k) = (m B fun a => f a B some).bind k
  rw [hm, hm B]
  cases m A some with
  | none => rfl
  | some a => exact hf a R k
theorem CN.cond {A : Type} {b : Bool} {m n : (R : Type) → (A → Option R) → Option R} (hm : CN m) (hn : CN n) : CN fun R k => bif b then m R k else n R k := by
  intro R k
  cases b
  · exact hn R k
  · exact hm R k
theorem cn_nth {A : Type} : ∀ (l : List A) (n : Nat), CN fun R => nthK (R := R) l n
  | [], n => by intro R k; cases n <;> rfl
  | x :: l, 0 => fun _ _ => rfl
  | x :: l, n + 1 => fun R k => cn_nth l n R k
theorem cn_tinfo : ∀ (l : List (TypeId × TI)) (T : TypeId), CN fun R => tinfo (R := R) l T
  | [], T => fun _ _ => rfl
  | (t, i) :: l, T => by
    intro R k
    show tinfo ((t, i) :: l) T k = (tinfo ((t, i) :: l) T some).bind k
    unfold tinfo
    cases Nat.beq t T
    · exact cn_tinfo l T R k
    · rfl
theorem cn_glob : ∀ (l : List (Nat × DV)) (g : Nat), CN fun R => globK (R := R) l g
  | [], T => fun _ _ => rfl
  | (t, i) :: l, T => by
    intro R k
    show globK ((t, i) :: l) T k = (globK ((t, i) :: l) T some).bind k
    unfold globK
    cases Nat.beq t T
    · exact cn_glob l T R k
    · rfl
theorem cn_constCell (v : Value) : CN fun R => constCell (R := R) v := by
  intro R k
  unfold constCell
  split <;> rfl
theorem cn_constCells : ∀ (l : List Value), CN fun R => constCells (R := R) l
  | [] => fun _ _ => rfl
  | v :: l => (cn_constCell v).bind fun s => (cn_constCells l).bind fun l' => CN.pure _
theorem cn_constSV (v : Value) : CN fun R => constSV (R := R) v := by
  intro R k
  unfold constSV
  split
  · exact ((cn_constCells _).bind fun l => CN.pure _) R k
  · exact cn_constCell _ R k
theorem cn_opd (C : Ctx) (fr : List SV) (x : Operand) : CN fun R => opd (R := R) C fr x := by
  intro R k
  unfold opd
  split
  · exact cn_nth _ _ R k
  · exact cn_constSV _ R k
  · exact cn_glob _ _ R k
  · rfl
theorem cn_opds (C : Ctx) (fr : List SV) : ∀ (l : List Operand), CN fun R => opds (R := R) C fr l
  | [] => fun _ _ => rfl
  | x :: l => (cn_opd C fr x).bind fun s => (cn_opds C fr l).bind fun l' => CN.pure _
theorem cn_asB (s : SV) : CN fun R => asB (R := R) s := by
  intro R k
  unfold asB
  split <;> rfl
theorem cn_asI (s : SV) : CN fun R => asI (R := R) s := by
  intro R k
  unfold asI
  split <;> rfl
theorem cn_evInt (op : BinOp) (i : IntKind) (a b : Int) (lit : Bool) : CN fun R => evInt (R := R) op i a b lit := by
  intro R k
  unfold evInt
  cases op <;> first | rfl | (cases lit <;> first | rfl | (dsimp only [cond_false, cond_true]; split <;> rfl))
theorem cn_evShift (op : BinOp) (i : IntKind) (a b : Int) (lit : Bool) : CN fun R => evShift (R := R) op i a b lit := by
  intro R k
  unfold evShift
  cases op <;> first | rfl | (cases lit <;> first | rfl | (dsimp only [cond_false, cond_true]; split <;> rfl))
theorem cn_evEq (C : Ctx) (T : TypeId) (op : BinOp) (t : Ty) (x y : t.den) : CN fun R => evEq (R := R) C T op t x y := by
  intro R k
  unfold evEq
  cases cmpOk C 8 T _ with
  | true => dsimp only [cond_true]; split <;> rfl
  | false => rfl
theorem cn_step {A B R : Type} {m : (R : Type) → (A → Option R) → Option R} (hm : CN m) {f : A → Option R} {g : A → Option B} {k : B → Option R} (h : ∀ a, f a = (g a).bind k) : m R f = (m B g).bind k := by
  rw [hm R f, hm B g]
  cases m A some with
  | none => rfl
  | some a => exact h a
theorem cn_intsK (i : IntKind) : ∀ (n : Nat) (l : List SV), CN fun R => intsK (R := R) i n l
  | 0, [] => fun _ _ => rfl
  | n + 1, s :: l => by
    intro R k
    cases s with
    | val t x => cases t with
      | int j =>
        show (if _h : j = i then intsK i n l fun xs => k (x :: xs) else none) = (if _h : j = i then intsK i n l fun xs => some (x :: xs) else none).bind k
        split
        · exact cn_step (m := fun R => intsK (R := R) i n l) (cn_intsK i n l) fun xs => rfl
        · rfl
      | _ => rfl
    | _ => rfl
  | 0, _ :: _ => fun _ _ => rfl
  | _ + 1, [] => fun _ _ => rfl
theorem cn_cmpK : ∀ (t : Ty) (l : List SV), CN fun R => cmpK (R := R) t l
  | .int i, l => by
    intro R k
    cases l with
    | nil => rfl
    | cons s l => cases s with
      | val t x => cases t with
        | int j =>
          show (if _h : j = i then k (x, l) else none) = (if _h : j = i then some (x, l) else none).bind k
          split <;> rfl
        | _ => rfl
      | _ => rfl
  | .bool, l => by
    cases l with
    | nil => intro R k; rfl
    | cons s l => exact (cn_asB s).bind fun b => CN.pure (b, l)
  | .pair a b, l => (cn_cmpK a l).bind fun p => (cn_cmpK b p.2).bind fun q => CN.pure ((p.1, q.1), q.2)
  | .st f, l => (cn_cmpK f l).bind fun p => CN.pure (p.1, p.2)
  | .str, _ => fun _ _ => rfl
  | .flt, _ => fun _ _ => rfl
  | .cplx, _ => fun _ _ => rfl
  | .unit, _ => fun _ _ => rfl
  | .sl _, _ => fun _ _ => rfl
  | .osl _, _ => fun _ _ => rfl
  | .arr _ _, _ => fun _ _ => rfl
theorem cn_evBin (C : Ctx) (T : TypeId) (op : BinOp) (x y : SV) (lit : Bool) : CN fun R => evBin (R := R) C T op x y lit := by
  intro R k
  unfold evBin
  split
  · cases hs : isShift op with
    | true => exact cn_evShift _ _ _ _ _ R k
    | false =>
      dsimp only [cond_false]
      split
      · exact cn_evInt _ _ _ _ _ R k
      · rfl
  · split <;> rfl
  · split
    · unfold evEq
      cases cmpOk C 8 T _ with
      | true => dsimp only [cond_true]; split <;> rfl
      | false => rfl
    · rfl
  · exact cn_step (m := fun R => intsK (R := R) _ _ _) (cn_intsK _ _ _) fun b => cn_evEq _ _ _ _ _ _ _ k
  · exact cn_step (m := fun R => intsK (R := R) _ _ _) (cn_intsK _ _ _) fun b => cn_evEq _ _ _ _ _ _ _ k
  · split
    · exact cn_evEq _ _ _ _ _ _ R k
    · rfl
  · exact cn_step (m := fun R => cmpK (R := R) _ _) (cn_cmpK _ _) fun p => by
      split
      · exact cn_evEq _ _ _ _ _ _ _ k
      · rfl
  · exact cn_step (m := fun R => cmpK (R := R) _ _) (cn_cmpK _ _) fun p => by
      split
      · exact cn_evEq _ _ _ _ _ _ _ k
      · rfl
  · exact cn_step (m := fun R => tinfo (R := R) C.TT T) (cn_tinfo C.TT T) fun i => by
      split
      · exact cn_step (m := fun R => cmpK (R := R) _ _) (cn_cmpK _ _) fun p => cn_step (m := fun R => cmpK (R := R) _ _) (cn_cmpK _ _) fun q => by
          split
          · exact cn_evEq _ _ _ _ _ _ _ k
          · rfl
      · rfl
  · rename_i xs
    exact ((cn_tinfo C.TT T).bind (f := fun i R (k : SV → Option R) => match i.kind, op with
      | .slice _, .eql => k (.ub true (Nat.beq xs.length 0))
      | .slice _, .neq => k (.ub false (Nat.beq xs.length 0))
      | _, _ => Option.none) fun i => by intro R k; dsimp only; split <;> rfl) R k
  · exact ((cn_tinfo C.TT T).bind (f := fun i R (k : SV → Option R) => match i.kind, op with
      | .ptr _, .eql => k (.bit true)
      | .ptr _, .neq => k (.bit false)
      | _, _ => Option.none) fun i => by intro R k; dsimp only; split <;> rfl) R k
  · exact ((cn_tinfo C.TT T).bind (f := fun i R (k : SV → Option R) => match i.kind, op with
      | .ptr _, .eql => k (.bit false)
      | .ptr _, .neq => k (.bit true)
      | _, _ => Option.none) fun i => by intro R k; dsimp only; split <;> rfl) R k
  · exact ((cn_tinfo C.TT T).bind (f := fun i R (k : SV → Option R) => asB x fun a => asB y fun b => match i.kind, op with
      | .bool, .eql => k (.val .bool (a == b))
      | .bool, .neq => k (.val .bool (!(a == b)))
      | _, _ => Option.none) fun i => (cn_asB x).bind fun a => (cn_asB y).bind fun b => by intro R k; dsimp only; split <;> rfl) R k
theorem cn_evUn (op : UnOp) (x : SV) : CN fun R => evUn (R := R) op x := by
  intro R k
  unfold evUn
  split <;> rfl
theorem cn_pickK (c a b : SV) : CN fun R => pickK (R := R) c a b := by
  intro R k
  unfold pickK
  split
  · rfl
  · rfl
  · split
    · split <;> rfl
    · exact ((cn_asB a).bind fun x => (cn_asB b).bind fun y => CN.pure _) R k
  · rfl
theorem cn_evLoad (i : TI) (hp : List HO) (x : SV) : CN fun R => evLoad (R := R) i hp x := by
  intro R k
  unfold evLoad
  split
  · cases fits i _ <;> rfl
  · rename_i id off
    exact ((cn_nth hp id).bind (f := fun o R (k : SV → Option R) => match o with
      | .cells l => bif i.kind.isAgg then (bif Nat.ble (off + i.size) l.length then k (.agg ((l.drop off).take i.size)) else Option.none) else (bif Nat.beq i.size 1 then nthK l off k else Option.none)
      | _ => Option.none) fun o => by
        intro R k
        dsimp only
        split
        · cases i.kind.isAgg
          · cases Nat.beq i.size 1
            · rfl
            · exact cn_nth _ _ R k
          · rename_i l
            cases Nat.ble (off + i.size) l.length <;> rfl
        · rfl) R k
  · rename_i id t j p
    exact ((cn_nth hp id).bind (f := fun o R (k : SV → Option R) => match o with
      | .arr _ t' xs => if h : t' = t then (match pget p t ((h ▸ xs : List t.den).getD j t.dflt) with
        | some d => bif fits i d.t then (bif d.t.noOwn then k (.val d.t d.x) else k (.val d.t.er (d.t.erD d.x))) else Option.none
        | Option.none => Option.none) else Option.none
      | _ => Option.none) fun o => by
        intro R k
        dsimp only
        split
        · split
          · split
            · rename_i d _
              cases fits i d.t <;> cases d.t.noOwn <;> rfl
            · rfl
          · rfl
        · rfl) R k
  · rfl
theorem cn_optI (C : Ctx) (fr : List SV) (x : Option Operand) (d : Int) : CN fun R => optI (R := R) C fr x d := by
  intro R k
  unfold optI
  cases x with
  | none => rfl
  | some x => exact ((cn_opd C fr x).bind fun s => cn_asI s) R k
theorem ite_step {B R : Type} {c : Prop} [Decidable c] {a b : Option R} {a' b' : Option B} {k : B → Option R} (h1 : a = a'.bind k) (h2 : b = b'.bind k) : (if c then a else b) = (if c then a' else b').bind k := by
  by_cases h : c
  · simp only [if_pos h, h1]
  · simp only [if_neg h, h2]
theorem cond_step {B R : Type} {c : Bool} {a b : Option R} {a' b' : Option B} {k : B → Option R} (h1 : a = a'.bind k) (h2 : b = b'.bind k) : (bif c then a else b) = (bif c then a' else b').bind k := by
  cases c
  · exact h2
  · exact h1
theorem num_step {B R : Type} (C : Ctx) (fr : List SV) (y : Operand) {f : Int → Option R} {g : Int → Option B} {k : B → Option R} (h : ∀ a, f a = (g a).bind k) :
    (opd C fr y fun s => asI s f) = (opd C fr y fun s => asI s g).bind k :=
  cn_step (m := fun R => opd (R := R) C fr y) (cn_opd C fr y) fun s => cn_step (m := fun R => asI (R := R) s) (cn_asI s) h
theorem cn_evSlice (C : Ctx) (fr : List SV) (hp : List HO) (i : TI) (x : SV) (lo hi mx : Option Operand) : CN fun R => evSlice (R := R) C fr hp i x lo hi mx := by
  intro R k
  show evSlice C fr hp i x lo hi mx k = (evSlice C fr hp i x lo hi mx some).bind k
  unfold evSlice
  split
  · refine cn_step (m := fun R => tinfo (R := R) C.TT _) (cn_tinfo C.TT _) fun ei => ?_
    split
    · refine cond_step ?_ rfl
      split
      · split
        · rfl
        · rfl
      · cases hi with
        | none =>
          cases lo with
          | none => rfl
          | some y => exact num_step C fr y fun n => ite_step rfl rfl
        | some h =>
          refine num_step C fr h fun n => ite_step ?_ rfl
          cases lo with
          | none => rfl
          | some y => exact num_step C fr y fun n => ite_step rfl rfl
      · rename_i m _
        refine num_step C fr m fun n => ite_step ?_ rfl
        cases hi with
        | none => rfl
        | some h => exact num_step C fr h fun n => ite_step (cn_step (m := fun R => optI (R := R) C fr lo 0) (cn_optI C fr lo 0) fun l => ite_step rfl rfl) rfl
    · cases mx with
      | some m => rfl
      | none =>
        cases lo with
        | some y =>
          refine cn_step (m := fun R => nthK (R := R) hp _) (cn_nth hp _) fun o => ?_
          split
          · refine cond_step ?_ rfl
            cases hi with
            | none => exact num_step C fr y fun n => ite_step rfl rfl
            | some h => exact num_step C fr h fun n => ite_step (num_step C fr y fun m => ite_step rfl rfl) rfl
          · rfl
        | none =>
          refine cn_step (m := fun R => nthK (R := R) hp _) (cn_nth hp _) fun o => ?_
          split
          · cases hi with
            | none => rfl
            | some h => exact num_step C fr h fun n => ite_step rfl rfl
          · rfl
    · rfl
  · rfl
theorem cn_evIndexAddr (C : Ctx) (hp : List HO) (i : TI) (x ix : SV) : CN fun R => evIndexAddr (R := R) C hp i x ix := by
  intro R k
  show evIndexAddr C hp i x ix k = (evIndexAddr C hp i x ix some).bind k
  unfold evIndexAddr
  refine cn_step (m := fun R => asI (R := R) ix) (cn_asI ix) fun n => ?_
  split
  · refine cn_step (m := fun R => tinfo (R := R) C.TT _) (cn_tinfo C.TT _) fun ei => ?_
    split
    · exact cond_step (ite_step rfl rfl) rfl
    · refine cn_step (m := fun R => nthK (R := R) hp _) (cn_nth hp _) fun o => ?_
      split
      · exact cond_step (ite_step rfl rfl) rfl
      · rfl
    · exact cond_step (ite_step rfl rfl) rfl
    · rfl
  · refine cn_step (m := fun R => tinfo (R := R) C.TT _) (cn_tinfo C.TT _) fun ei => ?_
    split
    · exact cond_step (ite_step rfl rfl) rfl
    · exact ite_step rfl rfl
    · rfl
  · rfl
theorem cn_evIndex (C : Ctx) (i : TI) (x ix : SV) : CN fun R => evIndex (R := R) C i x ix := by
  intro R k
  show evIndex C i x ix k = (evIndex C i x ix some).bind k
  unfold evIndex
  refine cn_step (m := fun R => asI (R := R) ix) (cn_asI ix) fun n => ?_
  split
  · refine cn_step (m := fun R => tinfo (R := R) C.TT _) (cn_tinfo C.TT _) fun ei => ?_
    split
    · exact cond_step (ite_step rfl rfl) rfl
    · rfl
  · split
    · exact ite_step rfl rfl
    · rfl
  · rfl
theorem cn_evField (i : TI) (x : SV) (f : Nat) : CN fun R => evField (R := R) i x f := by
  intro R k
  show evField i x f k = (evField i x f some).bind k
  unfold evField
  split
  · rename_i fs _
    refine cn_step (m := fun R => nthK (R := R) fs f) (cn_nth fs f) fun p => ?_
    obtain ⟨T, off, size, agg⟩ := p
    dsimp only
    split
    · exact cond_step (cond_step rfl rfl) (cn_nth _ _ R k)
    · split
      · exact cond_step rfl rfl
      · rfl
    · rfl
  · rfl
theorem cn_evFieldAddr (i : TI) (x : SV) (f : Nat) : CN fun R => evFieldAddr (R := R) i x f := by
  intro R k
  show evFieldAddr i x f k = (evFieldAddr i x f some).bind k
  unfold evFieldAddr
  split
  · rename_i fs _
    refine cn_step (m := fun R => nthK (R := R) fs f) (cn_nth fs f) fun p => ?_
    obtain ⟨T, off, size, agg⟩ := p
    dsimp only
    refine cond_step rfl ?_
    split
    · rfl
    · split
      · exact cond_step rfl rfl
      · rfl
    · split
      · exact cond_step rfl rfl
      · rfl
    · rfl
  · rfl
theorem cn_evLen (i : TI) (hp : List HO) (x : SV) : CN fun R => evLen (R := R) i hp x := by
  intro R k
  show evLen i hp x k = (evLen i hp x some).bind k
  unfold evLen
  split
  · rfl
  · rfl
  · rfl
  · refine cn_step (m := fun R => nthK (R := R) hp _) (cn_nth hp _) fun o => ?_
    split
    · rfl
    · rfl
    · rfl
  · rfl
  · rfl
  · rfl
  · rfl
theorem cn_evMin (f : Int → Int → Int) : ∀ (l : List SV) (x : SV), CN fun R => evMin (R := R) f x l
  | [], x => fun _ _ => rfl
  | y :: l, x => by
    intro R k
    show evMin f x (y :: l) k = (evMin f x (y :: l) some).bind k
    cases x with
    | val t a =>
      cases t with
      | int i =>
        cases y with
        | val t' b =>
          cases t' with
          | int j => exact cn_evMin f l _ R k
          | _ => simp [evMin]
        | _ => simp [evMin]
      | _ => simp [evMin]
    | _ => simp [evMin]
theorem cn_cellsK (s : SV) : CN fun R => s.cellsK (R := R) := by
  intro R k
  unfold SV.cellsK
  split
  · exact CN.cond (CN.pure _) CN.none R k
  all_goals rfl
theorem cn_fillK (fs : List (TypeId × Nat × Nat × Bool)) : ∀ (l : List (Nat × SV)) (cs : List SV), CN fun R => fillK (R := R) fs l cs
  | [], cs => fun _ _ => rfl
  | (i, s) :: l, cs => by
    intro R k
    show fillK fs ((i, s) :: l) cs k = (fillK fs ((i, s) :: l) cs some).bind k
    unfold fillK
    exact cn_step (m := fun R => nthK (R := R) fs i) (cn_nth fs i) fun p => cn_step (m := fun R => s.cellsK (R := R)) (cn_cellsK s) fun l' => cond_step (cn_fillK fs l _ R k) rfl
theorem cn_partsK (C : Ctx) (fr : List SV) : ∀ (l : List (Nat × Operand)), CN fun R => partsK (R := R) C fr l
  | [] => fun _ _ => rfl
  | (i, x) :: l => by
    intro R k
    show partsK C fr ((i, x) :: l) k = (partsK C fr ((i, x) :: l) some).bind k
    unfold partsK
    exact cn_step (m := fun R => opd (R := R) C fr x) (cn_opd C fr x) fun s => cn_step (m := fun R => partsK (R := R) C fr l) (cn_partsK C fr l) fun l' => rfl
section
variable {B R : Type} {C : Ctx} {fr : List SV} {k : B → Option R}
theorem opd_step (x : Operand) {f : SV → Option R} {g : SV → Option B} (h : ∀ a, f a = (g a).bind k) : opd C fr x f = (opd C fr x g).bind k := cn_step (m := fun R => opd (R := R) C fr x) (cn_opd C fr x) h
theorem opds_step (x : List Operand) {f : List SV → Option R} {g : List SV → Option B} (h : ∀ a, f a = (g a).bind k) : opds C fr x f = (opds C fr x g).bind k := cn_step (m := fun R => opds (R := R) C fr x) (cn_opds C fr x) h
theorem ti_step (T : TypeId) {f : TI → Option R} {g : TI → Option B} (h : ∀ a, f a = (g a).bind k) : tinfo C.TT T f = (tinfo C.TT T g).bind k := cn_step (m := fun R => tinfo (R := R) C.TT T) (cn_tinfo C.TT T) h
end
theorem cn_evLookup (C : Ctx) (i : TI) (hp : List HO) (x y : SV) (ok : Bool) : CN fun R => evLookup (R := R) C i hp x y ok := by
  intro R k
  show evLookup C i hp x y ok k = (evLookup C i hp x y ok some).bind k
  unfold evLookup
  split
  · refine ti_step _ fun ki => ti_step _ fun vi => cn_step (m := fun R => nthK (R := R) hp _) (cn_nth hp _) fun o => ?_
    split
    · refine cond_step ?_ rfl
      split
      · exact cond_step rfl rfl
      · rfl
    · rfl
  · rfl
theorem cn_evBinH (C : Ctx) (hp : List HO) (T : TypeId) (op : BinOp) (x y : SV) (lit : Bool) : CN fun R => evBinH (R := R) C hp T op x y lit := by
  intro R k
  show evBinH C hp T op x y lit k = (evBinH C hp T op x y lit some).bind k
  unfold evBinH
  split
  · unfold evNilOwn
    refine ti_step _ fun i => cn_step (m := fun R => nthK (R := R) hp _) (cn_nth hp _) fun o => ?_
    split <;> rfl
  · unfold evFlt
    split <;> rfl
  · unfold evCplx
    split
    · rfl
    · rfl
    · split <;> rfl
    · rfl
  · exact cn_evBin C T op x y lit R k
theorem cn_evPure (C : Ctx) (fr : List SV) (hp : List HO) (op : Op) : CN fun R => evPure (R := R) C fr hp op := by
  intro R k
  show evPure C fr hp op k = (evPure C fr hp op some).bind k
  unfold evPure
  split
  · exact cn_opd _ _ _ R k
  · exact cn_opd _ _ _ R k
  · exact opd_step _ fun c => opd_step _ fun a => opd_step _ fun b => cn_pickK c a b R k
  · exact ti_step _ fun i => opd_step _ fun x => cn_evLoad i hp x R k
  · refine opd_step _ fun x => ?_
    split <;> rfl
  · exact opd_step _ fun a => opd_step _ fun b => cn_evBinH C hp _ _ a b _ R k
  · exact opd_step _ fun x => cn_evUn _ x R k
  · refine ti_step _ fun _ => ti_step _ fun i => opd_step _ fun x => ?_
    split <;> rfl
  · exact ti_step _ fun i => opd_step _ fun x => cn_evSlice C fr hp i x _ _ _ R k
  · exact ti_step _ fun i => opd_step _ fun x => cn_evFieldAddr i x _ R k
  · exact ti_step _ fun i => opd_step _ fun x => cn_evField i x _ R k
  · exact ti_step _ fun i => opd_step _ fun x => opd_step _ fun n => cn_evIndexAddr C hp i x n R k
  · exact ti_step _ fun i => opd_step _ fun x => opd_step _ fun n => cn_evIndex C i x n R k
  · exact ti_step _ fun i => opd_step _ fun x => opd_step _ fun n => cn_evLookup C i hp x n _ R k
  · refine opd_step _ fun x => ?_
    split
    · exact cn_nth _ _ R k
    · rfl
  · refine ti_step _ fun i => cn_step (m := fun R => partsK (R := R) C fr _) (cn_partsK C fr _) fun ps => ?_
    split
    · exact cn_step (m := fun R => fillK (R := R) _ _ _) (cn_fillK _ _ _) fun l => rfl
    · exact ti_step _ fun ei => cn_step (m := fun R => fillK (R := R) _ _ _) (cn_fillK _ _ _) fun l => rfl
    · rfl
  · split
    · exact ti_step _ fun i => opd_step _ fun x => cn_evLen i hp x R k
    · exact opd_step _ fun x => opds_step _ fun l => cn_evMin _ l x R k
    · exact opd_step _ fun x => opds_step _ fun l => cn_evMin _ l x R k
    · refine opd_step _ fun x => ?_
      split <;> rfl
    · refine opd_step _ fun x => ?_
      split <;> rfl
    · refine opd_step _ fun x => opd_step _ fun y => ?_
      split <;> rfl
    · rfl
  · split
    · exact opds_step _ fun l => rfl
    · rfl
  · rfl
end Go.Sx
