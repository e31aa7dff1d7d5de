/- The symbolic evaluator, part C: shapes, contracts, effects, regions, code (definitions alone). -/
import Derived.Test.YtemngcdlgnconaaSxB
set_option linter.unusedVariables false
set_option linter.unusedSimpArgs false
namespace Go.Sx
open Go.RowKit
inductive Sh where
  | hole (t : Ty)
  | own (j : Nat)
  | ptr (j off : Nat)
  | nilp
  | und
  | ro (t : Ty)
  | fnc (f : FuncId) (n : Nat)   -- a function's value; the next n slots are what it has caught
  | mp (j : Nat)
  | agn (n : Nat)   -- a struct's value; the next n slots are its parts
inductive OSh where
  | gone
  | cells (l : List Sh)
  | arr (T : TypeId) (t : Ty)
  | map (K V : Ty)
def shTys : List Sh → List Ty
  | [] => []
  | .hole t :: l => t :: shTys l
  | .own _ :: l => shTys l
  | .ptr _ _ :: l => shTys l
  | .nilp :: l => shTys l
  | .und :: l => shTys l
  | .ro t :: l => t :: shTys l
  | .fnc _ _ :: l => shTys l
  | .agn _ :: l => shTys l
  | .mp _ :: l => shTys l
def catTys : List Ty → List Ty → List Ty
  | [], m => m
  | t :: l, m => t :: catTys l m
def objTys : List OSh → List Ty
  | [] => []
  | .gone :: l => objTys l
  | .cells s :: l => catTys (shTys s) (objTys l)
  | .arr _ t :: l => .sl t :: objTys l
  | .map K V :: l => .sl (.pair K V) :: objTys l
structure Skel where
  slots : List Sh
  objs : List OSh
def Skel.tys (s : Skel) : List Ty := catTys (shTys s.slots) (objTys s.objs)
@[reducible] def Tup : List Ty → Type
  | [] => Unit
  | [t] => t.den
  | t :: u :: l => t.den × Tup (u :: l)
def ofTup : (ts : List Ty) → Tup ts → List DV
  | [], _ => []
  | [t], x => [⟨t, x⟩]
  | t :: u :: l, x => ⟨t, x.1⟩ :: ofTup (u :: l) x.2
inductive PM where
  | none
  | nil
  | id (i : Nat) (len : Option Nat)
section
variable {R : Type}
def toTup : (ts : List Ty) → List DV → (Tup ts → Option R) → Option R
  | [], [], k => k ()
  | [t], [d], k => if h : d.t = t then k (h ▸ d.x) else none
  | t :: u :: l, d :: ds, k => if h : d.t = t then toTup (u :: l) ds fun y => k (h ▸ d.x, y) else none
  | _, _, _ => none
def PM.same : PM → PM → Bool
  | .nil, .nil => true
  | .id i Option.none, .id j Option.none => Nat.beq i j
  | _, _ => false
def bindPM (mp : List PM) (j : Nat) (p : PM) (k : List PM → Option R) : Option R :=
  nthK mp j fun q => match q with
    | .none => setK mp j p k
    | q => bif q.same p then k mp else none
def matchL : List Sh → List SV → List PM → List HO → (List PM → List DV → List HO → Option R) → Option R
  | [], [], mp, hp, k => k mp [] hp
  | .hole t :: ss, v :: vs, mp, hp, k => dataF t v hp fun x hp => matchL ss vs mp hp fun mp ds hp => k mp (⟨t, x⟩ :: ds) hp
  | .own j :: ss, v :: vs, mp, hp, k => (match v with
    | .own id len => bindPM mp j (.id id len) fun mp => matchL ss vs mp hp k
    | .nils => bindPM mp j .nil fun mp => matchL ss vs mp hp k
    | _ => none)
  | .ptr j off :: ss, v :: vs, mp, hp, k => (match v with
    | .ptr id o => bif Nat.beq o off then bindPM mp j (.id id none) fun mp => matchL ss vs mp hp k else none
    | _ => none)
  | .nilp :: ss, v :: vs, mp, hp, k => (match v with
    | .nilp => matchL ss vs mp hp k
    | _ => none)
  | .mp j :: ss, v :: vs, mp, hp, k => (match v with
    | .mp id => bindPM mp j (.id id none) fun mp => matchL ss vs mp hp k
    | _ => none)
  | .und :: ss, _ :: vs, mp, hp, k => matchL ss vs mp hp k
  | .fnc f n :: ss, v :: vs, mp, hp, k => (match v with
    | .fn g l => bif Nat.beq g f && Nat.beq l.length n then matchL ss (l ++ vs) mp hp k else none
    | _ => none)
  | .agn n :: ss, v :: vs, mp, hp, k => (match v with
    | .agg l => bif Nat.beq l.length n then matchL ss (l ++ vs) mp hp k else none
    | _ => none)
  | .ro t :: ss, v :: vs, mp, hp, k => roF t v hp fun x hp => matchL ss vs mp hp fun mp ds hp => k mp (⟨t, x⟩ :: ds) hp
  | _, _, _, _, _ => none
def catDV : List DV → List DV → List DV
  | [], m => m
  | d :: l, m => d :: catDV l m
def matchO : Nat → List OSh → List PM → List HO → (List PM → List DV → List HO → Option R) → Option R
  | _, [], mp, hp, k => k mp [] hp
  | j, .gone :: os, mp, hp, k => matchO (j + 1) os mp hp k
  | j, .cells sl :: os, mp, hp, k => nthK mp j fun p => (match p with
    | .id i none => nthK hp i fun o => (match o with
      | .cells l => matchL sl l mp hp fun mp ds hp => matchO (j + 1) os mp hp fun mp ds' hp => k mp (catDV ds ds') hp
      | _ => none)
    | _ => none)
  | j, .arr T t :: os, mp, hp, k => nthK mp j fun p => (match p with
    | .nil => matchO (j + 1) os mp hp fun mp ds hp => k mp (⟨.sl t, []⟩ :: ds) hp
    | .id i len => nthK hp i fun o => (match o with
      | .arr T' t' xs => bif Nat.beq T' T then (if h : t' = t then matchO (j + 1) os mp hp fun mp ds hp => k mp (⟨.sl t, takeO (h ▸ xs) len⟩ :: ds) hp else none) else none
      | _ => none)
    | .none => none)
  | j, .map K V :: os, mp, hp, k => nthK mp j fun p => (match p with
    | .id i none => nthK hp i fun o => (match o with
      | .map K' V' es => if h : K' = K ∧ V' = V then matchO (j + 1) os mp hp fun mp ds hp => k mp (⟨.sl (.pair K V), h.1 ▸ h.2 ▸ es⟩ :: ds) hp else none
      | _ => none)
    | _ => none)
def liveIds : List OSh → List PM → List Nat
  | .gone :: os, _ :: mp => liveIds os mp
  | _ :: os, .id i _ :: mp => i :: liveIds os mp
  | _ :: os, _ :: mp => liveIds os mp
  | _, _ => []
def notIn (n : Nat) : List Nat → Bool
  | [] => true
  | m :: l => bif Nat.beq n m then false else notIn n l
def nodupB : List Nat → Bool
  | [] => true
  | n :: l => notIn n l && nodupB l
def startPM : Nat → Nat → List OSh → List PM
  | _, _, [] => []
  | 0, j, _ :: os => .none :: startPM 0 j os
  | n + 1, j, _ :: os => .id j none :: startPM n (j + 1) os
def liveK : List Nat → List HO → Option R → Option R
  | [], _, x => x
  | i :: l, hp, x => nthK hp i fun o => bif o.live then liveK l hp x else none
def pack (n0 : Nat) (sk : Skel) (vs : List SV) (hp : List HO) (k : List DV → List PM → List HO → Option R) : Option R :=
  matchL sk.slots vs (startPM n0 0 sk.objs) hp fun mp ds hp => matchO 0 sk.objs mp hp fun mp ds' hp =>
    bif nodupB (liveIds sk.objs mp) then liveK (liveIds sk.objs mp) hp (k (catDV ds ds') mp hp) else none
def nthD : List Nat → Nat → Nat
  | [], _ => 0
  | x :: _, 0 => x
  | _ :: l, n + 1 => nthD l n
def buildL (ρ : List Nat) : List Sh → List DV → (List SV → List DV → Option R) → Option R
  | [], ds, k => k [] ds
  | .hole _ :: ss, d :: ds, k => buildL ρ ss ds fun vs ds => k (.val d.t d.x :: vs) ds
  | .own j :: ss, ds, k => buildL ρ ss ds fun vs ds => k (.own (nthD ρ j) none :: vs) ds
  | .ptr j off :: ss, ds, k => buildL ρ ss ds fun vs ds => k (.ptr (nthD ρ j) off :: vs) ds
  | .nilp :: ss, ds, k => buildL ρ ss ds fun vs ds => k (.nilp :: vs) ds
  | .mp j :: ss, ds, k => buildL ρ ss ds fun vs ds => k (.mp (nthD ρ j) :: vs) ds
  | .und :: ss, ds, k => buildL ρ ss ds fun vs ds => k (.und :: vs) ds
  | .hole _ :: _, [], _ => none
  | .fnc f n :: ss, ds, k => buildL ρ ss ds fun vs ds => k (.fn f (vs.take n) :: vs.drop n) ds
  | .agn n :: ss, ds, k => buildL ρ ss ds fun vs ds => k (.agg (vs.take n) :: vs.drop n) ds
  | .ro _ :: ss, d :: ds, k => buildL ρ ss ds fun vs ds => k (.ro d.t d.x :: vs) ds
  | .ro _ :: _, [], _ => none
def buildO (ρ : List Nat) : List OSh → List DV → (List HO → Option R) → Option R
  | [], _, k => k []
  | .gone :: os, ds, k => buildO ρ os ds fun hs => k (.gone :: hs)
  | .cells sl :: os, ds, k => buildL ρ sl ds fun vs ds => buildO ρ os ds fun hs => k (.cells vs :: hs)
  | .arr T _ :: os, d :: ds, k => (match d with
    | ⟨.sl e, xs⟩ => buildO ρ os ds fun hs => k (.arr T e xs :: hs)
    | _ => none)
  | .arr _ _ :: _, [], _ => none
  | .map _ _ :: os, d :: ds, k => (match d with
    | ⟨.sl (.pair K V), es⟩ => buildO ρ os ds fun hs => k (.map K V es :: hs)
    | _ => none)
  | .map _ _ :: _, [], _ => none
def build (ρ : List Nat) (sk : Skel) (ds : List DV) (k : List SV → List HO → Option R) : Option R :=
  buildL ρ sk.slots ds fun vs ds => buildO ρ sk.objs ds fun hs => k vs hs
structure Sig where
  ins : Skel
  outs : Skel
def flatSh : List Sh → Bool
  | [] => true
  | .hole t :: l => t.flat && flatSh l
  | .ro _ :: _ => false
  | .fnc _ _ :: _ => false
  | .agn _ :: _ => false
  | _ :: l => flatSh l
def flatO : List OSh → Bool
  | [] => true
  | .gone :: l => flatO l
  | .cells s :: l => flatSh s && flatO l
  | .arr _ t :: l => t.flat && flatO l
  | .map K V :: l => K.flat && (V.flat && flatO l)
def Skel.flat (s : Skel) : Bool := flatSh s.slots && flatO s.objs
structure Con where
  f : FuncId
  sig : Sig
  F : Tup sig.ins.tys → Option (Tup sig.outs.tys)
def fitFn : List Sh → List SV → Bool
  | .fnc g _ :: ss, v :: vs => (match v with
    | .fn h l => Nat.beq g h && fitFn ss (l ++ vs)
    | _ => false)
  | .agn _ :: ss, v :: vs => (match v with
    | .agg l => fitFn ss (l ++ vs)
    | _ => false)
  | .own _ :: ss, v :: vs => (match v with
    | .val _ _ => false
    | _ => fitFn ss vs)
  | _ :: ss, _ :: vs => fitFn ss vs
  | _, _ => true
def conK : List Con → FuncId → List SV → (Con → Option R) → Option R
  | [], _, _, _ => none
  | c :: l, f, vs, k => bif Nat.beq c.f f && fitFn c.sig.ins.slots vs then k c else conK l f vs k
def callK (C : Ctx) (Γ : List Con) (fr : List SV) (x : Operand) (args : List Operand) (k : Con → List SV → Option R) : Option R :=
  match x with
  | .func f => opds C fr args fun vs => conK Γ f vs fun c => k c vs
  | x => opd C fr x fun s => (match s with
    | .fn f l => opds C fr args fun vs => conK Γ f (vs ++ l) fun c => k c (vs ++ l)
    | _ => none)
def rho : Nat → List PM → List OSh → List Nat
  | _, _, [] => []
  | b, .id i none :: mp, _ :: os => i :: rho b mp os
  | b, _ :: mp, _ :: os => b :: rho (b + 1) mp os
  | b, [], _ :: os => b :: rho (b + 1) [] os
def dropIns : List PM → List HO → (List HO → Option R) → Option R
  | [], hp, k => k hp
  | .id i _ :: mp, hp, k => setK hp i .gone fun hp => dropIns mp hp k
  | _ :: mp, hp, k => dropIns mp hp k
def growK : List PM → List OSh → List HO → (List HO → Option R) → Option R
  | _, [], hp, k => k hp
  | .id _ none :: mp, _ :: os, hp, k => growK mp os hp k
  | _ :: mp, _ :: os, hp, k => snocK hp .gone fun hp => growK mp os hp k
  | [], _ :: os, hp, k => snocK hp .gone fun hp => growK [] os hp k
def putAll : List Nat → List HO → List HO → (List HO → Option R) → Option R
  | i :: ρ, o :: os, hp, k => setK hp i o fun hp => putAll ρ os hp k
  | _, _, hp, k => k hp
def plainO : List OSh → Bool
  | [] => true
  | .arr _ t :: l => t.noOwn && plainO l
  | _ :: l => plainO l
def noGone : List OSh → Bool
  | [] => true
  | .gone :: _ => false
  | _ :: l => noGone l
def wfSh (n : Nat) : List Sh → Bool
  | [] => true
  | .own j :: l => Nat.ble (j + 1) n && wfSh n l
  | .ptr j _ :: l => Nat.ble (j + 1) n && wfSh n l
  | .mp j :: l => Nat.ble (j + 1) n && wfSh n l
  | _ :: l => wfSh n l
def wfO (n : Nat) : List OSh → Bool
  | [] => true
  | .cells s :: l => wfSh n s && wfO n l
  | _ :: l => wfO n l
def resSV : List SV → SV
  | [s] => s
  | l => .tup l
def evCon (c : Con) (args : List SV) (hp : List HO) (k : SV → List HO → Option R) : Option R :=
  bif noGone c.sig.ins.objs && (Nat.ble c.sig.ins.objs.length c.sig.outs.objs.length && (wfSh c.sig.outs.objs.length c.sig.outs.slots && wfO c.sig.outs.objs.length c.sig.outs.objs)) then
  pack 0 c.sig.ins args hp fun ds mp hp1 => toTup c.sig.ins.tys ds fun x =>
    (c.F x).bind fun r =>
      build (rho hp.length mp c.sig.outs.objs) c.sig.outs (ofTup _ r) fun vs hos =>
        dropIns mp (bif c.sig.outs.flat && plainO c.sig.ins.objs then hp else hp1) fun hp2 => growK mp c.sig.outs.objs hp2 fun hp3 => putAll (rho hp.length mp c.sig.outs.objs) hos hp3 fun hp4 => k (resSV vs) hp4
  else none
def withO {α : Type} (x : Option α) (k : α → Option R) : Option R :=
  match x with
  | some x => k x
  | none => none
def evTail (sg : Sig) (mp : List PM) (hp hp1 : List HO) (k : SV → List HO → Option R) (y : Tup sg.outs.tys) : Option R :=
  build (rho hp.length mp sg.outs.objs) sg.outs (ofTup _ y) fun vs hos =>
    dropIns mp (bif sg.outs.flat && plainO sg.ins.objs then hp else hp1) fun hp2 => growK mp sg.outs.objs hp2 fun hp3 => putAll (rho hp.length mp sg.outs.objs) hos hp3 fun hp4 => k (resSV vs) hp4
structure PCon where
  f : FuncId
  sig : Sig
  T : TypeId
  t : Ty
  F : Tup sig.ins.tys → Option (Tup sig.outs.tys ⊕ t.den)
def PCon.nrm (c : PCon) : Con := ⟨c.f, c.sig, fun x => (c.F x).bind (Sum.elim some fun _ => none)⟩
def PCon.pan (c : PCon) : Con := ⟨c.f, ⟨c.sig.ins, ⟨[.hole c.t], []⟩⟩, fun x => (c.F x).bind (Sum.elim (fun _ => none) some)⟩
def pconK : List PCon → FuncId → (PCon → Option R) → Option R
  | [], _, _ => none
  | c :: l, f, k => bif Nat.beq c.f f then k c else pconK l f k
def callP (C : Ctx) (Θ : List PCon) (fr : List SV) (x : Operand) (args : List Operand) (k : PCon → List SV → Option R) : Option R :=
  match x with
  | .func f => opds C fr args fun vs => pconK Θ f fun c => k c vs
  | _ => none
def packX (sg : Sig) (args : List SV) (hp : List HO) : Option (Tup sg.ins.tys × List PM × List HO) :=
  bif noGone sg.ins.objs && (wfSh sg.outs.objs.length sg.outs.slots && wfO sg.outs.objs.length sg.outs.objs) then pack 0 sg.ins args hp fun ds mp hp1 => toTup sg.ins.tys ds fun x => some (x, mp, hp1) else none
def panK (kp : (t : Ty) → t.den → List HO → Option R) (s : SV) (hp : List HO) : Option R :=
  match s with
  | .val t x => kp t x hp
  | _ => none
def evPCon (c : PCon) (args : List SV) (hp : List HO) (k : SV → List HO → Option R) (kp : (t : Ty) → t.den → List HO → Option R) : Option R :=
  withO (packX c.sig args hp) fun p => (c.F p.1).bind fun r => Sum.elim (evTail c.sig p.2.1 hp p.2.2 k) (evTail c.pan.sig p.2.1 hp p.2.2 (panK kp)) r
set_option linter.unusedVariables false in
def elemsK (C : Ctx) (fr : List SV) (t : Ty) : List (Nat × Operand) → List t.den → List HO → (List t.den → List HO → Option R) → Option R
  | [], xs, hp, k => k xs hp
  | (i, x) :: l, xs, hp, k => bif Nat.ble (i + 1) xs.length then (opd C fr x fun s => dataF t s hp fun y hp => setK xs i y fun xs => elemsK C fr t l xs hp k) else none
def repK {α : Type} (x : α) : Nat → (List α → Option R) → Option R
  | 0, k => k []
  | n + 1, k => repK x n fun l => k (x :: l)
def srcK (t : Ty) (s : SV) (hp : List HO) (k : List t.den → Option R) : Option R :=
  match s with
  | .val (.sl e) xs => if h : e = t then k (h ▸ xs) else none
  | .nils => k []
  | .nil0 => k []
  | .own id len => nthK hp id fun o => (match o with
    | .arr _ e xs => if h : e = t then k (takeO (h ▸ xs) len) else none
    | .tk _ e xs => if h : e = t then k (takeO (h ▸ xs) len) else none
    | _ => none)
  | _ => none
def srcM (t : Ty) (s : SV) (hp : List HO) (k : List t.den → List HO → Option R) : Option R :=
  match s with
  | .val (.sl e) xs => if h : e = t.er then k ((h ▸ xs : List t.er.den).map t.lift) hp else none
  | .nils => k [] hp
  | .nil0 => k [] hp
  | .own id len => nthK hp id fun o => (match o with
    | .arr _ e xs => if h : e = t then setK hp id .gone fun hp => k (takeO (h ▸ xs) len) hp else none
    | _ => none)
  | _ => none
def roomOk (n bytes : Nat) : Prop := n * bytes ≤ 140737488355328
instance (n bytes : Nat) : Decidable (roomOk n bytes) := inferInstanceAs (Decidable (_ ≤ _))
def pset : List Nat → (t : Ty) → t.den → (t' : Ty) → t'.den → (t.den → Option R) → Option R
  | [], t, _, t', y, k => if h : t' = t then k (h ▸ y) else none
  | i :: p, .st f, x, t', y, k => fsetAux i f x (fun u z k => pset p u z t' y k) k
  | _ :: _, _, _, _, _, _ => none
where fsetAux : Nat → (f : Ty) → f.den → ((u : Ty) → u.den → (u.den → Option R) → Option R) → (f.den → Option R) → Option R
  | 0, .pair a _, x, g, k => g a x.1 fun y => k (y, x.2)
  | i + 1, .pair _ b, x, g, k => fsetAux i b x.2 g fun y => k (x.1, y)
  | 0, t, x, g, k => g t x k
  | _ + 1, _, _, _, _ => none
def elemOk (ei : TI) (t : Ty) : Bool := Nat.beq ei.size t.size && (Nat.ble 1 ei.size && (Nat.ble 1 ei.bytes && (t.isAgg || Nat.beq t.size 1)))
def evStore (i : TI) (x v : SV) (hp : List HO) (k : SV → List HO → Option R) : Option R :=
  match x with
  | .ptr id off => v.cellsK fun l' => bif Nat.beq l'.length i.size && allOne l' then (nthK hp id fun o => (match o with
    | .cells l => bif Nat.ble (off + i.size) l.length then setK hp id (.cells (l.take off ++ (l' ++ l.drop (off + i.size)))) fun hp => k .skip hp else none
    | _ => none)) else none
  | .elt id t j p => (match pathTy p t with
    | some u => bif fits i u then dataF u v hp fun y hp => nthK hp id fun o => (match o with
      | .arr T t' xs => if h : t' = t then pset p t ((h ▸ xs : List t.den).getD j t.dflt) u y fun z => setK hp id (.arr T t ((h ▸ xs : List t.den).set j z)) fun hp => k .skip hp else none
      | _ => none) else none
    | none => none)
  | _ => none
def evAppendN (C : Ctx) (E : TypeId) (ei : TI) (x : SV) (hp : List HO) (k : SV → List HO → Option R) : Option R :=
  match C.el E ei with
  | some t => bif elemOk ei t then (bif t.noOwn then srcK t x hp fun ys => (if roomOk ys.length ei.bytes then snocK hp (.arr E t ys) fun hp' => k (.own hp.length none) hp' else none)
      else srcM t x hp fun ys hp => if roomOk ys.length ei.bytes then snocK hp (.arr E t ys) fun hp' => k (.own hp.length none) hp' else none) else none
  | none => none
set_option linter.unusedVariables false in
def evAppend (C : Ctx) (E : TypeId) (ei : TI) (s x : SV) (hp : List HO) (k : SV → List HO → Option R) : Option R :=
  match s with
  | .nils => evAppendN C E ei x hp k
  | .nil0 => evAppendN C E ei x hp k
  | .own id len => nthK hp id fun o => (match o with
    | .arr E' t xs => bif Nat.beq E' E && elemOk ei t then (bif t.noOwn then srcK t x hp fun ys =>
        (if roomOk (lenO xs len + ys.length) ei.bytes then setK hp id .gone fun hp1 => snocK hp1 (.arr E t (takeO xs len ++ ys)) fun hp' => k (.own hp.length none) hp' else none)
      else setK hp id .gone fun hp1 => srcM t x hp1 fun ys hp2 => if roomOk (lenO xs len + ys.length) ei.bytes then snocK hp2 (.arr E t (takeO xs len ++ ys)) fun hp' => k (.own hp2.length none) hp' else none) else none
    | .tk E' t xs => bif Nat.beq E' E && (elemOk ei t && (len.isNone && t.noOwn)) then srcK t x hp fun ys =>
        (if roomOk (xs.length + ys.length) ei.bytes then setK hp id (.fro t xs) fun hp1 => snocK hp1 (.tk E t (xs ++ ys)) fun hp' => k (.own hp.length none) hp' else none) else none
    | _ => none)
  | _ => none
def evClear (C : Ctx) (E : TypeId) (ei : TI) (x : SV) (hp : List HO) (k : SV → List HO → Option R) : Option R :=
  match x with
  | .nils => k (.tup []) hp
  | .own id len => nthK hp id fun o => (match o with
    | .arr T t xs => (match C.el E ei with
      | some u => bif elemOk ei t then (if _h : u = t then setK hp id (.arr T t (List.replicate (lenO xs len) t.dflt ++ xs.drop (lenO xs len))) fun hp => k (.tup []) hp else none) else none
      | none => none)
    | _ => none)
  | .vw id u off len => nthK hp id fun o => (match o with
    | .arr T t xs => (match C.el E ei with
      | some u' => bif elemOk ei t then (if _h : u' = t ∧ u = t then setK hp id (.arr T t (xs.take off ++ (List.replicate len t.dflt ++ xs.drop (off + len)))) fun hp => k (.tup []) hp else none) else none
      | none => none)
    | _ => none)
  | _ => none
def ownedP (b : Bool) : Prop := b = true
instance (b : Bool) : Decidable (ownedP b) := inferInstanceAs (Decidable (_ = _))
def evMove (i : TI) (hp : List HO) (x : SV) (k : SV → List HO → Option R) : Option R :=
  match i.kind, x with
  | .slice E, .elt id t j p => nthK hp id fun o => (match o with
    | .arr T t' xs => if h : t' = t then (match pget p t ((h ▸ xs : List t.den).getD j t.dflt) with
      | some d => (match d with
        | ⟨.osl e, y⟩ => bif fits i (.osl e) && decide (pathTy p t = some (.osl e)) then (if ownedP y.1 then pset p t ((h ▸ xs : List t.den).getD j t.dflt) (.osl e) (false, y.2) fun z =>
            setK hp id (.arr T t ((h ▸ xs : List t.den).set j z)) fun hp1 => snocK hp1 (.tk E e y.2) fun hp2 => k (.own hp.length none) hp2 else none) else none
        | _ => evLoad i hp x fun s => k s hp)
      | none => none) else none
    | _ => none)
  | _, _ => evLoad i hp x fun s => k s hp
def evMakeMap (C : Ctx) (fr : List SV) (i : TI) (n : Option Operand) (hp : List HO) (k : SV → List HO → Option R) : Option R :=
  match i.kind with
  | .map Kt Vt => tinfo C.TT Kt fun ki => tinfo C.TT Vt fun vi => (match keyOf ki, vi.ty with
    | some K, some V => optI C fr n 0 fun _ => snocK hp (.map K V []) fun hp' => k (.mp hp.length) hp'
    | _, _ => none)
  | _ => none
def evMapUpdate (C : Ctx) (i : TI) (m y v : SV) (hp : List HO) (k : SV → List HO → Option R) : Option R :=
  match i.kind, m, y with
  | .map Kt Vt, .mp id, .val t y => tinfo C.TT Kt fun ki => tinfo C.TT Vt fun vi => (match vi.ty with
    | some V => dataF V v hp fun x hp => nthK hp id fun o => (match o with
      | .map K V' es => bif decide (keyOf ki = some K) then (if h : t = K ∧ V' = V then setK hp id (.map K V (mputX K V (h.2 ▸ es) (h.1 ▸ y : K.den) x)) fun hp => k .skip hp else none) else none
      | _ => none)
    | none => none)
  | _, _, _ => none
def isEff : Op → Bool
  | .alloc _ | .box _ _ | .buildSlice _ _ _ | .makeSlice _ _ _ | .store _ _ _ => true
  | .call { callee := .builtin .append, .. } => true
  | .call { callee := .builtin .clear, .. } => true
  | .makeMap _ _ | .mapUpdate _ _ _ _ | .insert _ _ _ _ => true
  | .call { callee := .value _, .. } => true
  | _ => false
def appTo : List Oper → Nat → Bool
  | [], _ => false
  | o :: l, t => (match o.op with
    | .call { callee := .builtin .append, args, .. } => (match args.toList with
      | .tmp u :: _ => Nat.beq u t
      | _ => false)
    | _ => false) || appTo l t
def hasN (n : Nat) : List Nat → Bool
  | [] => false
  | m :: l => Nat.beq n m || hasN n l
def fldAd : List Oper → Nat → Bool
  | [], _ => false
  | o :: l, t => (match o.op, o.dst with
    | .fieldAddr _ _ _, some d => Nat.beq d t
    | _, _ => false) || fldAd l t
def isMv (C : Ctx) (all : List Oper) (o : Oper) : Bool :=
  match C.mv with
  | [] => false
  | m :: l => (match o.op, o.dst with
    | .load T (.tmp t), some d => hasN T (m :: l) && (appTo all d && !fldAd all t)
    | _, _ => false)
def isEffX (C : Ctx) (all : List Oper) (o : Oper) : Bool := isEff o.op || isMv C all o
def evEff (C : Ctx) (Γ : List Con) (fr : List SV) (hp : List HO) (op : Op) (k : SV → List HO → Option R) : Option R :=
  match op with
  | .alloc T => tinfo C.TT T fun i => snocK hp (.cells i.zero) fun hp' => k (.ptr hp.length 0) hp'
  | .box _ x => opd C fr x fun s => s.cellsK fun l => snocK hp (.cells l) fun hp' => k (.ptr hp.length 0) hp'
  | .buildSlice T n parts => tinfo C.TT T fun i => (match i.kind with
    | .slice E => tinfo C.TT E fun ei => (match C.el E ei with
      | some t => bif elemOk ei t && Nat.ble (n * ei.size) 16777216 then
          (repK t.dflt n fun xs => elemsK C fr t parts.toList xs hp fun xs hp => snocK hp (.arr E t xs) fun hp' => k (.own hp.length none) hp') else none
      | none => none)
    | _ => none)
  | .makeSlice T l c => tinfo C.TT T fun i => (match i.kind with
    | .slice E => tinfo C.TT E fun ei => (match C.el E ei with
      | some t => bif elemOk ei t then (opd C fr l fun l => asI l fun l => opd C fr c fun c => asI c fun c =>
          if 0 ≤ l ∧ l ≤ c ∧ roomOk c.toNat ei.bytes then snocK hp (.arr E t (List.replicate l.toNat t.dflt)) fun hp' => k (.own hp.length none) hp' else none) else none
      | none => none)
    | _ => none)
  | .store T x v => tinfo C.TT T fun i => opd C fr x fun x => opd C fr v fun v => evStore i x v hp k
  | .call { callee := .builtin .append, args, argTypes } => (match args.toList, argTypes.toList with
    | [s, x], [T, T'] => bif Nat.beq T T' then tinfo C.TT T fun i => (match i.kind with
      | .slice E => tinfo C.TT E fun ei => opd C fr s fun s => opd C fr x fun x => evAppend C E ei s x hp k
      | _ => none) else none
    | _, _ => none)
  | .call { callee := .builtin .clear, args, argTypes } => (match args.toList, argTypes.toList with
    | [x], [T] => tinfo C.TT T fun i => (match i.kind with
      | .slice E => tinfo C.TT E fun ei => opd C fr x fun x => evClear C E ei x hp k
      | _ => none)
    | _, _ => none)
  | .makeMap T n => tinfo C.TT T fun i => evMakeMap C fr i n hp k
  | .mapUpdate T m y v => tinfo C.TT T fun i => opd C fr m fun m => opd C fr y fun y => opd C fr v fun v => evMapUpdate C i m y v hp k
  | .insert T m y v => tinfo C.TT T fun i => opd C fr m fun m => opd C fr y fun y => opd C fr v fun v => evMapUpdate C i m y v hp k
  | .load T x => tinfo C.TT T fun i => opd C fr x fun x => evMove i hp x k
  | .call { callee := .value x, args, .. } => callK C Γ fr x args.toList fun c vs => evCon c vs hp k
  | _ => none
def putD (fr : List SV) (d : Option Tmp) (s : SV) (k : List SV → Option R) : Option R :=
  match d with
  | some t => setK fr t s k
  | none => k fr
def dstOf : List Oper → Nat → Option Tmp
  | [], _ => none
  | o :: _, 0 => o.dst
  | _ :: l, n + 1 => dstOf l n
def evOne (C : Ctx) (Γ : List Con) (all : List Oper) (fr : List SV) (hp : List HO) (o : Oper) (k : List SV → List HO → Option R) : Option R :=
  bif isEffX C all o then evEff C Γ fr hp o.op fun s hp => putD fr o.dst s fun fr => thawK hp fr fun fr => k fr hp
  else evPure C fr hp o.op fun s => thawS hp s fun s => putD fr o.dst s fun fr => k fr hp
def evOps (C : Ctx) (Γ : List Con) (all : List Oper) : List Oper → List SV → List HO → (List SV → List HO → Option R) → Option R
  | [], fr, hp, k => k fr hp
  | o :: os, fr, hp, k => match o.guard with
    | none => evOne C Γ all fr hp o fun fr hp => evOps C Γ all os fr hp k
    | some (j, want) => (match dstOf all j with
      | none => none
      | some d => nthK fr d fun s => (match s with
        | .bit b => bif b == want then evOne C Γ all fr hp o fun fr hp => evOps C Γ all os fr hp k else putD fr o.dst .skip fun fr => evOps C Γ all os fr hp k
        | .skip => putD fr o.dst .skip fun fr => evOps C Γ all os fr hp k
        | .val .bool c => (if c = true
          then setK fr d (.bit true) fun fr => (bif want then evOne C Γ all fr hp o fun fr hp => evOps C Γ all os fr hp k else putD fr o.dst .skip fun fr => evOps C Γ all os fr hp k)
          else setK fr d (.bit false) fun fr => (bif want then putD fr o.dst .skip fun fr => evOps C Γ all os fr hp k else evOne C Γ all fr hp o fun fr hp => evOps C Γ all os fr hp k))
        | _ => none))
def Ty.plain : Ty → Bool
  | .sl _ | .osl _ | .arr _ _ => false
  | .pair a b => a.plain && b.plain
  | .st f => f.plain
  | _ => true
def plainSh : List Sh → Bool
  | [] => true
  | .hole t :: l => t.plain && (t.isAgg || Nat.beq t.size 1) && plainSh l
  | _ :: _ => false
def quietCon (c : Con) : Bool := (match c.sig.ins.objs, c.sig.outs.objs with | [], [] => true | _, _ => false) && plainSh c.sig.outs.slots
def evConQ (c : Con) (args : List SV) (hp : List HO) (k : SV → Option R) : Option R :=
  bif quietCon c then pack 0 c.sig.ins args hp fun ds _ _ => toTup c.sig.ins.tys ds fun x =>
    (c.F x).bind fun r => buildL [] c.sig.outs.slots (ofTup _ r) fun vs _ => k (resSV vs)
  else none
def evQuiet (C : Ctx) (Γ : List Con) (fr : List SV) (hp : List HO) (o : Oper) (k : List SV → Option R) : Option R :=
  match o.op with
  | .call { callee := .value x, args, .. } => callK C Γ fr x args.toList fun c vs => evConQ c vs hp fun s => putD fr o.dst s k
  | op => bif isEff op then none else evPure C fr hp op fun s => putD fr o.dst s k
def evOpsQ (C : Ctx) (Γ : List Con) (all : List Oper) : List Oper → List SV → List HO → (List SV → Option R) → Option R
  | [], fr, _, k => k fr
  | o :: os, fr, hp, k => match o.guard with
    | none => evQuiet C Γ fr hp o fun fr => evOpsQ C Γ all os fr hp k
    | some (j, want) => (match dstOf all j with
      | none => none
      | some d => nthK fr d fun s => (match s with
        | .bit b => bif b == want then evQuiet C Γ fr hp o fun fr => evOpsQ C Γ all os fr hp k else putD fr o.dst .skip fun fr => evOpsQ C Γ all os fr hp k
        | .skip => putD fr o.dst .skip fun fr => evOpsQ C Γ all os fr hp k
        | .val .bool c => (if c = true
          then setK fr d (.bit true) fun fr => (bif want then evQuiet C Γ fr hp o fun fr => evOpsQ C Γ all os fr hp k else putD fr o.dst .skip fun fr => evOpsQ C Γ all os fr hp k)
          else setK fr d (.bit false) fun fr => (bif want then putD fr o.dst .skip fun fr => evOpsQ C Γ all os fr hp k else evQuiet C Γ fr hp o fun fr => evOpsQ C Γ all os fr hp k))
        | _ => none))
mutual
/-- Data alone: no object is named. -/
def SV.isD : SV → Bool
  | .val _ _ | .bit _ | .ub _ _ | .nils | .nil0 | .nilp | .und | .skip | .ro _ _ => true
  | .agg l => allD l
  | .tup l => allD l
  | .fn _ l => allD l
  | _ => false
def allD : List SV → Bool
  | [] => true
  | s :: l => s.isD && allD l
end
def frzS (s : SV) (hp : List HO) (k : SV → List HO → Option R) : Option R :=
  match s with
  | .own id len => nthK hp id fun o => (match o with
    | .arr _ t xs => bif t.noOwn then setK hp id (.fro t xs) fun hp => k (.val (.sl t) (takeO xs len)) hp else setK hp id (.fro t.er (xs.map t.erD)) fun hp => k (.val (.sl t.er) (takeO (xs.map t.erD) len)) hp
    | .fro t xs => k (.val (.sl t) (takeO xs len)) hp
    | _ => none)
  | s => k s hp
def frzL : List SV → List HO → (List SV → List HO → Option R) → Option R
  | [], hp, k => k [] hp
  | s :: l, hp, k => frzS s hp fun s hp => frzL l hp fun l hp => k (s :: l) hp
def frzR (s : SV) (hp : List HO) (k : SV → List HO → Option R) : Option R :=
  match s with
  | .tup l => frzL l hp fun l hp => k (.tup l) hp
  | s => frzS s hp k
def idList : Nat → Nat → List Nat
  | 0, _ => []
  | n + 1, i => i :: idList n (i + 1)
def packD (c : Con) (args : List SV) : Option (Tup c.sig.ins.tys) := pack (R := Tup c.sig.ins.tys) 0 c.sig.ins args [] fun ds _ _ => toTup c.sig.ins.tys ds some
def noIns (c : Con) : Bool := match c.sig.ins.objs with
  | [] => true
  | _ => false
def evConD (c : Con) (args : List SV) (k : SV → Option R) : Option R :=
  bif noIns c && allD args then withO (packD c args) fun x => (c.F x).bind fun y => build (idList c.sig.outs.objs.length 0) c.sig.outs (ofTup _ y) fun vs hos =>
    withO (frzR (resSV vs) hos fun s _ => some s) fun s => bif s.isD then k s else none
  else none
def evD0 (C : Ctx) (Γ : List Con) (fr : List SV) (hp : List HO) (o : Oper) (k : SV → Option R) : Option R :=
  match o.op with
  | .call { callee := .value x, args, .. } => callK C Γ fr x args.toList fun c vs => evConD c vs k
  | op => bif isEff op then (bif allD fr then withO (evEff C Γ fr [] op fun s hp' => frzR s hp' fun s _ => some s) fun s => bif s.isD then k s else none else none)
    else evPure C fr hp op k
def tmpsIn : List Operand → List Tmp
  | [] => []
  | .tmp t :: l => t :: tmpsIn l
  | _ :: l => tmpsIn l
def showK (fr : List SV) : List SV → List Tmp → (List SV → Option R) → Option R
  | u, [], k => k u
  | u, t :: ts, k => nthK fr t fun s => setK u t s fun u => showK fr u ts k
def undL : List SV → List SV
  | [] => []
  | _ :: l => .und :: undL l
def evD (C : Ctx) (Γ : List Con) (fr : List SV) (hp : List HO) (o : Oper) (k : SV → Option R) : Option R :=
  showK fr (undL fr) (tmpsIn o.op.operands.toList) fun fr' => evD0 C Γ fr' hp o k
def isGuardB : List Oper → Nat → Bool
  | [], _ => false
  | o :: l, i => (match o.guard with
    | some (j, _) => Nat.beq j i
    | none => false) || isGuardB l i
def splitK (g : Bool) (s : SV) (k : SV → Option R) : Option R :=
  match g, s with
  | true, .val .bool c => if c = true then k (.bit true) else k (.bit false)
  | _, s => k s
def evOpsD (C : Ctx) (Γ : List Con) (all : List Oper) : Nat → List Oper → List SV → List HO → (List SV → Option R) → Option R
  | _, [], fr, _, k => k fr
  | i, o :: os, fr, hp, k => match o.guard with
    | none => evD C Γ fr hp o fun s => splitK (isGuardB all i) s fun s => putD fr o.dst s fun fr => evOpsD C Γ all (i + 1) os fr hp k
    | some (j, want) => (match dstOf all j with
      | none => none
      | some d => nthK fr d fun s => (match s with
        | .bit b => bif b == want then evD C Γ fr hp o fun s => splitK (isGuardB all i) s fun s => putD fr o.dst s fun fr => evOpsD C Γ all (i + 1) os fr hp k
          else putD fr o.dst .skip fun fr => evOpsD C Γ all (i + 1) os fr hp k
        | .skip => putD fr o.dst .skip fun fr => evOpsD C Γ all (i + 1) os fr hp k
        | _ => none))
def yielder : List Oper → Nat → Tmp → Option Nat
  | [], _, _ => none
  | o :: l, i, t => match o.dst with
    | some d => bif Nat.beq d t then some i else yielder l (i + 1) t
    | none => yielder l (i + 1) t
def looksAtD (all : List Oper) (o : Oper) : List Tmp :=
  match o.guard with
  | none => tmpsIn o.op.operands.toList
  | some (j, _) => match dstOf all j with
    | some d => d :: tmpsIn o.op.operands.toList
    | none => tmpsIn o.op.operands.toList
def waits (i : Nat) : List Edge → Bool
  | [] => false
  | e :: l => (Region.binds .any e && Nat.beq e.on i) || waits i l
def usesOk (all : List Oper) (o : Oper) (j : Nat) : List Tmp → Bool
  | [] => true
  | t :: l => (match yielder all 0 t with
    | none => true
    | some i => Nat.ble (i + 1) j && waits i o.after.toList) && usesOk all o j l
def edgesOk (j : Nat) : List Edge → Bool
  | [] => true
  | e :: l => (!Region.binds .any e || Nat.ble (e.on + 1) j) && edgesOk j l
def drawFrom (all : List Oper) : Nat → List Oper → Bool
  | _, [] => true
  | j, o :: os => (match o.dst with
      | some d => (match yielder all 0 d with
        | some i => Nat.beq i j
        | none => false)
      | none => true) && (edgesOk j o.after.toList && (usesOk all o j (looksAtD all o) && drawFrom all (j + 1) os))
def drawB (ops : Array Oper) : Bool := drawFrom ops.toList 0 ops.toList
def frzO : List Nat → List HO → (List HO → Option R) → Option R
  | [], hp, k => k hp
  | i :: l, hp, k => bif Nat.ble 1000000 i then nthK hp (i - 1000000) fun o => (match o with
    | .arr T t xs => bif t.noOwn then setK hp (i - 1000000) (.tk T t xs) fun hp => frzO l hp k else none
    | _ => none) else nthK hp i fun o => (match o with
    | .arr _ t xs => bif t.noOwn then setK hp i (.fro t xs) fun hp => frzO l hp k else setK hp i (.fro t.er (xs.map t.erD)) fun hp => frzO l hp k
    | _ => none)
def catN : List Nat → List Nat → List Nat
  | [], m => m
  | t :: l, m => t :: catN l m
mutual
def SV.ids : SV → List Nat
  | .own i _ => [i]
  | .ptr i _ => [i]
  | .elt i _ _ _ => [i]
  | .vw i _ _ _ => [i]
  | .mp i => [i]
  | .agg l => idsL l
  | .tup l => idsL l
  | .fn _ l => idsL l
  | _ => []
def idsL : List SV → List Nat
  | [] => []
  | s :: l => catN s.ids (idsL l)
end
def memN (n : Nat) : List Nat → Bool
  | [] => false
  | m :: l => bif Nat.beq n m then true else memN n l
def reachK (hp : List HO) : Nat → List Nat → List Nat → (List Nat → Option R) → Option R
  | 0, _, seen, k => k seen
  | _ + 1, [], seen, k => k seen
  | n + 1, i :: todo, seen, k => bif memN i seen then reachK hp n todo seen k else (match hp[i]? with
    | some (.cells l) => reachK hp n (catN (idsL l) todo) (i :: seen) k
    | _ => reachK hp n todo (i :: seen) k)
def maskK (T : List Nat) : Nat → List HO → (List HO → Option R) → Option R
  | _, [], k => k []
  | i, o :: l, k => bif memN i T then maskK T (i + 1) l fun l => k (o :: l) else maskK T (i + 1) l fun l => k (.gone :: l)
def Ty.weak : (t : Ty) → t.den → t.den
  | .osl _, x => (false, x.2)
  | .arr _ e, xs => xs.map e.weak
  | .pair a b, x => (a.weak x.1, b.weak x.2)
  | .st f, x => f.weak x
  | .int _, x => x
  | .bool, x => x
  | .str, x => x
  | .flt, x => x
  | .cplx, x => x
  | .unit, x => x
  | .sl _, x => x
def HO.weak : HO → HO
  | .arr T t xs => bif t.noOwn then .arr T t xs else .arr T t (xs.map (Ty.weak t))
  | o => o
def weakK : List HO → (List HO → Option R) → Option R
  | [], k => k []
  | o :: l, k => weakK l fun l => k (o.weak :: l)
def turnedN (mv : Bool) (T new : List Nat) : List Nat := bif mv then new else catN T new
def mergeK (T : List Nat) : Nat → List HO → List HO → (List HO → Option R) → Option R
  | _, [], l', k => k l'
  | i, o :: l, o' :: l', k => bif memN i T then mergeK T (i + 1) l l' fun l => k (o' :: l) else mergeK T (i + 1) l l' fun l => k (o :: l)
  | _, _ :: _, [], _ => none
def padK : Nat → List HO → (List HO → Option R) → Option R
  | 0, l, k => k l
  | n + 1, [], k => padK n [] fun l => k (.gone :: l)
  | n + 1, o :: l, k => padK n l fun l => k (o :: l)
def bitN (b i : Nat) : Bool := Nat.beq (Nat.land (Nat.shiftRight b i) 1) 1
def apartN : List Nat → List Nat → Bool
  | [], _ => true
  | i :: l, m => bif memN i m then false else apartN l m
def okC (anc : Nat) (T : List Nat) : List (Nat × List Nat) → Bool
  | [] => true
  | (m, U) :: l => (bitN anc m || apartN T U) && okC anc T l
def readsH : Op → Bool
  | .load _ _ | .slice _ _ _ _ _ | .indexAddr _ _ _ | .lookup _ _ _ _ => true
  | .call _ => true
  | _ => false
def idsRange : Nat → Nat → List Nat
  | _, 0 => []
  | i, n + 1 => i :: idsRange (i + 1) n
def nthN : List Nat → Nat → Nat
  | [], _ => 0
  | x :: _, 0 => x
  | _ :: l, n + 1 => nthN l n
structure Acc where
  hp : List HO
  cs : List (Nat × List Nat)
  ps : List (Nat × List Nat)
def evFloat (C : Ctx) (Γ : List Con) (fr : List SV) (op : Op) (k : SV → Option R) : Option R :=
  match op with
  | .call { callee := .value x, args, .. } => callK C Γ fr x args.toList fun c vs => evConD c vs k
  | op => bif allD fr then withO (evEff C Γ fr [] op fun s hp' => frzR s hp' fun s _ => some s) fun s => bif s.isD then k s else none else none
def subN : List Nat → List Nat → Bool
  | [], _ => true
  | i :: l, m => bif memN i m then subN l m else false
def objIds : List HO → List Nat
  | [] => []
  | .cells l :: os => catN (idsL l) (objIds os)
  | _ :: os => objIds os
def quietF (c : Con) : Bool := noIns c && ((match c.sig.outs.objs with | [] => true | _ => false) && (flatSh c.sig.outs.slots && wfSh 0 c.sig.outs.slots))
def isQuietOp (C : Ctx) (Γ : List Con) (fr : List SV) (op : Op) : Bool :=
  match op with
  | .call { callee := .value x, args, .. } => (match callK C Γ fr x args.toList fun c _ => some (quietF c) with
    | some b => b
    | none => false)
  | _ => false
def evConF (c : Con) (args : List SV) (hp : List HO) (k : SV → Option R) : Option R :=
  bif quietF c then pack 0 c.sig.ins args hp fun ds _ _ => toTup c.sig.ins.tys ds fun x => (c.F x).bind fun y => buildL [] c.sig.outs.slots (ofTup _ y) fun vs _ => k (resSV vs) else none
def evCallF (C : Ctx) (Γ : List Con) (fr : List SV) (hp : List HO) (op : Op) (k : SV → Option R) : Option R :=
  match op with
  | .call { callee := .value x, args, .. } => callK C Γ fr x args.toList fun c vs => evConF c vs hp k
  | _ => none
def effK (hp : List HO) (fr : List SV) (op : Op) (k : List Nat → Option R) : Option R :=
  match op with
  | .store _ (.tmp a) _ => (match fr[a]? with
    | some (.ptr id _) => k [id]
    | _ => reachK hp 1000 (idsL fr) [] k)
  | _ => reachK hp 1000 (idsL fr) [] k
def evE (C : Ctx) (Γ : List Con) (all : List Oper) (N : Nat) (fl : List Nat) (a i : Nat) (fr : List SV) (h : Acc) (o : Oper) (k : SV → Acc → Option R) : Option R :=
  showK fr (undL fr) (tmpsIn o.op.operands.toList) fun fr' =>
    bif isEffX C all o then
      (bif isQuietOp C Γ fr' o.op then reachK h.hp 1000 (idsL fr') [] fun T => bif okC a T h.cs then maskK T 0 h.hp fun hm => padK N hm fun hm => weakK hm fun hm => thawK hm fr' fun fr2 => evCallF C Γ fr2 hm o.op fun s =>
        bif subN s.ids [] then k s { h with ps := (i, T) :: h.ps } else none else none
      else bif memN i fl then evFloat C Γ fr' o.op fun s => k s h
      else effK h.hp fr' o.op fun T => maskK T 0 h.hp fun hm => thawK hm fr' fun fr' => evEff C Γ fr' hm o.op fun s hp' =>
        bif Nat.ble h.hp.length hp'.length && (Nat.ble hp'.length N && okC a (turnedN (!isEff o.op) T (idsRange h.hp.length (hp'.length - h.hp.length))) h.ps) then
          mergeK T 0 h.hp hp' fun hp2 => k s { h with hp := hp2, cs := (i, turnedN (!isEff o.op) T (idsRange h.hp.length (hp'.length - h.hp.length))) :: h.cs } else none)
    else bif readsH o.op then
      (bif okC a (idsL fr') h.cs then maskK (idsL fr') 0 h.hp fun hm => padK N hm fun hm => weakK hm fun hm => thawK hm fr' fun fr2 => evPure C fr2 hm o.op fun s =>
        bif subN s.ids (catN (idsL fr') (objIds hm)) then k s { h with ps := (i, idsL fr') :: h.ps } else none else none)
    else padK N [] fun hm => evPure C fr' hm o.op fun s => bif subN s.ids (idsL fr') then k s h else none
def evOpsE (C : Ctx) (Γ : List Con) (all : List Oper) (N : Nat) (fl anc : List Nat) : Nat → List Oper → List SV → Acc → (List SV → List HO → Option R) → Option R
  | _, [], fr, h, k => thawK h.hp fr fun fr => k fr h.hp
  | i, o :: os, fr, h, k => match o.guard with
    | none => evE C Γ all N fl (nthN anc i) i fr h o fun s h => splitK (isGuardB all i) s fun s => putD fr o.dst s fun fr => evOpsE C Γ all N fl anc (i + 1) os fr h k
    | some (j, want) => (match dstOf all j with
      | none => none
      | some d => nthK fr d fun s => (match s with
        | .bit b => bif b == want then evE C Γ all N fl (nthN anc i) i fr h o fun s h => splitK (isGuardB all i) s fun s => putD fr o.dst s fun fr => evOpsE C Γ all N fl anc (i + 1) os fr h k
          else putD fr o.dst .skip fun fr => evOpsE C Γ all N fl anc (i + 1) os fr h k
        | .skip => putD fr o.dst .skip fun fr => evOpsE C Γ all N fl anc (i + 1) os fr h k
        | _ => none))
def ancOf (anc : List Nat) : List Edge → Nat
  | [] => 0
  | e :: l => bif Region.binds .any e then Nat.lor (Nat.lor (Nat.shiftLeft 1 e.on) (nthN anc e.on)) (ancOf anc l) else ancOf anc l
def ancOk (anc : List Nat) : Nat → List Oper → Bool
  | _, [] => true
  | j, o :: os => Nat.beq (nthN anc j) (ancOf anc o.after.toList) && ancOk anc (j + 1) os
def chainOk (C : Ctx) (all : List Oper) (fl anc : List Nat) : Nat → Option Nat → List Oper → Bool
  | _, _, [] => true
  | j, p, o :: os => bif isEffX C all o && !memN j fl then (match p with
      | none => true
      | some i => bitN (nthN anc j) i) && chainOk C all fl anc (j + 1) (some j) os
    else chainOk C all fl anc (j + 1) p os
def effB (C : Ctx) (fl anc : List Nat) (ops : Array Oper) : Bool := drawB ops && (ancOk anc 0 ops.toList && chainOk C ops.toList fl anc 0 none ops.toList)
def addE (f : Nat) : Nat → List Oper → List Oper
  | _, [] => []
  | 0, o :: l => { o with after := (o.after.toList ++ [(Edge.mk f Ground.data)]).toArray } :: l
  | n + 1, o :: l => o :: addE f n l
def renE (inv : List Nat) (e : Edge) : Edge := Edge.mk (nthN inv e.on) e.ground
def renO (inv : List Nat) (o : Oper) : Oper := { o with after := (o.after.toList.map (renE inv)).toArray, guard := o.guard.map fun p => (nthN inv p.1, p.2) }
def permE (inv : List Nat) (l : List Oper) (perm : List Nat) : List Oper := perm.map fun i => renO inv (l.getD i default)
def permB (n : Nat) (perm inv : List Nat) : Bool :=
  Nat.beq perm.length n && ((List.range n).all fun i => Nat.ble (nthN inv i + 1) n && (Nat.beq (nthN perm (nthN inv i)) i && (Nat.ble (nthN perm i + 1) n && Nat.beq (nthN inv (nthN perm i)) i)))
def edgesIn (n : Nat) (l : List Oper) : Bool := l.all fun o => (o.after.toList.all fun e => !Region.binds .any e || Nat.ble (e.on + 1) n) && (match o.guard with
  | none => true
  | some (j, _) => Nat.ble (j + 1) n)
def calmOp (o : Oper) : Bool :=
  match o.op with
  | .move _ => true
  | .assign _ => true
  | .makeSlice _ _ _ => true
  | .call { callee := .builtin .len, .. } => true
  | _ => false
def calmO (f g : Nat) : Nat → List Oper → Bool
  | _, [] => true
  | j, o :: l => (Nat.beq j f || Nat.beq j g || calmOp o) && calmO f g (j + 1) l
def lastK : List Oper → Option (List Oper × Oper)
  | [] => none
  | [o] => some ([], o)
  | o :: p :: l => match lastK (p :: l) with
    | some (b, q) => some (o :: b, q)
    | none => none
def sinkL : Nat → Oper → Bool
  | 0, _ => true
  | m + 1, o => waits m o.after.toList && sinkL m o
def guardsIn (n : Nat) : List Oper → Bool
  | [] => true
  | o :: l => (match o.guard with
    | some (j, _) => Nat.ble (j + 1) n
    | none => true) && guardsIn n l
def efflB (C : Ctx) (fl anc : List Nat) (b : List Oper) (o : Oper) : Bool := effB C fl anc b.toArray && (sinkL b.length o && (o.guard.isNone && (guardsIn b.length b && edgesOk b.length o.after.toList)))
inductive Lv where
  | normal
  | exit (id : Nat)
  | ret
  | goto (l : Nat)
  | panic (T : TypeId)
def Lv.same : Lv → Lv → Bool
  | .normal, .normal => true
  | .exit i, .exit j => Nat.beq i j
  | .ret, .ret => true
  | .goto i, .goto j => Nat.beq i j
  | _, _ => false
structure Jn where
  lv : Lv
  tmps : List (Nat × Sh)
  objs : List OSh
def Jn.skel (j : Jn) : Skel := { slots := j.tmps.map (·.2), objs := j.objs }
@[reducible] def SumT : List Jn → Type
  | [] => Empty
  | [j] => Tup j.skel.tys
  | j :: i :: l => Tup j.skel.tys ⊕ SumT (i :: l)
inductive Ann where
  | leaf
  | tail (n : Nat)
  | seq (a b : Ann)
  | cond (a b : Ann)
  | block (a : Ann)
  | loop (hd : Jn) (js : List Jn) (a : Ann)
  | join (js : List Jn) (a : Ann)
  | draw
  | fro (ids : List Nat) (a : Ann)
  | eff (N : Nat) (fl anc : List Nat)
  | effl (N : Nat) (fl anc : List Nat)
  | eff2 (f g N : Nat) (an1 an2 perm inv : List Nat)
  | scope (l : Nat) (hd : Jn) (js : List Jn) (a b : Ann)
  | scope2 (hs js : List Jn) (a b1 b2 : Ann)
  | callp (n : Nat)
  | throw
def fetch (fr : List SV) : List (Nat × Sh) → (List SV → Option R) → Option R
  | [], k => k []
  | (t, _) :: l, k => nthK fr t fun s => fetch fr l fun ss => k (s :: ss)
def lay (fr : List SV) : List (Nat × Sh) → List SV → (List SV → Option R) → Option R
  | [], _, k => k fr
  | (t, _) :: l, s :: ss, k => setK fr t s fun fr => lay fr l ss k
  | _ :: _, [], _ => none
def forget (fr : List SV) : List Tmp → (List SV → Option R) → Option R
  | [], k => k fr
  | t :: l, k => setK fr t .und fun fr => forget fr l k
def opsDst : List Oper → List Tmp
  | [] => []
  | o :: l => match o.dst with
    | some t => t :: opsDst l
    | none => opsDst l
def asg : Code → List Tmp
  | .region _ ops _ => opsDst ops.toList
  | .seq a b => catN (asg a) (asg b)
  | .cond (.tmp t) a b => t :: catN (asg a) (asg b)
  | .cond _ a b => catN (asg a) (asg b)
  | .block _ c => asg c
  | .loop c => asg c
  | .scope c => asg c
  | .rangeFunc _ ps a c => catN ps.toList (catN (asg a) (asg c))
  | _ => []
def packJ (n0 : Nat) (j : Jn) (fr : List SV) (hp : List HO) (k : Tup j.skel.tys → Option R) : Option R :=
  bif Nat.ble n0 j.objs.length then fetch fr j.tmps fun vs => pack n0 j.skel vs hp fun ds _ _ => toTup j.skel.tys ds k else none
def openJ (j : Jn) (fr : List SV) (x : Tup j.skel.tys) (k : List SV → List HO → Option R) : Option R :=
  build (idList j.objs.length 0) j.skel (ofTup _ x) fun vs hos => lay fr j.tmps vs fun fr => k fr hos
def leaveK (n0 : Nat) : (js : List Jn) → Lv → List SV → List HO → (SumT js → Option R) → Option R
  | [], _, _, _, _ => none
  | [j], lv, fr, hp, k => bif j.lv.same lv then withO (packJ n0 j fr hp some) k else none
  | j :: i :: l, lv, fr, hp, k => bif j.lv.same lv then withO (packJ n0 j fr hp some) fun x => k (.inl x) else leaveK n0 (i :: l) lv fr hp fun x => k (.inr x)
structure Ks (R : Type) where
  n : List SV → List HO → Option R
  e : Nat → List SV → List HO → Option R
  r : List SV → List HO → Option R
  g : Nat → List SV → List HO → Option R := fun _ _ _ => none
  p : TypeId → (t : Ty) → t.den → Option R := fun _ _ _ => none
def Ks.at (K : Ks R) : Lv → List SV → List HO → Option R
  | .normal => K.n
  | .exit i => K.e i
  | .ret => K.r
  | .goto l => K.g l
  | .panic _ => fun _ _ => none
def leaveP (T : TypeId) (t : Ty) (d : t.den) : (js : List Jn) → (SumT js → Option R) → Option R
  | [], _ => none
  | [j], k => (match j.lv with
    | .panic T' => bif Nat.beq T' T then toTup j.skel.tys [⟨t, d⟩] k else none
    | _ => none)
  | j :: i :: l, k => (match j.lv with
    | .panic T' => bif Nat.beq T' T then toTup j.skel.tys [⟨t, d⟩] (fun x => k (.inl x)) else leaveP T t d (i :: l) fun x => k (.inr x)
    | _ => leaveP T t d (i :: l) fun x => k (.inr x))
def goP (K : Ks R) (T : TypeId) : List DV → Option R
  | [d] => K.p T d.t d.x
  | _ => none
def goJ (K : Ks R) (fr : List SV) (j : Jn) (x : Tup j.skel.tys) : Option R :=
  match j.lv with
  | .panic T => goP K T (ofTup _ x)
  | lv => openJ j fr x (K.at lv)
def goOn (K : Ks R) (fr : List SV) : (js : List Jn) → SumT js → Option R
  | [], _ => none
  | [j], x => goJ K fr j x
  | j :: i :: l, x => Sum.elim (fun x => goJ K fr j x) (fun x => goOn K fr (i :: l) x) x
def iterN {S E : Type} (f : S → Option (S ⊕ E)) : Nat → S → Option E
  | 0, _ => none
  | n + 1, s => match f s with
    | none => none
    | some (.inl s') => iterN f n s'
    | some (.inr e) => some e
open Classical in
noncomputable def iter {S E : Type} (f : S → Option (S ⊕ E)) (s : S) : Option E :=
  if h : ∃ n e, iterN f n s = some e then iterN f h.choose s else none
open Classical in
noncomputable def agree {R : Type} (x y : Option R) : Option R := if x = y then x else none
theorem agree_some {R : Type} {x y : Option R} {r : R} (h : agree x y = some r) : x = some r ∧ y = some r := by
  unfold agree at h
  split at h
  case isTrue e => exact ⟨h, e ▸ h⟩
  case isFalse => cases h
def isFst : List Jn → Nat → Bool
  | [], _ => false
  | j :: _, i => j.lv.same (.goto i)
def scK (n0 : Nat) (hs js : List Jn) : Ks (SumT hs ⊕ SumT js) :=
  { n := fun fr hp' => leaveK n0 js .normal fr hp' fun e => some (.inr e)
    e := fun i fr hp' => leaveK n0 js (.exit i) fr hp' fun e => some (.inr e)
    r := fun fr hp' => leaveK n0 js .ret fr hp' fun e => some (.inr e)
    g := fun i fr hp' => leaveK n0 hs (.goto i) fr hp' fun s => some (.inl s)
    p := fun T t d => leaveP T t d js fun e => some (.inr e) }
def scR (x : Code) (hs : List Jn) (f1 f2 : Code → List SV → List HO → Option R) : Ks R :=
  { n := fun _ _ => none, e := fun _ _ _ => none, r := fun _ _ => none
    g := fun i fr hp => (match findLabel x i with
      | none => none
      | some rest => bif isFst hs i then f1 rest fr hp else f2 rest fr hp) }
noncomputable def run (C : Ctx) (Γ : List Con) (Θ : List PCon) : Ann → {R : Type} → Code → List SV → List HO → Ks R → Option R
  | .leaf, _, .skip, fr, hp, K => K.n fr hp
  | .leaf, _, .exit i, fr, hp, K => K.e i fr hp
  | .leaf, _, .ret, fr, hp, K => K.r fr hp
  | .leaf, _, .label _, fr, hp, K => K.n fr hp
  | .leaf, _, .goto l, fr, hp, K => K.g l fr hp
  | .leaf, _, .region _ ops false, fr, hp, K => evOps C Γ ops.toList ops.toList fr hp K.n
  | .leaf, _, .region _ ops true, fr, hp, K => bif Region.lexB .any ops then evOpsQ C Γ ops.toList ops.toList fr hp fun fr => K.n fr hp else none
  | .tail n, _, .region _ ops true, fr, hp, K => bif Region.lexTailB .any ops n then evOpsQ C [] ops.toList (ops.toList.take n) fr hp fun fr => evOps C Γ ops.toList (ops.toList.drop n) fr hp K.n else none
  | .draw, _, .region _ ops true, fr, hp, K => bif drawB ops then evOpsD C Γ ops.toList 0 ops.toList fr hp fun fr => K.n fr hp else none
  | .eff N fl anc, _, .region _ ops true, fr, hp, K => bif effB C fl anc ops && Nat.ble hp.length N then evOpsE C Γ ops.toList N fl anc 0 ops.toList fr ⟨hp, [], []⟩ K.n else none
  | .eff2 f g N an1 an2 perm inv, _, .region _ ops true, fr, hp, K => bif !Nat.beq f g && (calmO f g 0 ops.toList && (permB ops.size perm inv && (edgesIn ops.size (addE g f ops.toList) && (effB C [] an1 (addE f g ops.toList).toArray && (effB C [] an2 (permE inv (addE g f ops.toList) perm).toArray && Nat.ble hp.length N))))) then
      agree (evOpsE C Γ (addE f g ops.toList) N [] an1 0 (addE f g ops.toList) fr ⟨hp, [], []⟩ K.n) (evOpsE C Γ (permE inv (addE g f ops.toList) perm) N [] an2 0 (permE inv (addE g f ops.toList) perm) fr ⟨hp, [], []⟩ K.n) else none
  | .effl N fl anc, _, .region _ ops true, fr, hp, K => (match lastK ops.toList with
    | some (b, o) => bif efflB C fl anc b o && Nat.ble hp.length N then (evOpsE C Γ b N fl anc 0 b fr ⟨hp, [], []⟩ fun fr hp => evOne C Γ ops.toList fr hp o K.n) else none
    | none => none)
  | .fro ids a, _, x, fr, hp, K => frzO ids hp fun hp => thawK hp fr fun fr => run C Γ Θ a x fr hp K
  | .seq a b, _, .seq x y, fr, hp, K => run C Γ Θ a x fr hp { K with n := fun fr hp => run C Γ Θ b y fr hp K }
  | .cond a b, _, .cond c x y, fr, hp, K => (match c with
    | .tmp t => nthK fr t fun s => (match s with
      | .bit true => run C Γ Θ a x fr hp K
      | .bit false => run C Γ Θ b y fr hp K
      | .val .bool c => if c = true then setK fr t (.bit true) fun fr => run C Γ Θ a x fr hp K else setK fr t (.bit false) fun fr => run C Γ Θ b y fr hp K
      | .ub true c => if c = true then agree (setK fr t (.bit true) fun fr => run C Γ Θ a x fr hp K) (setK fr t (.bit false) fun fr => run C Γ Θ b y fr hp K) else setK fr t (.bit false) fun fr => run C Γ Θ b y fr hp K
      | .ub false c => if c = true then agree (setK fr t (.bit true) fun fr => run C Γ Θ a x fr hp K) (setK fr t (.bit false) fun fr => run C Γ Θ b y fr hp K) else setK fr t (.bit true) fun fr => run C Γ Θ a x fr hp K
      | _ => none)
    | .const (.bool true) => run C Γ Θ a x fr hp K
    | .const (.bool false) => run C Γ Θ b y fr hp K
    | _ => none)
  | .block a, _, .block i x, fr, hp, K => run C Γ Θ a x fr hp { K with e := fun j fr hp => bif Nat.beq j i then K.n fr hp else K.e j fr hp }
  | .block a, _, .scope x, fr, hp, K => run C Γ Θ a x fr hp { K with g := fun _ _ _ => none }
  | .join js a, _, x, fr, hp, K => forget fr (asg x) fun fr0 =>
      (run C Γ Θ a (R := SumT js) x fr hp
        { n := fun fr hp' => leaveK hp.length js .normal fr hp' some, e := fun i fr hp' => leaveK hp.length js (.exit i) fr hp' some, r := fun fr hp' => leaveK hp.length js .ret fr hp' some, g := fun i fr hp' => leaveK hp.length js (.goto i) fr hp' some, p := fun T t d => leaveP T t d js some }).bind (goOn K fr0 js)
  | .loop hd js a, _, .loop x, fr, hp, K => forget fr (asg x) fun fr0 => withO (packJ hp.length hd fr hp some) fun s0 =>
      (iter (fun s : Tup hd.skel.tys => openJ hd fr0 s fun fr hp1 => run C Γ Θ a (R := Tup hd.skel.tys ⊕ SumT js) x fr hp1
        { n := fun fr hp' => withO (packJ hp.length hd fr hp' some) fun s => some (.inl s)
          e := fun i fr hp' => leaveK hp.length js (.exit i) fr hp' fun e => some (.inr e)
          r := fun fr hp' => leaveK hp.length js .ret fr hp' fun e => some (.inr e)
          g := fun i fr hp' => leaveK hp.length js (.goto i) fr hp' fun e => some (.inr e)
          p := fun T t d => leaveP T t d js fun e => some (.inr e) }) s0).bind (goOn K fr0 js)
  | .scope l hd js a b, _, .scope x, fr, hp, K => (match findLabel x l with
    | none => none
    | some rest => forget fr (asg x) fun fr0 =>
      ((run C Γ Θ a (R := Tup hd.skel.tys ⊕ SumT js) x fr hp
        { n := fun fr hp' => leaveK hp.length js .normal fr hp' fun e => some (.inr e)
          e := fun i fr hp' => leaveK hp.length js (.exit i) fr hp' fun e => some (.inr e)
          r := fun fr hp' => leaveK hp.length js .ret fr hp' fun e => some (.inr e)
          g := fun i fr hp' => bif Nat.beq i l then withO (packJ hp.length hd fr hp' some) fun s => some (.inl s) else none
          p := fun T t d => leaveP T t d js fun e => some (.inr e) }).bind
        (Sum.elim (fun s0 => iter (fun s : Tup hd.skel.tys => openJ hd fr0 s fun fr hp1 => run C Γ Θ b (R := Tup hd.skel.tys ⊕ SumT js) rest fr hp1
          { n := fun fr hp' => leaveK hp.length js .normal fr hp' fun e => some (.inr e)
            e := fun i fr hp' => leaveK hp.length js (.exit i) fr hp' fun e => some (.inr e)
            r := fun fr hp' => leaveK hp.length js .ret fr hp' fun e => some (.inr e)
            g := fun i fr hp' => bif Nat.beq i l then withO (packJ hp.length hd fr hp' some) fun s => some (.inl s) else none
            p := fun T t d => leaveP T t d js fun e => some (.inr e) }) s0) some)).bind (goOn K fr0 js))
  | .scope2 hs js a b1 b2, _, .scope x, fr, hp, K => forget fr (asg x) fun fr0 =>
      ((run C Γ Θ a (R := SumT hs ⊕ SumT js) x fr hp (scK hp.length hs js)).bind
        (Sum.elim (fun s0 => iter (fun s : SumT hs => goOn (scR x hs (fun rest fr hp1 => run C Γ Θ b1 (R := SumT hs ⊕ SumT js) rest fr hp1 (scK hp.length hs js)) (fun rest fr hp1 => run C Γ Θ b2 (R := SumT hs ⊕ SumT js) rest fr hp1 (scK hp.length hs js))) fr0 hs s) s0) some)).bind (goOn K fr0 js)
  | .callp n, _, .region _ ops false, fr, hp, K => evOps C Γ ops.toList (ops.toList.take n) fr hp fun fr hp => (match ops.toList.drop n with
    | o :: rest => (match o.op, o.guard with
      | .call { callee := .value x, args, .. }, none => callP C Θ fr x args.toList fun c vs => evPCon c vs hp
          (fun s hp => putD fr o.dst s fun fr => thawK hp fr fun fr => evOps C Γ ops.toList rest fr hp K.n) (fun t d _ => K.p c.T t d)
      | _, _ => none)
    | [] => none)
  | .throw, _, .region _ ops false, fr, hp, K => (match lastK ops.toList with
    | some (b, o2) => (match lastK b with
      | some (b, o1) => evOps C Γ ops.toList b fr hp fun fr hp => (match o1.op, o1.dst, o1.guard, o2.op, o2.guard with
        | .makeInterface T x, some d, none, .panic (.tmp d'), none => bif Nat.beq d d' then nthK fr d fun _ => tinfo C.TT T fun i => (match i.ty with
            | some t => bif i.kind.isAgg then opd C fr x fun s => dataF t s hp fun y _ => K.p T t y else none
            | none => none) else none
        | _, _, _, _, _ => none)
      | none => none)
    | none => none)
  | _, _, _, _, _, _ => none
def resTmps (C : Ctx) (hp : List HO) (fr : List SV) : List ResultVar → (List SV → Option R) → Option R
  | [], k => k []
  | .tmp t :: l, k => nthK fr t fun s => resTmps C hp fr l fun ss => k (s :: ss)
  | .cell a T :: l, k => nthK fr a fun s => tinfo C.TT T fun i => evLoad i hp s fun s => resTmps C hp fr l fun ss => k (s :: ss)
noncomputable def runFn (C : Ctx) (Γ : List Con) (sg : Sig) (a : Ann) (fn : Func) (x : Tup sg.ins.tys) : Option (Tup sg.outs.tys) :=
  match fn.body with
  | none => none
  | some c => build (idList sg.ins.objs.length 0) sg.ins (ofTup _ x) fun vs hos =>
      let ret := fun (fr : List SV) (hp : List HO) => resTmps C hp fr fn.results.toList fun rs => pack sg.ins.objs.length sg.outs rs hp fun ds _ _ => toTup sg.outs.tys ds some
      repK SV.skip (fn.ntmps - vs.length) fun sk => run C Γ [] a c (vs ++ sk) hos { n := ret, e := fun _ _ _ => none, r := ret }
noncomputable def runFnP (C : Ctx) (Γ : List Con) (Θ : List PCon) (sg : Sig) (T : TypeId) (t : Ty) (a : Ann) (fn : Func) (x : Tup sg.ins.tys) : Option (Tup sg.outs.tys ⊕ t.den) :=
  match fn.body with
  | none => none
  | some c => build (idList sg.ins.objs.length 0) sg.ins (ofTup _ x) fun vs hos =>
      let ret := fun (fr : List SV) (hp : List HO) => resTmps C hp fr fn.results.toList fun rs => pack sg.ins.objs.length sg.outs rs hp fun ds _ _ => toTup sg.outs.tys ds fun y => some (.inl y)
      repK SV.skip (fn.ntmps - vs.length) fun sk => run C Γ Θ a c (vs ++ sk) hos
        { n := ret, e := fun _ _ _ => none, r := ret, p := fun T' t' d => bif Nat.beq T' T then (if h : t' = t then some (.inr (h ▸ d)) else none) else none }
end
end Go.Sx
