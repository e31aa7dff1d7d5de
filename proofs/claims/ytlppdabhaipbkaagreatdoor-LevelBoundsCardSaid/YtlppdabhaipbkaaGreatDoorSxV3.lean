/- The symbolic evaluator, part V3: operations with effects are told alike, whatever goes on behind. -/
import Derived.Test.YtlppdabhaipbkaaGreatDoorSxV2
set_option linter.unusedVariables false
set_option linter.unusedSimpArgs false
namespace Go.Sx
open Go.RowKit
def CN2 {A B:Type} (m:(R:Type)→(A→B→Option R)→Option R):Prop:= ∀ (R:Type) (k:A→B→Option R),m R k=(m (A×B) fun a b=>some (a,b)).bind fun p=>k p.1 p.2
def CN3 {A B D:Type} (m:(R:Type)→(A→B→D→Option R)→Option R):Prop:= ∀ (R:Type) (k:A→B→D→Option R),m R k=(m (A×B×D) fun a b d=>some (a,b,d)).bind fun p=>k p.1 p.2.1 p.2.2
theorem zI {A B X R:Type} {m:(R:Type)→(A→B→Option R)→Option R} (hm:CN2 m) {f:A→B→Option R} {g:A→B→Option X} {k:X→Option R} (h: ∀ a b,f a b=(g a b).bind k):m R f=(m X g).bind k:=by
 rw[hm R f,hm X g]
 cases m (A×B) (fun a b=>some (a,b)) with
 |none=>rfl
 |some p=>exact h p.1 p.2
theorem qi {A B D X R:Type} {m:(R:Type)→(A→B→D→Option R)→Option R} (hm:CN3 m) {f:A→B→D→Option R} {g:A→B→D→Option X} {k:X→Option R} (h: ∀ a b d,f a b d=(g a b d).bind k):m R f=(m X g).bind k:=by
 rw[hm R f,hm X g]
 cases m (A×B×D) (fun a b d=>some (a,b,d)) with
 |none=>rfl
 |some p=>exact h p.1 p.2.1 p.2.2
theorem zD {X R:Type} {c:Prop} [Decidable c] {a:c→Option R} {a':c→Option X} {b: ¬ c→Option R} {b': ¬ c→Option X} {k:X→Option R} (h1: ∀ h,a h=(a' h).bind k) (h2: ∀ h,b h=(b' h).bind k):(if h:c then a h else b h)=(if h:c then a' h else b' h).bind k:=by
 by_cases h:c
 ·simp only[dif_pos h,h1]
 ·simp only[dif_neg h,h2]
theorem zV {α X R:Type} (l:List α) (n:Nat) (v:α) {f:List α→Option R} {g:List α→Option X} {k:X→Option R} (h: ∀ a,f a=(g a).bind k):jy l n v f=(jy l n v g).bind k:=by
 rw[zm,zm];exact h _
theorem qz {α X R:Type} (l:List α) (v:α) {f:List α→Option R} {g:List α→Option X} {k:X→Option R} (h: ∀ a,f a=(g a).bind k):jr l v f=(jr l v g).bind k:=by
 rw[zW,zW];exact h _
theorem z8 {α X R:Type} (l:List α) (n:Nat) {f:α→Option R} {g:α→Option X} {k:X→Option R} (h: ∀ a,f a=(g a).bind k):qx l n f=(qx l n g).bind k:=
 zg (m:=fun R=>qx (R:=R) l n) (qN l n) h
theorem zbn (t:Ty) (s:SV) (hp:List HO):CN2 fun R=>zlu (R:=R) t s hp:=by
 intro R k
 cases s with
 |val t' x=>exact zf (zD (fun h=>by subst h;rfl) (fun _=>rfl)) (zD (fun h=>by subst h;rfl) (fun _=>rfl))
 |bit b=>cases t<;>rfl
 |nils=>cases t<;>rfl
 |nil0=>cases t<;>rfl
 |own id len=>
  cases t with
  |sl e=>
   show qx hp id _=(qx hp id _).bind _
   refine z8 hp id fun o=> ?_
   cases o with
   |arr T e' xs=>exact zD (fun h=>by subst h;exact zV _ _ _ fun _=>rfl) (fun _=>zD (fun h=>by subst h;exact zV _ _ _ fun _=>rfl) fun _=>rfl)
   |fro e' xs=>exact zD (fun h=>by subst h;rfl) (fun _=>rfl)
   |tk _ e' xs=>exact zD (fun h=>by subst h;rfl) (fun _=>rfl)
   |_=>rfl
  |osl e=>
   refine zf (z8 hp id fun o=> ?_) rfl
   cases o with
   |arr T e' xs=>exact zD (fun h=>by subst h;exact zV _ _ _ fun _=>rfl) (fun _=>rfl)
   |fro e' xs=>exact zD (fun h=>by subst h;rfl) (fun _=>rfl)
   |tk _ e' xs=>exact zD (fun h=>by subst h;exact zV _ _ _ fun _=>rfl) (fun _=>rfl)
   |_=>rfl
  |_=>rfl
 |_=>rfl
theorem zmu {α:Type} {step:(R:Type)→List SV→List HO→(α→List SV→List HO→Option R)→Option R} (hs: ∀ l hp,CN3 fun R=>step R l hp): ∀ (n:Nat) (l:List SV) (hp:List HO),CN3 fun R=>zjl (step R) n l hp
 |0,l,hp=>fun _ _=>rfl
 |n+1,l,hp=>by
  intro R k
  show step R l hp _=(step _ l hp _).bind _
  exact qi (m:=fun R=>step R l hp) (hs l hp) fun x l hp=>qi (m:=fun R=>zjl (step R) n l hp) (zmu hs n l hp) fun xs l hp=>rfl
theorem jU: ∀ (t:Ty) (l:List SV) (hp:List HO),CN3 fun R=>qd (R:=R) t l hp
 | .pair a b,l,hp=>by
  intro R k
  show qd a l hp _=(qd a l hp _).bind _
  exact qi (m:=fun R=>qd (R:=R) a l hp) (jU a l hp) fun x l hp=>qi (m:=fun R=>qd (R:=R) b l hp) (jU b l hp) fun y l hp=>rfl
 | .unit,l,hp=>fun _ _=>rfl
 | .st f,l,hp=>jU f l hp
 | .arr n e,l,hp=>zmu (step:=fun R=>qd (R:=R) e) (fun l hp=>jU e l hp) n l hp
 | .int i, [],hp=>fun _ _=>rfl
 | .int i,s::l,hp=>fun R k=>zI (m:=fun R=>zlu (R:=R) (.int i) s hp) (zbn _ s hp) fun _ _=>rfl
 | .bool, [],hp=>fun _ _=>rfl
 | .bool,s::l,hp=>fun R k=>zI (m:=fun R=>zlu (R:=R) .bool s hp) (zbn _ s hp) fun _ _=>rfl
 | .str, [],hp=>fun _ _=>rfl
 | .str,s::l,hp=>fun R k=>zI (m:=fun R=>zlu (R:=R) .str s hp) (zbn _ s hp) fun _ _=>rfl
 | .flt, [],hp=>fun _ _=>rfl
 | .flt,s::l,hp=>fun R k=>zI (m:=fun R=>zlu (R:=R) .flt s hp) (zbn _ s hp) fun _ _=>rfl
 | .cplx, [],hp=>fun _ _=>rfl
 | .cplx,s::l,hp=>fun R k=>zI (m:=fun R=>zlu (R:=R) .cplx s hp) (zbn _ s hp) fun _ _=>rfl
 | .sl e, [],hp=>fun _ _=>rfl
 | .sl e,s::l,hp=>fun R k=>zI (m:=fun R=>zlu (R:=R) (.sl e) s hp) (zbn _ s hp) fun _ _=>rfl
 | .osl e, [],hp=>fun _ _=>rfl
 | .osl e,s::l,hp=>fun R k=>zI (m:=fun R=>zlu (R:=R) (.osl e) s hp) (zbn _ s hp) fun _ _=>rfl
theorem zp2 (t:Ty) (s:SV) (hp:List HO):CN2 fun R=>zc8 (R:=R) t s hp:=by
 intro R k
 show zc8 t s hp k=(zc8 t s hp _).bind _
 unfold zc8
 split
 ·refine zf (qi (m:=fun R=>qd (R:=R) t _ hp) (jU t _ hp) fun x l hp=> ?_) rfl
  cases l<;>rfl
 ·exact zbn t _ hp R k
section
variable {X R:Type} {C:Ctx} {fr:List SV} {k:X→Option R}
theorem zhf (t:Ty) (s:SV) (hp:List HO) {f:t.den→List HO→Option R} {g:t.den→List HO→Option X} (h: ∀ a b,f a b=(g a b).bind k):zc8 t s hp f=(zc8 t s hp g).bind k:=
 zI (m:=fun R=>zc8 (R:=R) t s hp) (zp2 t s hp) h
theorem zjn (s:SV) {f:List SV→Option R} {g:List SV→Option X} (h: ∀ a,f a=(g a).bind k):s.cellsK f=(s.cellsK g).bind k:=
 zg (m:=fun R=>s.cellsK (R:=R)) (zmt s) h
end
theorem zy9 (t:Ty) (s:SV) (hp:List HO):CN2 fun R=>roF (R:=R) t s hp:=by
 intro R k
 show roF t s hp k=(roF t s hp _).bind _
 unfold roF
 split
 ·exact zD (fun h=>by subst h;rfl) fun _=>rfl
 ·refine zf (z8 hp _ fun o=> ?_) rfl
  cases o with
  |cells l=>
   refine qi (m:=fun R=>qd (R:=R) t l hp) (jU t l hp) fun x l' hp=> ?_
   cases l' with
   |nil=>
    refine z8 hp _ fun o=> ?_
    cases o with
    |cells _=>exact zV _ _ _ fun _=>rfl
    |_=>rfl
   |cons _ _=>rfl
  |frs t' x=>exact zD (fun h=>by subst h;rfl) fun _=>rfl
  |_=>rfl
 ·rfl
theorem zmv (C:Ctx) (fr:List SV) (t:Ty): ∀ (l:List (Nat×Operand)) (xs:List t.den) (hp:List HO),CN2 fun R=>zbt (R:=R) C fr t l xs hp
 | [],xs,hp=>fun _ _=>rfl
 |(i,x)::l,xs,hp=>by
  intro R k
  show zbt C fr t ((i,x)::l) xs hp k=(zbt C fr t ((i,x)::l) xs hp _).bind _
  unfold zbt
  exact zf (zj _ fun s=>zhf t s hp fun y hp=>zV xs i y fun xs=>zI (m:=fun R=>zbt (R:=R) C fr t l xs hp) (zmv C fr t l xs hp) fun _ _=>rfl) rfl
theorem ztf {α:Type} (x:α): ∀ (n:Nat),CN fun R=>zw2 (R:=R) x n
 |0=>fun _ _=>rfl
 |n+1=>fun R k=>zg (m:=fun R=>zw2 (R:=R) x n) (ztf x n) fun _=>rfl
theorem zoq (t:Ty) (s:SV) (hp:List HO):CN fun R=>zsv (R:=R) t s hp:=by
 intro R k
 show zsv t s hp k=(zsv t s hp some).bind k
 unfold zsv
 split
 ·exact zD (fun h=>by subst h;rfl) fun _=>rfl
 ·rfl
 ·rfl
 ·refine z8 hp _ fun o=> ?_
  cases o with
  |arr T e xs=>exact zD (fun h=>by subst h;rfl) fun _=>rfl
  |tk T e xs=>exact zD (fun h=>by subst h;rfl) fun _=>rfl
  |_=>rfl
 ·rfl
theorem ztc {t':Ty}: ∀ (i:Nat) (f:Ty) (x:f.den) (gR:(R:Type)→(u:Ty)→u.den→(u.den→Option R)→Option R),(∀ u z,CN fun R=>gR R u z)→CN fun R=>znv.fsetAux (R:=R) i f x (gR R)
 |0, .pair a b,x,g,hg=>fun R k=>zg (m:=fun R=>g R a x.1) (hg a x.1) fun _=>rfl
 |i+1, .pair a b,x,g,hg=>fun R k=>zg (m:=fun R=>znv.fsetAux (R:=R) i b x.2 (g R)) (ztc (t':=t') i b x.2 g hg) fun _=>rfl
 |0, .int _,x,g,hg=>hg _ _
 |0, .bool,x,g,hg=>hg _ _
 |0, .str,x,g,hg=>hg _ _
 |0, .flt,x,g,hg=>hg _ _
 |0, .cplx,x,g,hg=>hg _ _
 |0, .unit,x,g,hg=>hg _ _
 |0, .sl _,x,g,hg=>hg _ _
 |0, .osl _,x,g,hg=>hg _ _
 |0, .arr _ _,x,g,hg=>hg _ _
 |0, .st _,x,g,hg=>hg _ _
 |_+1, .int _,x,g,hg=>fun _ _=>rfl
 |_+1, .bool,x,g,hg=>fun _ _=>rfl
 |_+1, .str,x,g,hg=>fun _ _=>rfl
 |_+1, .flt,x,g,hg=>fun _ _=>rfl
 |_+1, .cplx,x,g,hg=>fun _ _=>rfl
 |_+1, .unit,x,g,hg=>fun _ _=>rfl
 |_+1, .sl _,x,g,hg=>fun _ _=>rfl
 |_+1, .osl _,x,g,hg=>fun _ _=>rfl
 |_+1, .arr _ _,x,g,hg=>fun _ _=>rfl
 |_+1, .st _,x,g,hg=>fun _ _=>rfl
theorem zop: ∀ (p:List Nat) (t:Ty) (x:t.den) (t':Ty) (y:t'.den),CN fun R=>znv (R:=R) p t x t' y
 | [],t,x,t',y=>fun R k=>zD (fun h=>by subst h;rfl) fun _=>rfl
 |i::p, .st f,x,t',y=>ztc (t':=t') i f x (fun R u z k=>znv p u z t' y k) fun u z=>zop p u z t' y
 |_::_, .int _,_,_,_=>fun _ _=>rfl
 |_::_, .bool,_,_,_=>fun _ _=>rfl
 |_::_, .str,_,_,_=>fun _ _=>rfl
 |_::_, .flt,_,_,_=>fun _ _=>rfl
 |_::_, .cplx,_,_,_=>fun _ _=>rfl
 |_::_, .unit,_,_,_=>fun _ _=>rfl
 |_::_, .sl _,_,_,_=>fun _ _=>rfl
 |_::_, .osl _,_,_,_=>fun _ _=>rfl
 |_::_, .arr _ _,_,_,_=>fun _ _=>rfl
 |_::_, .pair _ _,_,_,_=>fun _ _=>rfl
theorem zrl (i:TI) (x v:SV) (hp:List HO):CN2 fun R=>zby (R:=R) i x v hp:=by
 intro R k
 show zby i x v hp k=(zby i x v hp _).bind _
 unfold zby
 split
 ·refine zjn v fun l'=>zf (z8 hp _ fun o=> ?_) rfl
  cases o with
  |cells l=>exact zf (zV _ _ _ fun _=>rfl) rfl
  |_=>rfl
 ·split
  ·refine zf (zhf _ v hp fun y hp=>z8 hp _ fun o=> ?_) rfl
   cases o with
   |arr T t' xs=>exact zD (fun h=>zg (m:=fun R=>znv (R:=R) _ _ _ _ y) (zop _ _ _ _ y) fun z=>zV _ _ _ fun _=>rfl) fun _=>rfl
   |_=>rfl
  ·rfl
 ·rfl
theorem ztg (t:Ty) (s:SV) (hp:List HO):CN2 fun R=>zvw (R:=R) t s hp:=by
 intro R k
 show zvw t s hp k=(zvw t s hp _).bind _
 unfold zvw
 split
 ·exact zD (fun h=>by subst h;rfl) fun _=>rfl
 ·rfl
 ·rfl
 ·refine z8 hp _ fun o=> ?_
  cases o with
  |arr T e xs=>exact zD (fun h=>by subst h;exact zV _ _ _ fun _=>rfl) fun _=>rfl
  |_=>rfl
 ·rfl
theorem zfx (C:Ctx) (E:TypeId) (ei:TI) (x:SV) (hp:List HO):CN2 fun R=>xD (R:=R) C E ei x hp:=by
 intro R k
 show xD C E ei x hp k=(xD C E ei x hp _).bind _
 unfold xD
 split
 ·exact zf (zf (zg (m:=fun R=>zsv (R:=R) _ x hp) (zoq _ x hp) fun ys=>zM (qz _ _ fun _=>rfl) rfl)
   (zI (m:=fun R=>zvw (R:=R) _ x hp) (ztg _ x hp) fun ys hp=>zM (qz _ _ fun _=>rfl) rfl)) rfl
 ·rfl
theorem zon (C:Ctx) (E:TypeId) (ei:TI) (s x:SV) (hp:List HO):CN2 fun R=>jF (R:=R) C E ei s x hp:=by
 intro R k
 show jF C E ei s x hp k=(jF C E ei s x hp _).bind _
 unfold jF
 split
 ·exact zfx C E ei x hp R k
 ·exact zfx C E ei x hp R k
 ·refine z8 hp _ fun o=> ?_
  cases o with
  |arr E' t xs=>exact zf (zf (zg (m:=fun R=>zsv (R:=R) t x hp) (zoq t x hp) fun ys=>zM (zV _ _ _ fun _=>qz _ _ fun _=>rfl) rfl)
    (zV _ _ _ fun hp1=>zI (m:=fun R=>zvw (R:=R) t x hp1) (ztg t x hp1) fun ys hp2=>zM (qz _ _ fun _=>rfl) rfl)) rfl
  |tk E' t xs=>exact zf (zg (m:=fun R=>zsv (R:=R) t x hp) (zoq t x hp) fun ys=>zM (zV _ _ _ fun _=>qz _ _ fun _=>rfl) rfl) rfl
  |_=>rfl
 ·rfl
theorem zdu (mp:List PM) (j:Nat) (p:PM):CN fun R=>jB (R:=R) mp j p:=by
 intro R k
 show jB mp j p k=(jB mp j p some).bind k
 unfold jB
 refine z8 mp j fun q=> ?_
 cases q with
 |none=>exact zV _ _ _ fun _=>rfl
 |nil=>exact zf rfl rfl
 |id i l=>exact zf rfl rfl
theorem qp: ∀ (ss:List Sh) (vs:List SV) (mp:List PM) (hp:List HO),CN3 fun R=>zR (R:=R) ss vs mp hp
 | [], [],mp,hp=>fun _ _=>rfl
 | [],_::_,mp,hp=>fun _ _=>rfl
 | .hole t::ss, [],mp,hp=>fun _ _=>rfl
 | .own t::ss, [],mp,hp=>fun _ _=>rfl
 | .ptr t _::ss, [],mp,hp=>fun _ _=>rfl
 | .nilp::ss, [],mp,hp=>fun _ _=>rfl
 | .mp _::ss, [],mp,hp=>fun _ _=>rfl
 | .mp j::ss,v::vs,mp,hp=>fun R k=>by
  cases v with
  |mp id=>exact zg (m:=fun R=>jB (R:=R) mp j _) (zdu mp j _) fun mp=>qp ss vs mp hp R k
  |_=>rfl
 | .und::ss, [],mp,hp=>fun _ _=>rfl
 | .fnc f n::ss, [],mp,hp=>fun _ _=>rfl
 | .fnc f n::ss,v::vs,mp,hp=>fun R k=>by
  cases v with
  |fn g l=>exact zf (qp ss (l++vs) mp hp R k) rfl
  |_=>rfl
 | .agn n::ss, [],mp,hp=>fun _ _=>rfl
 | .agn n::ss,v::vs,mp,hp=>fun R k=>by
  cases v with
  |agg l=>exact zf (qp ss (l++vs) mp hp R k) rfl
  |_=>rfl
 | .ro t::ss, [],mp,hp=>fun _ _=>rfl
 | .ro t::ss,v::vs,mp,hp=>fun R k=>zI (m:=fun R=>roF (R:=R) t v hp) (zy9 t v hp) fun x hp=>qi (m:=fun R=>zR (R:=R) ss vs mp hp) (qp ss vs mp hp) fun _ _ _=>rfl
 | .hole t::ss,v::vs,mp,hp=>fun R k=>zhf t v hp fun x hp=>qi (m:=fun R=>zR (R:=R) ss vs mp hp) (qp ss vs mp hp) fun _ _ _=>rfl
 | .own j::ss,v::vs,mp,hp=>fun R k=>by
  cases v with
  |own id len=>exact zg (m:=fun R=>jB (R:=R) mp j _) (zdu mp j _) fun mp=>qp ss vs mp hp R k
  |nils=>exact zg (m:=fun R=>jB (R:=R) mp j _) (zdu mp j _) fun mp=>qp ss vs mp hp R k
  |_=>rfl
 | .ptr j off::ss,v::vs,mp,hp=>fun R k=>by
  cases v with
  |ptr id o=>exact zf (zg (m:=fun R=>jB (R:=R) mp j _) (zdu mp j _) fun mp=>qp ss vs mp hp R k) rfl
  |_=>rfl
 | .nilp::ss,v::vs,mp,hp=>fun R k=>by
  cases v with
  |nilp=>exact qp ss vs mp hp R k
  |_=>rfl
 | .und::ss,v::vs,mp,hp=>qp ss vs mp hp
theorem jV: ∀ (os:List OSh) (j:Nat) (mp:List PM) (hp:List HO),CN3 fun R=>xI (R:=R) j os mp hp
 | [],j,mp,hp=>fun _ _=>rfl
 | .gone::os,j,mp,hp=>jV os (j+1) mp hp
 | .cells sl::os,j,mp,hp=>fun R k=>by
  refine z8 mp j fun p=> ?_
  cases p with
  |id i l=>
   cases l with
   |none=>
    refine z8 hp i fun o=> ?_
    cases o with
    |cells l=>exact qi (m:=fun R=>zR (R:=R) sl l mp hp) (qp sl l mp hp) fun mp ds hp=>qi (m:=fun R=>xI (R:=R) (j+1) os mp hp) (jV os (j+1) mp hp) fun _ _ _=>rfl
    |_=>rfl
   |some n=>rfl
  |_=>rfl
 | .arr T t::os,j,mp,hp=>fun R k=>by
  refine z8 mp j fun p=> ?_
  cases p with
  |nil=>exact qi (m:=fun R=>xI (R:=R) (j+1) os mp hp) (jV os (j+1) mp hp) fun _ _ _=>rfl
  |id i len=>
   refine z8 hp i fun o=> ?_
   cases o with
   |arr T' t' xs=>exact zf (zD (fun h=>qi (m:=fun R=>xI (R:=R) (j+1) os mp hp) (jV os (j+1) mp hp) fun _ _ _=>rfl) fun _=>rfl) rfl
   |_=>rfl
  |none=>rfl
 | .map K V::os,j,mp,hp=>fun R k=>by
  refine z8 mp j fun p=> ?_
  cases p with
  |id i l=>
   cases l with
   |none=>
    refine z8 hp i fun o=> ?_
    cases o with
    |map K' V' es=>exact zD (fun h=>qi (m:=fun R=>xI (R:=R) (j+1) os mp hp) (jV os (j+1) mp hp) fun _ _ _=>rfl) fun _=>rfl
    |_=>rfl
   |some n=>rfl
  |_=>rfl
theorem zj1 {X R:Type} {k:X→Option R} {x:Option R} {y:Option X} (hp:List HO) (h:x=y.bind k): ∀ (l:List Nat),zr2 l hp x=(zr2 l hp y).bind k
 | []=>h
 |i::l=>z8 hp i fun o=>zf (zj1 hp h l) rfl
theorem znt {X R:Type} {k:X→Option R} (n0:Nat) (sk:Skel) (vs:List SV) (hp:List HO) {f:List DV→List PM→List HO→Option R} {g:List DV→List PM→List HO→Option X} (h: ∀ a b c,f a b c=(g a b c).bind k):
  zqr n0 sk vs hp f=(zqr n0 sk vs hp g).bind k:=by
 unfold zqr
 exact qi (m:=fun R=>zR (R:=R) sk.slots vs _ hp) (qp _ _ _ _) fun mp ds hp=>qi (m:=fun R=>xI (R:=R) 0 sk.objs mp hp) (jV _ _ _ _) fun mp ds' hp=>
  zf (zj1 hp (h _ _ _) _) rfl
theorem zp4: ∀ (ts:List Ty) (ds:List DV),CN fun R=>zbe (R:=R) ts ds
 | [], []=>fun _ _=>rfl
 | [],_::_=>fun _ _=>rfl
 | [t], []=>fun _ _=>rfl
 | [t], [d]=>fun R k=>zD (fun h=>rfl) fun _=>rfl
 | [t],_::_::_=>fun _ _=>rfl
 |t::u::l, []=>fun _ _=>rfl
 |t::u::l,d::ds=>fun R k=>zD (fun h=>zg (m:=fun R=>zbe (R:=R) (u::l) ds) (zp4 (u::l) ds) fun _=>rfl) fun _=>rfl
theorem qv (ρ:List Nat): ∀ (ss:List Sh) (ds:List DV),CN2 fun R=>zt (R:=R) ρ ss ds
 | [],ds=>fun _ _=>rfl
 | .fnc f n::ss,ds=>fun R k=>by
  show zt ρ (.fnc f n::ss) ds k=(zt ρ (.fnc f n::ss) ds _).bind _
  unfold zt
  exact zI (m:=fun R=>zt (R:=R) ρ ss ds) (qv ρ ss ds) fun _ _=>rfl
 | .agn n::ss,ds=>fun R k=>by
  show zt ρ (.agn n::ss) ds k=(zt ρ (.agn n::ss) ds _).bind _
  unfold zt
  exact zI (m:=fun R=>zt (R:=R) ρ ss ds) (qv ρ ss ds) fun _ _=>rfl
 | .ro _::ss, []=>fun _ _=>rfl
 | .ro _::ss,d::ds=>fun R k=>zI (m:=fun R=>zt (R:=R) ρ ss ds) (qv ρ ss ds) fun _ _=>rfl
 | .hole _::ss, []=>fun _ _=>rfl
 | .hole _::ss,d::ds=>fun R k=>zI (m:=fun R=>zt (R:=R) ρ ss ds) (qv ρ ss ds) fun _ _=>rfl
 | .own j::ss,ds=>fun R k=>by
  show zt ρ (.own j::ss) ds k=(zt ρ (.own j::ss) ds _).bind _
  unfold zt
  exact zI (m:=fun R=>zt (R:=R) ρ ss ds) (qv ρ ss ds) fun _ _=>rfl
 | .ptr j off::ss,ds=>fun R k=>by
  show zt ρ (.ptr j off::ss) ds k=(zt ρ (.ptr j off::ss) ds _).bind _
  unfold zt
  exact zI (m:=fun R=>zt (R:=R) ρ ss ds) (qv ρ ss ds) fun _ _=>rfl
 | .nilp::ss,ds=>fun R k=>by
  show zt ρ (.nilp::ss) ds k=(zt ρ (.nilp::ss) ds _).bind _
  unfold zt
  exact zI (m:=fun R=>zt (R:=R) ρ ss ds) (qv ρ ss ds) fun _ _=>rfl
 | .mp j::ss,ds=>fun R k=>by
  show zt ρ (.mp j::ss) ds k=(zt ρ (.mp j::ss) ds _).bind _
  unfold zt
  exact zI (m:=fun R=>zt (R:=R) ρ ss ds) (qv ρ ss ds) fun _ _=>rfl
 | .und::ss,ds=>fun R k=>by
  show zt ρ (.und::ss) ds k=(zt ρ (.und::ss) ds _).bind _
  unfold zt
  exact zI (m:=fun R=>zt (R:=R) ρ ss ds) (qv ρ ss ds) fun _ _=>rfl
theorem zbm (ρ:List Nat): ∀ (os:List OSh) (ds:List DV),CN fun R=>z0 (R:=R) ρ os ds
 | [],ds=>fun _ _=>rfl
 | .gone::os,ds=>fun R k=>by
  show z0 ρ (.gone::os) ds k=(z0 ρ (.gone::os) ds some).bind k
  unfold z0
  exact zg (m:=fun R=>z0 (R:=R) ρ os ds) (zbm ρ os ds) fun _=>rfl
 | .cells sl::os,ds=>fun R k=>by
  show z0 ρ (.cells sl::os) ds k=(z0 ρ (.cells sl::os) ds some).bind k
  unfold z0
  exact zI (m:=fun R=>zt (R:=R) ρ sl ds) (qv ρ sl ds) fun vs ds=>zg (m:=fun R=>z0 (R:=R) ρ os ds) (zbm ρ os ds) fun _=>rfl
 | .arr _ _::os, []=>fun _ _=>rfl
 | .arr T t::os,d::ds=>fun R k=>by
  show z0 ρ (.arr T t::os) (d::ds) k=(z0 ρ (.arr T t::os) (d::ds) some).bind k
  unfold z0
  split
  ·exact zg (m:=fun R=>z0 (R:=R) ρ os ds) (zbm ρ os ds) fun _=>rfl
  ·rfl
 | .map _ _::os, []=>fun _ _=>rfl
 | .map K V::os,d::ds=>fun R k=>by
  show z0 ρ (.map K V::os) (d::ds) k=(z0 ρ (.map K V::os) (d::ds) some).bind k
  unfold z0
  split
  ·exact zg (m:=fun R=>z0 (R:=R) ρ os ds) (zbm ρ os ds) fun _=>rfl
  ·rfl
theorem zrb {X R:Type} {k:X→Option R} (ρ:List Nat) (sk:Skel) (ds:List DV) {f:List SV→List HO→Option R} {g:List SV→List HO→Option X} (h: ∀ a b,f a b=(g a b).bind k):build ρ sk ds f=(build ρ sk ds g).bind k:=by
 unfold build
 exact zI (m:=fun R=>zt (R:=R) ρ sk.slots ds) (qv _ _ _) fun vs ds=>zg (m:=fun R=>z0 (R:=R) ρ sk.objs ds) (zbm _ _ _) fun hs=>h vs hs
theorem zdx {X R:Type} {k:X→Option R} {f:List HO→Option R} {g:List HO→Option X} (h: ∀ a,f a=(g a).bind k): ∀ (mp:List PM) (hp:List HO),zam mp hp f=(zam mp hp g).bind k
 | [],hp=>h hp
 | .id i l::mp,hp=>zV hp i .gone fun hp=>zdx h mp hp
 | .nil::mp,hp=>zdx h mp hp
 | .none::mp,hp=>zdx h mp hp
theorem zt7 {X R:Type} {k:X→Option R} {f:List HO→Option R} {g:List HO→Option X} (h: ∀ a,f a=(g a).bind k) (mp:List PM) (os:List OSh) (hp:List HO):ze5 mp os hp f=(ze5 mp os hp g).bind k:=by
 rw[jH [] 0,jH [] 0];exact h _
theorem zic {X R:Type} {k:X→Option R} {f:List HO→Option R} {g:List HO→Option X} (h: ∀ a,f a=(g a).bind k): ∀ (ρ:List Nat) (os hp:List HO),zeg ρ os hp f=(zeg ρ os hp g).bind k
 | [],_,hp=>by unfold zeg;exact h hp
 |_::_, [],hp=>by unfold zeg;exact h hp
 |i::ρ,o::os,hp=>by unfold zeg;exact zV hp i o fun hp=>zic h ρ os hp
theorem zv5 (c:Con) (args:List SV) (hp:List HO):CN2 fun R=>zm2 (R:=R) c args hp:=by
 intro R k
 show zm2 c args hp k=(zm2 c args hp _).bind _
 unfold zm2
 refine zf (znt 0 _ args hp fun ds mp hp1=>zg (m:=fun R=>zbe (R:=R) _ ds) (zp4 _ ds) fun x=> ?_) rfl
 cases c.F x with
 |none=>rfl
 |some y=>
  simp only[Option.bind_some]
  refine zrb _ _ _ fun vs hos=> ?_
  refine zdx (fun hp2=> ?_) _ _
  refine zt7 (fun hp3=> ?_) _ _ _
  refine zic (fun hp4=> ?_) _ _ _
  rfl
theorem zrg (C:Ctx) (E:TypeId) (ei:TI) (x:SV) (hp:List HO):CN2 fun R=>zbu (R:=R) C E ei x hp:=by
 intro R k
 show zbu C E ei x hp k=(zbu C E ei x hp _).bind _
 unfold zbu
 split
 ·rfl
 ·refine zg (m:=fun R=>qx (R:=R) hp _) (qN hp _) fun o=> ?_
  split
  ·split
   ·refine zf ?_ rfl
    split
    ·exact zV _ _ _ fun _=>rfl
    ·rfl
   ·rfl
  ·rfl
 ·refine zg (m:=fun R=>qx (R:=R) hp _) (qN hp _) fun o=> ?_
  split
  ·split
   ·refine zf ?_ rfl
    split
    ·exact zV _ _ _ fun _=>rfl
    ·rfl
   ·rfl
  ·rfl
 ·rfl
theorem zmw (C:Ctx) (fr:List SV) (i:TI) (n:Option Operand) (hp:List HO):CN2 fun R=>jg (R:=R) C fr i n hp:=by
 intro R k
 show jg C fr i n hp k=(jg C fr i n hp _).bind _
 unfold jg
 split
 ·refine zH _ fun ki=>zH _ fun vi=> ?_
  split
  ·exact zg (m:=fun R=>zvt (R:=R) C fr n 0) (zte C fr n 0) fun _=>qz _ _ fun _=>rfl
  ·rfl
 ·rfl
theorem zcv (C:Ctx) (i:TI) (m y v:SV) (hp:List HO):CN2 fun R=>qj (R:=R) C i m y v hp:=by
 intro R k
 show qj C i m y v hp k=(qj C i m y v hp _).bind _
 unfold qj
 split
 ·refine zH _ fun ki=>zH _ fun vi=> ?_
  split
  ·refine zI (m:=fun R=>zc8 (R:=R) _ v hp) (zp2 _ v hp) fun x hp=>zg (m:=fun R=>qx (R:=R) hp _) (qN hp _) fun o=> ?_
   split
   ·refine zf ?_ rfl
    split
    ·exact zV _ _ _ fun _=>rfl
    ·rfl
   ·rfl
  ·rfl
 ·rfl
theorem zs9 (i:TI) (x:SV) (hp:List HO):CN2 fun R=>zbv (R:=R) i hp x:=by
 intro R k
 have plain:(xE i hp x fun s=>k s hp)=(xE i hp x fun s=>some (s,hp)).bind fun p=>k p.1 p.2:=zg (m:=fun R=>xE (R:=R) i hp x) (zhb i hp x) fun _=>rfl
 show zbv i hp x k=(zbv i hp x _).bind _
 unfold zbv
 split
 ·refine z8 hp _ fun o=> ?_
  cases o with
  |arr T t' xs=>
   refine zD (fun h=> ?_) fun _=>rfl
   subst h
   simp only
   split
   ·split
    ·exact zf (zM (zg (m:=fun R=>znv (R:=R) _ _ _ _ _) (zop _ _ _ _ _) fun z=>zV _ _ _ fun _=>qz _ _ fun _=>rfl) rfl) rfl
    ·exact plain
   ·rfl
  |_=>rfl
 ·exact plain
theorem zv6 (C:Ctx) (Γ:List Con) (fr:List SV) (hp:List HO) (op:Op):CN2 fun R=>zhl (R:=R) C Γ fr hp op:=by
 intro R k
 show zhl C Γ fr hp op k=(zhl C Γ fr hp op _).bind _
 unfold zhl
 split
 ·exact zH _ fun i=>qz _ _ fun _=>rfl
 ·exact zj _ fun s=>zjn s fun l=>qz _ _ fun _=>rfl
 ·refine zH _ fun i=> ?_
  split
  ·refine zH _ fun ei=> ?_
   split
   ·exact zf (zg (m:=fun R=>zw2 (R:=R) _ _) (ztf _ _) fun xs=>zI (m:=fun R=>zbt (R:=R) C fr _ _ xs hp) (zmv C fr _ _ xs hp) fun xs hp=>qz _ _ fun _=>rfl) rfl
   ·rfl
  ·rfl
 ·refine zH _ fun i=> ?_
  split
  ·refine zH _ fun ei=> ?_
   split
   ·exact zf (zj _ fun l=>zg (m:=fun R=>asI (R:=R) l) (zjo l) fun l=>zj _ fun c=>zg (m:=fun R=>asI (R:=R) c) (zjo c) fun c=>zM (qz _ _ fun _=>rfl) rfl) rfl
   ·rfl
  ·rfl
 ·exact zH _ fun i=>zj _ fun x=>zj _ fun v=>zrl i x v hp R k
 ·split
  ·refine zf (zH _ fun i=> ?_) rfl
   split
   ·exact zH _ fun ei=>zj _ fun s=>zj _ fun x=>zon C _ ei s x hp R k
   ·rfl
  ·rfl
 ·split
  ·refine zH _ fun i=> ?_
   split
   ·exact zH _ fun ei=>zj _ fun x=>zrg C _ ei x hp R k
   ·rfl
  ·rfl
 ·exact zH _ fun i=>zmw C fr i _ hp R k
 ·exact zH _ fun i=>zj _ fun m=>zj _ fun y=>zj _ fun v=>zcv C i m y v hp R k
 ·exact zH _ fun i=>zj _ fun m=>zj _ fun y=>zj _ fun v=>zcv C i m y v hp R k
 ·exact zH _ fun i=>zj _ fun x=>zs9 i x hp R k
 ·rw[zky]
  rw[zky (k:=fun c vs=>zm2 c vs hp fun a b=>some (a,b))]
  cases (zbk (R:=Con×List SV) C Γ fr _ _ fun c vs=>some (c,vs)) with
  |none=>rfl
  |some p=>exact zv5 p.1 p.2 hp R k
 ·rfl
theorem zta (hp:List HO): ∀ (n:List HO) (i id:Nat) (len:Option Nat),CN fun R=>z0w (R:=R) n i id len
 | [],_,_,_=>fun _ _=>rfl
 |o::l,0,id,len=>fun R k=>by cases o<;>rfl
 |o::l,n+1,id,len=>fun R k=>by cases o<;>exact zta hp l n id len R k
theorem ztb (hp:List HO): ∀ (n:List HO) (i id off:Nat),CN fun R=>zzz (R:=R) n i id off
 | [],_,_,_=>fun _ _=>rfl
 |o::l,0,id,off=>fun R k=>by
  cases o with
  |frs t x=>exact zf rfl rfl
  |_=>rfl
 |o::l,n+1,id,off=>fun R k=>by cases o<;>exact ztb hp l n id off R k
theorem zwa (hp:List HO) (s:SV):CN fun R=>zsn (R:=R) hp s:=by
 intro R k
 cases s with
 |own id len=>exact zta hp hp id id len R k
 |ptr id off=>exact ztb hp hp id id off R k
 |_=>rfl
theorem zp3 (hp:List HO): ∀ (l:List SV),CN fun R=>zsm (R:=R) hp l
 | []=>fun _ _=>rfl
 |s::l=>fun R k=>zg (m:=fun R=>zsn (R:=R) hp s) (zwa hp s) fun s'=>zg (m:=fun R=>zsm (R:=R) hp l) (zp3 hp l) fun _=>rfl
theorem zk6 (hp:List HO) (fr:List SV):CN fun R=>za3 (R:=R) hp fr:=by
 intro R k
 show za3 hp fr k=(za3 hp fr some).bind k
 unfold za3
 exact zf (zp3 hp fr R k) rfl
end Go.Sx
