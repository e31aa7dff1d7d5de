/- The symbolic evaluator, part V3: operations with effects are told alike, whatever goes on behind. -/
import Derived.Test.YtpmbmobjnknnhaaGreatDoorSxV2
set_option linter.unusedVariables false
set_option linter.unusedSimpArgs false
namespace Go.Sx
open Go.RowKit
def CN2 {A B:Type} (m:(R:Type)→(A→B→Option R)→Option R):Prop:= ∀ (R:Type) (k:A→B→Option R),m R k=(m (A×B) fun a b=>some (a,b)).bind fun p=>k p.1 p.2
def CN3 {A B D:Type} (m:(R:Type)→(A→B→D→Option R)→Option R):Prop:= ∀ (R:Type) (k:A→B→D→Option R),m R k=(m (A×B×D) fun a b d=>some (a,b,d)).bind fun p=>k p.1 p.2.1 p.2.2
theorem zJ {A B X R:Type} {m:(R:Type)→(A→B→Option R)→Option R} (hm:CN2 m) {f:A→B→Option R} {g:A→B→Option X} {k:X→Option R} (h: ∀ a b,f a b=(g a b).bind k):m R f=(m X g).bind k:=by
 rw[hm R f,hm X g]
 cases m (A×B) (fun a b=>some (a,b)) with
 |none=>rfl
 |some p=>exact h p.1 p.2
theorem qh {A B D X R:Type} {m:(R:Type)→(A→B→D→Option R)→Option R} (hm:CN3 m) {f:A→B→D→Option R} {g:A→B→D→Option X} {k:X→Option R} (h: ∀ a b d,f a b d=(g a b d).bind k):m R f=(m X g).bind k:=by
 rw[hm R f,hm X g]
 cases m (A×B×D) (fun a b d=>some (a,b,d)) with
 |none=>rfl
 |some p=>exact h p.1 p.2.1 p.2.2
theorem zD {X R:Type} {c:Prop} [Decidable c] {a:c→Option R} {a':c→Option X} {b: ¬ c→Option R} {b': ¬ c→Option X} {k:X→Option R} (h1: ∀ h,a h=(a' h).bind k) (h2: ∀ h,b h=(b' h).bind k):(if h:c then a h else b h)=(if h:c then a' h else b' h).bind k:=by
 by_cases h:c
 ·simp only[dif_pos h,h1]
 ·simp only[dif_neg h,h2]
theorem zX {α X R:Type} (l:List α) (n:Nat) (v:α) {f:List α→Option R} {g:List α→Option X} {k:X→Option R} (h: ∀ a,f a=(g a).bind k):jv l n v f=(jv l n v g).bind k:=by
 rw[zp,zp];exact h _
theorem qw {α X R:Type} (l:List α) (v:α) {f:List α→Option R} {g:List α→Option X} {k:X→Option R} (h: ∀ a,f a=(g a).bind k):x7 l v f=(x7 l v g).bind k:=by
 rw[zW,zW];exact h _
theorem z6 {α X R:Type} (l:List α) (n:Nat) {f:α→Option R} {g:α→Option X} {k:X→Option R} (h: ∀ a,f a=(g a).bind k):qr l n f=(qr l n g).bind k:=
 zg (m:=fun R=>qr (R:=R) l n) (qK l n) h
theorem zb0 (t:Ty) (s:SV) (hp:List HO):CN2 fun R=>zky (R:=R) t s hp:=by
 intro R k
 cases s with
 |val t' x=>exact zf (zD (fun h=>by subst h;rfl) (fun _=>rfl)) (zD (fun h=>by subst h;rfl) (fun _=>rfl))
 |bit b=>cases t<;>rfl
 |nils=>cases t<;>rfl
 |nil0=>cases t<;>rfl
 |own id len=>
  cases t with
  |sl e=>
   show qr hp id _=(qr hp id _).bind _
   refine z6 hp id fun o=> ?_
   cases o with
   |arr T e' xs=>exact zD (fun h=>by subst h;exact zX _ _ _ fun _=>rfl) (fun _=>zD (fun h=>by subst h;exact zX _ _ _ fun _=>rfl) fun _=>rfl)
   |fro e' xs=>exact zD (fun h=>by subst h;rfl) (fun _=>rfl)
   |tk _ e' xs=>exact zD (fun h=>by subst h;rfl) (fun _=>rfl)
   |_=>rfl
  |osl e=>
   refine zf (z6 hp id fun o=> ?_) rfl
   cases o with
   |arr T e' xs=>exact zD (fun h=>by subst h;exact zX _ _ _ fun _=>rfl) (fun _=>rfl)
   |fro e' xs=>exact zD (fun h=>by subst h;rfl) (fun _=>rfl)
   |tk _ e' xs=>exact zD (fun h=>by subst h;exact zX _ _ _ fun _=>rfl) (fun _=>rfl)
   |_=>rfl
  |_=>rfl
 |_=>rfl
theorem znj {α:Type} {step:(R:Type)→List SV→List HO→(α→List SV→List HO→Option R)→Option R} (hs: ∀ l hp,CN3 fun R=>step R l hp): ∀ (n:Nat) (l:List SV) (hp:List HO),CN3 fun R=>zjf (step R) n l hp
 |0,l,hp=>fun _ _=>rfl
 |n+1,l,hp=>by
  intro R k
  show step R l hp _=(step _ l hp _).bind _
  exact qh (m:=fun R=>step R l hp) (hs l hp) fun x l hp=>qh (m:=fun R=>zjf (step R) n l hp) (znj hs n l hp) fun xs l hp=>rfl
theorem jZ: ∀ (t:Ty) (l:List SV) (hp:List HO),CN3 fun R=>qa (R:=R) t l hp
 | .pair a b,l,hp=>by
  intro R k
  show qa a l hp _=(qa a l hp _).bind _
  exact qh (m:=fun R=>qa (R:=R) a l hp) (jZ a l hp) fun x l hp=>qh (m:=fun R=>qa (R:=R) b l hp) (jZ b l hp) fun y l hp=>rfl
 | .unit,l,hp=>fun _ _=>rfl
 | .st f,l,hp=>jZ f l hp
 | .arr n e,l,hp=>znj (step:=fun R=>qa (R:=R) e) (fun l hp=>jZ e l hp) n l hp
 | .int i, [],hp=>fun _ _=>rfl
 | .int i,s::l,hp=>fun R k=>zJ (m:=fun R=>zky (R:=R) (.int i) s hp) (zb0 _ s hp) fun _ _=>rfl
 | .bool, [],hp=>fun _ _=>rfl
 | .bool,s::l,hp=>fun R k=>zJ (m:=fun R=>zky (R:=R) .bool s hp) (zb0 _ s hp) fun _ _=>rfl
 | .str, [],hp=>fun _ _=>rfl
 | .str,s::l,hp=>fun R k=>zJ (m:=fun R=>zky (R:=R) .str s hp) (zb0 _ s hp) fun _ _=>rfl
 | .flt, [],hp=>fun _ _=>rfl
 | .flt,s::l,hp=>fun R k=>zJ (m:=fun R=>zky (R:=R) .flt s hp) (zb0 _ s hp) fun _ _=>rfl
 | .cplx, [],hp=>fun _ _=>rfl
 | .cplx,s::l,hp=>fun R k=>zJ (m:=fun R=>zky (R:=R) .cplx s hp) (zb0 _ s hp) fun _ _=>rfl
 | .sl e, [],hp=>fun _ _=>rfl
 | .sl e,s::l,hp=>fun R k=>zJ (m:=fun R=>zky (R:=R) (.sl e) s hp) (zb0 _ s hp) fun _ _=>rfl
 | .osl e, [],hp=>fun _ _=>rfl
 | .osl e,s::l,hp=>fun R k=>zJ (m:=fun R=>zky (R:=R) (.osl e) s hp) (zb0 _ s hp) fun _ _=>rfl
theorem zqv (t:Ty) (s:SV) (hp:List HO):CN2 fun R=>zc5 (R:=R) t s hp:=by
 intro R k
 show zc5 t s hp k=(zc5 t s hp _).bind _
 unfold zc5
 split
 ·refine zf (qh (m:=fun R=>qa (R:=R) t _ hp) (jZ t _ hp) fun x l hp=> ?_) rfl
  cases l<;>rfl
 ·exact zb0 t _ hp R k
section
variable {X R:Type} {C:Ctx} {fr:List SV} {k:X→Option R}
theorem zhu (t:Ty) (s:SV) (hp:List HO) {f:t.den→List HO→Option R} {g:t.den→List HO→Option X} (h: ∀ a b,f a b=(g a b).bind k):zc5 t s hp f=(zc5 t s hp g).bind k:=
 zJ (m:=fun R=>zc5 (R:=R) t s hp) (zqv t s hp) h
theorem zj4 (s:SV) {f:List SV→Option R} {g:List SV→Option X} (h: ∀ a,f a=(g a).bind k):s.cellsK f=(s.cellsK g).bind k:=
 zg (m:=fun R=>s.cellsK (R:=R)) (zne s) h
end
theorem z0l (t:Ty) (s:SV) (hp:List HO):CN2 fun R=>roF (R:=R) t s hp:=by
 intro R k
 show roF t s hp k=(roF t s hp _).bind _
 unfold roF
 split
 ·exact zD (fun h=>by subst h;rfl) fun _=>rfl
 ·refine zf (z6 hp _ fun o=> ?_) rfl
  cases o with
  |cells l=>
   refine qh (m:=fun R=>qa (R:=R) t l hp) (jZ t l hp) fun x l' hp=> ?_
   cases l' with
   |nil=>
    refine z6 hp _ fun o=> ?_
    cases o with
    |cells _=>exact zX _ _ _ fun _=>rfl
    |_=>rfl
   |cons _ _=>rfl
  |frs t' x=>exact zD (fun h=>by subst h;rfl) fun _=>rfl
  |_=>rfl
 ·rfl
theorem znk (C:Ctx) (fr:List SV) (t:Ty): ∀ (l:List (Nat×Operand)) (xs:List t.den) (hp:List HO),CN2 fun R=>zbf (R:=R) C fr t l xs hp
 | [],xs,hp=>fun _ _=>rfl
 |(i,x)::l,xs,hp=>by
  intro R k
  show zbf C fr t ((i,x)::l) xs hp k=(zbf C fr t ((i,x)::l) xs hp _).bind _
  unfold zbf
  exact zf (zm _ fun s=>zhu t s hp fun y hp=>zX xs i y fun xs=>zJ (m:=fun R=>zbf (R:=R) C fr t l xs hp) (znk C fr t l xs hp) fun _ _=>rfl) rfl
theorem zug {α:Type} (x:α): ∀ (n:Nat),CN fun R=>zws (R:=R) x n
 |0=>fun _ _=>rfl
 |n+1=>fun R k=>zg (m:=fun R=>zws (R:=R) x n) (zug x n) fun _=>rfl
theorem zpr (t:Ty) (s:SV) (hp:List HO):CN fun R=>ztl (R:=R) t s hp:=by
 intro R k
 show ztl t s hp k=(ztl t s hp some).bind k
 unfold ztl
 split
 ·exact zD (fun h=>by subst h;rfl) fun _=>rfl
 ·rfl
 ·rfl
 ·refine z6 hp _ fun o=> ?_
  cases o with
  |arr T e xs=>exact zD (fun h=>by subst h;rfl) fun _=>rfl
  |tk T e xs=>exact zD (fun h=>by subst h;rfl) fun _=>rfl
  |_=>rfl
 ·rfl
theorem zuh {t':Ty}: ∀ (i:Nat) (f:Ty) (x:f.den) (gR:(R:Type)→(u:Ty)→u.den→(u.den→Option R)→Option R),(∀ u z,CN fun R=>gR R u z)→CN fun R=>zmt.fsetAux (R:=R) i f x (gR R)
 |0, .pair a b,x,g,hg=>fun R k=>zg (m:=fun R=>g R a x.1) (hg a x.1) fun _=>rfl
 |i+1, .pair a b,x,g,hg=>fun R k=>zg (m:=fun R=>zmt.fsetAux (R:=R) i b x.2 (g R)) (zuh (t':=t') i b x.2 g hg) fun _=>rfl
 |0, .int _,x,g,hg=>hg _ _
 |0, .bool,x,g,hg=>hg _ _
 |0, .str,x,g,hg=>hg _ _
 |0, .flt,x,g,hg=>hg _ _
 |0, .cplx,x,g,hg=>hg _ _
 |0, .unit,x,g,hg=>hg _ _
 |0, .sl _,x,g,hg=>hg _ _
 |0, .osl _,x,g,hg=>hg _ _
 |0, .arr _ _,x,g,hg=>hg _ _
 |0, .st _,x,g,hg=>hg _ _
 |_+1, .int _,x,g,hg=>fun _ _=>rfl
 |_+1, .bool,x,g,hg=>fun _ _=>rfl
 |_+1, .str,x,g,hg=>fun _ _=>rfl
 |_+1, .flt,x,g,hg=>fun _ _=>rfl
 |_+1, .cplx,x,g,hg=>fun _ _=>rfl
 |_+1, .unit,x,g,hg=>fun _ _=>rfl
 |_+1, .sl _,x,g,hg=>fun _ _=>rfl
 |_+1, .osl _,x,g,hg=>fun _ _=>rfl
 |_+1, .arr _ _,x,g,hg=>fun _ _=>rfl
 |_+1, .st _,x,g,hg=>fun _ _=>rfl
theorem zps: ∀ (p:List Nat) (t:Ty) (x:t.den) (t':Ty) (y:t'.den),CN fun R=>zmt (R:=R) p t x t' y
 | [],t,x,t',y=>fun R k=>zD (fun h=>by subst h;rfl) fun _=>rfl
 |i::p, .st f,x,t',y=>zuh (t':=t') i f x (fun R u z k=>zmt p u z t' y k) fun u z=>zps p u z t' y
 |_::_, .int _,_,_,_=>fun _ _=>rfl
 |_::_, .bool,_,_,_=>fun _ _=>rfl
 |_::_, .str,_,_,_=>fun _ _=>rfl
 |_::_, .flt,_,_,_=>fun _ _=>rfl
 |_::_, .cplx,_,_,_=>fun _ _=>rfl
 |_::_, .unit,_,_,_=>fun _ _=>rfl
 |_::_, .sl _,_,_,_=>fun _ _=>rfl
 |_::_, .osl _,_,_,_=>fun _ _=>rfl
 |_::_, .arr _ _,_,_,_=>fun _ _=>rfl
 |_::_, .pair _ _,_,_,_=>fun _ _=>rfl
theorem zss (i:TI) (x v:SV) (hp:List HO):CN2 fun R=>zbg (R:=R) i x v hp:=by
 intro R k
 show zbg i x v hp k=(zbg i x v hp _).bind _
 unfold zbg
 split
 ·refine zj4 v fun l'=>zf (z6 hp _ fun o=> ?_) rfl
  cases o with
  |cells l=>exact zf (zX _ _ _ fun _=>rfl) rfl
  |_=>rfl
 ·split
  ·refine zf (zhu _ v hp fun y hp=>z6 hp _ fun o=> ?_) rfl
   cases o with
   |arr T t' xs=>exact zD (fun h=>zg (m:=fun R=>zmt (R:=R) _ _ _ _ y) (zps _ _ _ _ y) fun z=>zX _ _ _ fun _=>rfl) fun _=>rfl
   |_=>rfl
  ·rfl
 ·rfl
theorem zui (t:Ty) (s:SV) (hp:List HO):CN2 fun R=>zwl (R:=R) t s hp:=by
 intro R k
 show zwl t s hp k=(zwl t s hp _).bind _
 unfold zwl
 split
 ·exact zD (fun h=>by subst h;rfl) fun _=>rfl
 ·rfl
 ·rfl
 ·refine z6 hp _ fun o=> ?_
  cases o with
  |arr T e xs=>exact zD (fun h=>by subst h;exact zX _ _ _ fun _=>rfl) fun _=>rfl
  |_=>rfl
 ·rfl
theorem zfz (C:Ctx) (E:TypeId) (ei:TI) (x:SV) (hp:List HO):CN2 fun R=>xG (R:=R) C E ei x hp:=by
 intro R k
 show xG C E ei x hp k=(xG C E ei x hp _).bind _
 unfold xG
 split
 ·exact zf (zf (zg (m:=fun R=>ztl (R:=R) _ x hp) (zpr _ x hp) fun ys=>zM (qw _ _ fun _=>rfl) rfl)
   (zJ (m:=fun R=>zwl (R:=R) _ x hp) (zui _ x hp) fun ys hp=>zM (qw _ _ fun _=>rfl) rfl)) rfl
 ·rfl
theorem zpt (C:Ctx) (E:TypeId) (ei:TI) (s x:SV) (hp:List HO):CN2 fun R=>jA (R:=R) C E ei s x hp:=by
 intro R k
 show jA C E ei s x hp k=(jA C E ei s x hp _).bind _
 unfold jA
 split
 ·exact zfz C E ei x hp R k
 ·exact zfz C E ei x hp R k
 ·refine z6 hp _ fun o=> ?_
  cases o with
  |arr E' t xs=>exact zf (zf (zg (m:=fun R=>ztl (R:=R) t x hp) (zpr t x hp) fun ys=>zM (zX _ _ _ fun _=>qw _ _ fun _=>rfl) rfl)
    (zX _ _ _ fun hp1=>zJ (m:=fun R=>zwl (R:=R) t x hp1) (zui t x hp1) fun ys hp2=>zM (qw _ _ fun _=>rfl) rfl)) rfl
  |tk E' t xs=>exact zf (zg (m:=fun R=>ztl (R:=R) t x hp) (zpr t x hp) fun ys=>zM (zX _ _ _ fun _=>qw _ _ fun _=>rfl) rfl) rfl
  |_=>rfl
 ·rfl
theorem zd8 (mp:List PM) (j:Nat) (p:PM):CN fun R=>jz (R:=R) mp j p:=by
 intro R k
 show jz mp j p k=(jz mp j p some).bind k
 unfold jz
 refine z6 mp j fun q=> ?_
 cases q with
 |none=>exact zX _ _ _ fun _=>rfl
 |nil=>exact zf rfl rfl
 |id i l=>exact zf rfl rfl
theorem ql: ∀ (ss:List Sh) (vs:List SV) (mp:List PM) (hp:List HO),CN3 fun R=>zR (R:=R) ss vs mp hp
 | [], [],mp,hp=>fun _ _=>rfl
 | [],_::_,mp,hp=>fun _ _=>rfl
 | .hole t::ss, [],mp,hp=>fun _ _=>rfl
 | .own t::ss, [],mp,hp=>fun _ _=>rfl
 | .ptr t _::ss, [],mp,hp=>fun _ _=>rfl
 | .nilp::ss, [],mp,hp=>fun _ _=>rfl
 | .mp _::ss, [],mp,hp=>fun _ _=>rfl
 | .mp j::ss,v::vs,mp,hp=>fun R k=>by
  cases v with
  |mp id=>exact zg (m:=fun R=>jz (R:=R) mp j _) (zd8 mp j _) fun mp=>ql ss vs mp hp R k
  |_=>rfl
 | .und::ss, [],mp,hp=>fun _ _=>rfl
 | .fnc f n::ss, [],mp,hp=>fun _ _=>rfl
 | .fnc f n::ss,v::vs,mp,hp=>fun R k=>by
  cases v with
  |fn g l=>exact zf (ql ss (l++vs) mp hp R k) rfl
  |_=>rfl
 | .agn n::ss, [],mp,hp=>fun _ _=>rfl
 | .agn n::ss,v::vs,mp,hp=>fun R k=>by
  cases v with
  |agg l=>exact zf (ql ss (l++vs) mp hp R k) rfl
  |_=>rfl
 | .ro t::ss, [],mp,hp=>fun _ _=>rfl
 | .ro t::ss,v::vs,mp,hp=>fun R k=>zJ (m:=fun R=>roF (R:=R) t v hp) (z0l t v hp) fun x hp=>qh (m:=fun R=>zR (R:=R) ss vs mp hp) (ql ss vs mp hp) fun _ _ _=>rfl
 | .hole t::ss,v::vs,mp,hp=>fun R k=>zhu t v hp fun x hp=>qh (m:=fun R=>zR (R:=R) ss vs mp hp) (ql ss vs mp hp) fun _ _ _=>rfl
 | .own j::ss,v::vs,mp,hp=>fun R k=>by
  cases v with
  |own id len=>exact zg (m:=fun R=>jz (R:=R) mp j _) (zd8 mp j _) fun mp=>ql ss vs mp hp R k
  |nils=>exact zg (m:=fun R=>jz (R:=R) mp j _) (zd8 mp j _) fun mp=>ql ss vs mp hp R k
  |_=>rfl
 | .ptr j off::ss,v::vs,mp,hp=>fun R k=>by
  cases v with
  |ptr id o=>exact zf (zg (m:=fun R=>jz (R:=R) mp j _) (zd8 mp j _) fun mp=>ql ss vs mp hp R k) rfl
  |_=>rfl
 | .nilp::ss,v::vs,mp,hp=>fun R k=>by
  cases v with
  |nilp=>exact ql ss vs mp hp R k
  |_=>rfl
 | .und::ss,v::vs,mp,hp=>ql ss vs mp hp
theorem j3: ∀ (os:List OSh) (j:Nat) (mp:List PM) (hp:List HO),CN3 fun R=>xE (R:=R) j os mp hp
 | [],j,mp,hp=>fun _ _=>rfl
 | .gone::os,j,mp,hp=>j3 os (j+1) mp hp
 | .cells sl::os,j,mp,hp=>fun R k=>by
  refine z6 mp j fun p=> ?_
  cases p with
  |id i l=>
   cases l with
   |none=>
    refine z6 hp i fun o=> ?_
    cases o with
    |cells l=>exact qh (m:=fun R=>zR (R:=R) sl l mp hp) (ql sl l mp hp) fun mp ds hp=>qh (m:=fun R=>xE (R:=R) (j+1) os mp hp) (j3 os (j+1) mp hp) fun _ _ _=>rfl
    |_=>rfl
   |some n=>rfl
  |_=>rfl
 | .arr T t::os,j,mp,hp=>fun R k=>by
  refine z6 mp j fun p=> ?_
  cases p with
  |nil=>exact qh (m:=fun R=>xE (R:=R) (j+1) os mp hp) (j3 os (j+1) mp hp) fun _ _ _=>rfl
  |id i len=>
   refine z6 hp i fun o=> ?_
   cases o with
   |arr T' t' xs=>exact zf (zD (fun h=>qh (m:=fun R=>xE (R:=R) (j+1) os mp hp) (j3 os (j+1) mp hp) fun _ _ _=>rfl) fun _=>rfl) rfl
   |_=>rfl
  |none=>rfl
 | .map K V::os,j,mp,hp=>fun R k=>by
  refine z6 mp j fun p=> ?_
  cases p with
  |id i l=>
   cases l with
   |none=>
    refine z6 hp i fun o=> ?_
    cases o with
    |map K' V' es=>exact zD (fun h=>qh (m:=fun R=>xE (R:=R) (j+1) os mp hp) (j3 os (j+1) mp hp) fun _ _ _=>rfl) fun _=>rfl
    |_=>rfl
   |some n=>rfl
  |_=>rfl
theorem zj5 {X R:Type} {k:X→Option R} {x:Option R} {y:Option X} (hp:List HO) (h:x=y.bind k): ∀ (l:List Nat),zr5 l hp x=(zr5 l hp y).bind k
 | []=>h
 |i::l=>z6 hp i fun o=>zf (zj5 hp h l) rfl
theorem znl {X R:Type} {k:X→Option R} (n0:Nat) (sk:Skel) (vs:List SV) (hp:List HO) {f:List DV→List PM→List HO→Option R} {g:List DV→List PM→List HO→Option X} (h: ∀ a b c,f a b c=(g a b c).bind k):
  zqi n0 sk vs hp f=(zqi n0 sk vs hp g).bind k:=by
 unfold zqi
 exact qh (m:=fun R=>zR (R:=R) sk.slots vs _ hp) (ql _ _ _ _) fun mp ds hp=>qh (m:=fun R=>xE (R:=R) 0 sk.objs mp hp) (j3 _ _ _ _) fun mp ds' hp=>
  zf (zj5 hp (h _ _ _) _) rfl
theorem zqw: ∀ (ts:List Ty) (ds:List DV),CN fun R=>za7 (R:=R) ts ds
 | [], []=>fun _ _=>rfl
 | [],_::_=>fun _ _=>rfl
 | [t], []=>fun _ _=>rfl
 | [t], [d]=>fun R k=>zD (fun h=>rfl) fun _=>rfl
 | [t],_::_::_=>fun _ _=>rfl
 |t::u::l, []=>fun _ _=>rfl
 |t::u::l,d::ds=>fun R k=>zD (fun h=>zg (m:=fun R=>za7 (R:=R) (u::l) ds) (zqw (u::l) ds) fun _=>rfl) fun _=>rfl
theorem qx (ρ:List Nat): ∀ (ss:List Sh) (ds:List DV),CN2 fun R=>zu (R:=R) ρ ss ds
 | [],ds=>fun _ _=>rfl
 | .fnc f n::ss,ds=>fun R k=>by
  show zu ρ (.fnc f n::ss) ds k=(zu ρ (.fnc f n::ss) ds _).bind _
  unfold zu
  exact zJ (m:=fun R=>zu (R:=R) ρ ss ds) (qx ρ ss ds) fun _ _=>rfl
 | .agn n::ss,ds=>fun R k=>by
  show zu ρ (.agn n::ss) ds k=(zu ρ (.agn n::ss) ds _).bind _
  unfold zu
  exact zJ (m:=fun R=>zu (R:=R) ρ ss ds) (qx ρ ss ds) fun _ _=>rfl
 | .ro _::ss, []=>fun _ _=>rfl
 | .ro _::ss,d::ds=>fun R k=>zJ (m:=fun R=>zu (R:=R) ρ ss ds) (qx ρ ss ds) fun _ _=>rfl
 | .hole _::ss, []=>fun _ _=>rfl
 | .hole _::ss,d::ds=>fun R k=>zJ (m:=fun R=>zu (R:=R) ρ ss ds) (qx ρ ss ds) fun _ _=>rfl
 | .own j::ss,ds=>fun R k=>by
  show zu ρ (.own j::ss) ds k=(zu ρ (.own j::ss) ds _).bind _
  unfold zu
  exact zJ (m:=fun R=>zu (R:=R) ρ ss ds) (qx ρ ss ds) fun _ _=>rfl
 | .ptr j off::ss,ds=>fun R k=>by
  show zu ρ (.ptr j off::ss) ds k=(zu ρ (.ptr j off::ss) ds _).bind _
  unfold zu
  exact zJ (m:=fun R=>zu (R:=R) ρ ss ds) (qx ρ ss ds) fun _ _=>rfl
 | .nilp::ss,ds=>fun R k=>by
  show zu ρ (.nilp::ss) ds k=(zu ρ (.nilp::ss) ds _).bind _
  unfold zu
  exact zJ (m:=fun R=>zu (R:=R) ρ ss ds) (qx ρ ss ds) fun _ _=>rfl
 | .mp j::ss,ds=>fun R k=>by
  show zu ρ (.mp j::ss) ds k=(zu ρ (.mp j::ss) ds _).bind _
  unfold zu
  exact zJ (m:=fun R=>zu (R:=R) ρ ss ds) (qx ρ ss ds) fun _ _=>rfl
 | .und::ss,ds=>fun R k=>by
  show zu ρ (.und::ss) ds k=(zu ρ (.und::ss) ds _).bind _
  unfold zu
  exact zJ (m:=fun R=>zu (R:=R) ρ ss ds) (qx ρ ss ds) fun _ _=>rfl
theorem zb1 (ρ:List Nat): ∀ (os:List OSh) (ds:List DV),CN fun R=>z2 (R:=R) ρ os ds
 | [],ds=>fun _ _=>rfl
 | .gone::os,ds=>fun R k=>by
  show z2 ρ (.gone::os) ds k=(z2 ρ (.gone::os) ds some).bind k
  unfold z2
  exact zg (m:=fun R=>z2 (R:=R) ρ os ds) (zb1 ρ os ds) fun _=>rfl
 | .cells sl::os,ds=>fun R k=>by
  show z2 ρ (.cells sl::os) ds k=(z2 ρ (.cells sl::os) ds some).bind k
  unfold z2
  exact zJ (m:=fun R=>zu (R:=R) ρ sl ds) (qx ρ sl ds) fun vs ds=>zg (m:=fun R=>z2 (R:=R) ρ os ds) (zb1 ρ os ds) fun _=>rfl
 | .arr _ _::os, []=>fun _ _=>rfl
 | .arr T t::os,d::ds=>fun R k=>by
  show z2 ρ (.arr T t::os) (d::ds) k=(z2 ρ (.arr T t::os) (d::ds) some).bind k
  unfold z2
  split
  ·exact zg (m:=fun R=>z2 (R:=R) ρ os ds) (zb1 ρ os ds) fun _=>rfl
  ·rfl
 | .map _ _::os, []=>fun _ _=>rfl
 | .map K V::os,d::ds=>fun R k=>by
  show z2 ρ (.map K V::os) (d::ds) k=(z2 ρ (.map K V::os) (d::ds) some).bind k
  unfold z2
  split
  ·exact zg (m:=fun R=>z2 (R:=R) ρ os ds) (zb1 ρ os ds) fun _=>rfl
  ·rfl
theorem zst {X R:Type} {k:X→Option R} (ρ:List Nat) (sk:Skel) (ds:List DV) {f:List SV→List HO→Option R} {g:List SV→List HO→Option X} (h: ∀ a b,f a b=(g a b).bind k):build ρ sk ds f=(build ρ sk ds g).bind k:=by
 unfold build
 exact zJ (m:=fun R=>zu (R:=R) ρ sk.slots ds) (qx _ _ _) fun vs ds=>zg (m:=fun R=>z2 (R:=R) ρ sk.objs ds) (zb1 _ _ _) fun hs=>h vs hs
theorem zd9 {X R:Type} {k:X→Option R} {f:List HO→Option R} {g:List HO→Option X} (h: ∀ a,f a=(g a).bind k): ∀ (mp:List PM) (hp:List HO),zag mp hp f=(zag mp hp g).bind k
 | [],hp=>h hp
 | .id i l::mp,hp=>zX hp i .gone fun hp=>zd9 h mp hp
 | .nil::mp,hp=>zd9 h mp hp
 | .none::mp,hp=>zd9 h mp hp
theorem zuj {X R:Type} {k:X→Option R} {f:List HO→Option R} {g:List HO→Option X} (h: ∀ a,f a=(g a).bind k) (mp:List PM) (os:List OSh) (hp:List HO):ze0 mp os hp f=(ze0 mp os hp g).bind k:=by
 rw[jE [] 0,jE [] 0];exact h _
theorem zhv {X R:Type} {k:X→Option R} {f:List HO→Option R} {g:List HO→Option X} (h: ∀ a,f a=(g a).bind k): ∀ (ρ:List Nat) (os hp:List HO),zdp ρ os hp f=(zdp ρ os hp g).bind k
 | [],_,hp=>by unfold zdp;exact h hp
 |_::_, [],hp=>by unfold zdp;exact h hp
 |i::ρ,o::os,hp=>by unfold zdp;exact zX hp i o fun hp=>zhv h ρ os hp
theorem zw7 (c:Con) (args:List SV) (hp:List HO):CN2 fun R=>zms (R:=R) c args hp:=by
 intro R k
 show zms c args hp k=(zms c args hp _).bind _
 unfold zms
 refine zf (znl 0 _ args hp fun ds mp hp1=>zg (m:=fun R=>za7 (R:=R) _ ds) (zqw _ ds) fun x=> ?_) rfl
 cases c.F x with
 |none=>rfl
 |some y=>
  simp only[Option.bind_some]
  refine zst _ _ _ fun vs hos=> ?_
  refine zd9 (fun hp2=> ?_) _ _
  refine zuj (fun hp3=> ?_) _ _ _
  refine zhv (fun hp4=> ?_) _ _ _
  rfl
theorem zsu (C:Ctx) (E:TypeId) (ei:TI) (x:SV) (hp:List HO):CN2 fun R=>zbh (R:=R) C E ei x hp:=by
 intro R k
 show zbh C E ei x hp k=(zbh C E ei x hp _).bind _
 unfold zbh
 split
 ·rfl
 ·refine zg (m:=fun R=>qr (R:=R) hp _) (qK hp _) fun o=> ?_
  split
  ·split
   ·refine zf ?_ rfl
    split
    ·exact zX _ _ _ fun _=>rfl
    ·rfl
   ·rfl
  ·rfl
 ·refine zg (m:=fun R=>qr (R:=R) hp _) (qK hp _) fun o=> ?_
  split
  ·split
   ·refine zf ?_ rfl
    split
    ·exact zX _ _ _ fun _=>rfl
    ·rfl
   ·rfl
  ·rfl
 ·rfl
theorem znm (C:Ctx) (fr:List SV) (i:TI) (n:Option Operand) (hp:List HO):CN2 fun R=>x9 (R:=R) C fr i n hp:=by
 intro R k
 show x9 C fr i n hp k=(x9 C fr i n hp _).bind _
 unfold x9
 split
 ·refine zH _ fun ki=>zH _ fun vi=> ?_
  split
  ·exact zg (m:=fun R=>zwk (R:=R) C fr n 0) (zuc C fr n 0) fun _=>qw _ _ fun _=>rfl
  ·rfl
 ·rfl
theorem zcz (C:Ctx) (i:TI) (m y v:SV) (hp:List HO):CN2 fun R=>qd (R:=R) C i m y v hp:=by
 intro R k
 show qd C i m y v hp k=(qd C i m y v hp _).bind _
 unfold qd
 split
 ·refine zH _ fun ki=>zH _ fun vi=> ?_
  split
  ·refine zJ (m:=fun R=>zc5 (R:=R) _ v hp) (zqv _ v hp) fun x hp=>zg (m:=fun R=>qr (R:=R) hp _) (qK hp _) fun o=> ?_
   split
   ·refine zf ?_ rfl
    split
    ·exact zX _ _ _ fun _=>rfl
    ·rfl
   ·rfl
  ·rfl
 ·rfl
theorem zuk (i:TI) (x:SV) (hp:List HO):CN2 fun R=>zbi (R:=R) i hp x:=by
 intro R k
 have plain:(xD i hp x fun s=>k s hp)=(xD i hp x fun s=>some (s,hp)).bind fun p=>k p.1 p.2:=zg (m:=fun R=>xD (R:=R) i hp x) (zhp i hp x) fun _=>rfl
 show zbi i hp x k=(zbi i hp x _).bind _
 unfold zbi
 split
 ·refine z6 hp _ fun o=> ?_
  cases o with
  |arr T t' xs=>
   refine zD (fun h=> ?_) fun _=>rfl
   subst h
   simp only
   split
   ·split
    ·exact zf (zM (zg (m:=fun R=>zmt (R:=R) _ _ _ _ _) (zps _ _ _ _ _) fun z=>zX _ _ _ fun _=>qw _ _ fun _=>rfl) rfl) rfl
    ·exact plain
   ·rfl
  |_=>rfl
 ·exact plain
theorem zw8 (C:Ctx) (Γ:List Con) (fr:List SV) (hp:List HO) (op:Op):CN2 fun R=>zg2 (R:=R) C Γ fr hp op:=by
 intro R k
 show zg2 C Γ fr hp op k=(zg2 C Γ fr hp op _).bind _
 unfold zg2
 split
 ·exact zH _ fun i=>qw _ _ fun _=>rfl
 ·exact zm _ fun s=>zj4 s fun l=>qw _ _ fun _=>rfl
 ·refine zH _ fun i=> ?_
  split
  ·refine zH _ fun ei=> ?_
   split
   ·exact zf (zg (m:=fun R=>zws (R:=R) _ _) (zug _ _) fun xs=>zJ (m:=fun R=>zbf (R:=R) C fr _ _ xs hp) (znk C fr _ _ xs hp) fun xs hp=>qw _ _ fun _=>rfl) rfl
   ·rfl
  ·rfl
 ·refine zH _ fun i=> ?_
  split
  ·refine zH _ fun ei=> ?_
   split
   ·exact zf (zm _ fun l=>zg (m:=fun R=>asI (R:=R) l) (zjy l) fun l=>zm _ fun c=>zg (m:=fun R=>asI (R:=R) c) (zjy c) fun c=>zM (qw _ _ fun _=>rfl) rfl) rfl
   ·rfl
  ·rfl
 ·exact zH _ fun i=>zm _ fun x=>zm _ fun v=>zss i x v hp R k
 ·split
  ·refine zf (zH _ fun i=> ?_) rfl
   split
   ·exact zH _ fun ei=>zm _ fun s=>zm _ fun x=>zpt C _ ei s x hp R k
   ·rfl
  ·rfl
 ·split
  ·refine zH _ fun i=> ?_
   split
   ·exact zH _ fun ei=>zm _ fun x=>zsu C _ ei x hp R k
   ·rfl
  ·rfl
 ·exact zH _ fun i=>znm C fr i _ hp R k
 ·exact zH _ fun i=>zm _ fun m=>zm _ fun y=>zm _ fun v=>zcz C i m y v hp R k
 ·exact zH _ fun i=>zm _ fun m=>zm _ fun y=>zm _ fun v=>zcz C i m y v hp R k
 ·exact zH _ fun i=>zm _ fun x=>zuk i x hp R k
 ·rw[zll]
  rw[zll (k:=fun c vs=>zms c vs hp fun a b=>some (a,b))]
  cases (zbe (R:=Con×List SV) C Γ fr _ _ fun c vs=>some (c,vs)) with
  |none=>rfl
  |some p=>exact zw7 p.1 p.2 hp R k
 ·rfl
theorem zul (hp:List HO): ∀ (n:List HO) (i id:Nat) (len:Option Nat),CN fun R=>z2g (R:=R) n i id len
 | [],_,_,_=>fun _ _=>rfl
 |o::l,0,id,len=>fun R k=>by cases o<;>rfl
 |o::l,n+1,id,len=>fun R k=>by cases o<;>exact zul hp l n id len R k
theorem zum (hp:List HO): ∀ (n:List HO) (i id off:Nat),CN fun R=>z0c (R:=R) n i id off
 | [],_,_,_=>fun _ _=>rfl
 |o::l,0,id,off=>fun R k=>by
  cases o with
  |frs t x=>exact zf rfl rfl
  |_=>rfl
 |o::l,n+1,id,off=>fun R k=>by cases o<;>exact zum hp l n id off R k
theorem zw9 (hp:List HO) (s:SV):CN fun R=>zrz (R:=R) hp s:=by
 intro R k
 cases s with
 |own id len=>exact zul hp hp id id len R k
 |ptr id off=>exact zum hp hp id id off R k
 |_=>rfl
theorem zqx (hp:List HO): ∀ (l:List SV),CN fun R=>zr0 (R:=R) hp l
 | []=>fun _ _=>rfl
 |s::l=>fun R k=>zg (m:=fun R=>zrz (R:=R) hp s) (zw9 hp s) fun s'=>zg (m:=fun R=>zr0 (R:=R) hp l) (zqx hp l) fun _=>rfl
theorem zlo (hp:List HO) (fr:List SV):CN fun R=>zad (R:=R) hp fr:=by
 intro R k
 show zad hp fr k=(zad hp fr some).bind k
 unfold zad
 exact zf (zqx hp fr R k) rfl
end Go.Sx
