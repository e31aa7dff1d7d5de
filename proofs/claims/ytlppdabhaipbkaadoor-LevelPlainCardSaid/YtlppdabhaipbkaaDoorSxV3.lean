/- The symbolic evaluator, part V3: operations with effects are told alike, whatever goes on behind. -/
import Derived.Test.YtlppdabhaipbkaaDoorSxV2
set_option linter.unusedVariables false
set_option linter.unusedSimpArgs false
namespace Go.Sx
open Go.RowKit
def CN2 {A B:Type} (m:(R:Type)→(A→B→Option R)→Option R):Prop:= ∀ (R:Type) (k:A→B→Option R),m R k=(m (A×B) fun a b=>some (a,b)).bind fun p=>k p.1 p.2
def CN3 {A B D:Type} (m:(R:Type)→(A→B→D→Option R)→Option R):Prop:= ∀ (R:Type) (k:A→B→D→Option R),m R k=(m (A×B×D) fun a b d=>some (a,b,d)).bind fun p=>k p.1 p.2.1 p.2.2
theorem zI {A B X R:Type} {m:(R:Type)→(A→B→Option R)→Option R} (hm:CN2 m) {f:A→B→Option R} {g:A→B→Option X} {k:X→Option R} (h: ∀ a b,f a b=(g a b).bind k):m R f=(m X g).bind k:=by
 rw[hm R f,hm X g]
 cases m (A×B) (fun a b=>some (a,b)) with
 |none=>rfl
 |some p=>exact h p.1 p.2
theorem qi {A B D X R:Type} {m:(R:Type)→(A→B→D→Option R)→Option R} (hm:CN3 m) {f:A→B→D→Option R} {g:A→B→D→Option X} {k:X→Option R} (h: ∀ a b d,f a b d=(g a b d).bind k):m R f=(m X g).bind k:=by
 rw[hm R f,hm X g]
 cases m (A×B×D) (fun a b d=>some (a,b,d)) with
 |none=>rfl
 |some p=>exact h p.1 p.2.1 p.2.2
theorem zD {X R:Type} {c:Prop} [Decidable c] {a:c→Option R} {a':c→Option X} {b: ¬ c→Option R} {b': ¬ c→Option X} {k:X→Option R} (h1: ∀ h,a h=(a' h).bind k) (h2: ∀ h,b h=(b' h).bind k):(if h:c then a h else b h)=(if h:c then a' h else b' h).bind k:=by
 by_cases h:c
 ·simp only[dif_pos h,h1]
 ·simp only[dif_neg h,h2]
theorem zV {α X R:Type} (l:List α) (n:Nat) (v:α) {f:List α→Option R} {g:List α→Option X} {k:X→Option R} (h: ∀ a,f a=(g a).bind k):jw l n v f=(jw l n v g).bind k:=by
 rw[zn,zn];exact h _
theorem qy {α X R:Type} (l:List α) (v:α) {f:List α→Option R} {g:List α→Option X} {k:X→Option R} (h: ∀ a,f a=(g a).bind k):jp l v f=(jp l v g).bind k:=by
 rw[zW,zW];exact h _
theorem z6 {α X R:Type} (l:List α) (n:Nat) {f:α→Option R} {g:α→Option X} {k:X→Option R} (h: ∀ a,f a=(g a).bind k):qw l n f=(qw l n g).bind k:=
 zg (m:=fun R=>qw (R:=R) l n) (qM l n) h
theorem zbi (t:Ty) (s:SV) (hp:List HO):CN2 fun R=>zlp (R:=R) t s hp:=by
 intro R k
 cases s with
 |val t' x=>exact zf (zD (fun h=>by subst h;rfl) (fun _=>rfl)) (zD (fun h=>by subst h;rfl) (fun _=>rfl))
 |bit b=>cases t<;>rfl
 |nils=>cases t<;>rfl
 |nil0=>cases t<;>rfl
 |own id len=>
  cases t with
  |sl e=>
   show qw hp id _=(qw hp id _).bind _
   refine z6 hp id fun o=> ?_
   cases o with
   |arr T e' xs=>exact zD (fun h=>by subst h;exact zV _ _ _ fun _=>rfl) (fun _=>zD (fun h=>by subst h;exact zV _ _ _ fun _=>rfl) fun _=>rfl)
   |fro e' xs=>exact zD (fun h=>by subst h;rfl) (fun _=>rfl)
   |tk _ e' xs=>exact zD (fun h=>by subst h;rfl) (fun _=>rfl)
   |_=>rfl
  |osl e=>
   refine zf (z6 hp id fun o=> ?_) rfl
   cases o with
   |arr T e' xs=>exact zD (fun h=>by subst h;exact zV _ _ _ fun _=>rfl) (fun _=>rfl)
   |fro e' xs=>exact zD (fun h=>by subst h;rfl) (fun _=>rfl)
   |tk _ e' xs=>exact zD (fun h=>by subst h;exact zV _ _ _ fun _=>rfl) (fun _=>rfl)
   |_=>rfl
  |_=>rfl
 |_=>rfl
theorem zmp {α:Type} {step:(R:Type)→List SV→List HO→(α→List SV→List HO→Option R)→Option R} (hs: ∀ l hp,CN3 fun R=>step R l hp): ∀ (n:Nat) (l:List SV) (hp:List HO),CN3 fun R=>zjb (step R) n l hp
 |0,l,hp=>fun _ _=>rfl
 |n+1,l,hp=>by
  intro R k
  show step R l hp _=(step _ l hp _).bind _
  exact qi (m:=fun R=>step R l hp) (hs l hp) fun x l hp=>qi (m:=fun R=>zjb (step R) n l hp) (zmp hs n l hp) fun xs l hp=>rfl
theorem jR: ∀ (t:Ty) (l:List SV) (hp:List HO),CN3 fun R=>qd (R:=R) t l hp
 | .pair a b,l,hp=>by
  intro R k
  show qd a l hp _=(qd a l hp _).bind _
  exact qi (m:=fun R=>qd (R:=R) a l hp) (jR a l hp) fun x l hp=>qi (m:=fun R=>qd (R:=R) b l hp) (jR b l hp) fun y l hp=>rfl
 | .unit,l,hp=>fun _ _=>rfl
 | .st f,l,hp=>jR f l hp
 | .arr n e,l,hp=>zmp (step:=fun R=>qd (R:=R) e) (fun l hp=>jR e l hp) n l hp
 | .int i, [],hp=>fun _ _=>rfl
 | .int i,s::l,hp=>fun R k=>zI (m:=fun R=>zlp (R:=R) (.int i) s hp) (zbi _ s hp) fun _ _=>rfl
 | .bool, [],hp=>fun _ _=>rfl
 | .bool,s::l,hp=>fun R k=>zI (m:=fun R=>zlp (R:=R) .bool s hp) (zbi _ s hp) fun _ _=>rfl
 | .str, [],hp=>fun _ _=>rfl
 | .str,s::l,hp=>fun R k=>zI (m:=fun R=>zlp (R:=R) .str s hp) (zbi _ s hp) fun _ _=>rfl
 | .flt, [],hp=>fun _ _=>rfl
 | .flt,s::l,hp=>fun R k=>zI (m:=fun R=>zlp (R:=R) .flt s hp) (zbi _ s hp) fun _ _=>rfl
 | .cplx, [],hp=>fun _ _=>rfl
 | .cplx,s::l,hp=>fun R k=>zI (m:=fun R=>zlp (R:=R) .cplx s hp) (zbi _ s hp) fun _ _=>rfl
 | .sl e, [],hp=>fun _ _=>rfl
 | .sl e,s::l,hp=>fun R k=>zI (m:=fun R=>zlp (R:=R) (.sl e) s hp) (zbi _ s hp) fun _ _=>rfl
 | .osl e, [],hp=>fun _ _=>rfl
 | .osl e,s::l,hp=>fun R k=>zI (m:=fun R=>zlp (R:=R) (.osl e) s hp) (zbi _ s hp) fun _ _=>rfl
theorem zpv (t:Ty) (s:SV) (hp:List HO):CN2 fun R=>zc4 (R:=R) t s hp:=by
 intro R k
 show zc4 t s hp k=(zc4 t s hp _).bind _
 unfold zc4
 split
 ·refine zf (qi (m:=fun R=>qd (R:=R) t _ hp) (jR t _ hp) fun x l hp=> ?_) rfl
  cases l<;>rfl
 ·exact zbi t _ hp R k
section
variable {X R:Type} {C:Ctx} {fr:List SV} {k:X→Option R}
theorem zgy (t:Ty) (s:SV) (hp:List HO) {f:t.den→List HO→Option R} {g:t.den→List HO→Option X} (h: ∀ a b,f a b=(g a b).bind k):zc4 t s hp f=(zc4 t s hp g).bind k:=
 zI (m:=fun R=>zc4 (R:=R) t s hp) (zpv t s hp) h
theorem zjd (s:SV) {f:List SV→Option R} {g:List SV→Option X} (h: ∀ a,f a=(g a).bind k):s.cellsK f=(s.cellsK g).bind k:=
 zg (m:=fun R=>s.cellsK (R:=R)) (zmo s) h
end
theorem zym (t:Ty) (s:SV) (hp:List HO):CN2 fun R=>roF (R:=R) t s hp:=by
 intro R k
 show roF t s hp k=(roF t s hp _).bind _
 unfold roF
 split
 ·exact zD (fun h=>by subst h;rfl) fun _=>rfl
 ·refine zf (z6 hp _ fun o=> ?_) rfl
  cases o with
  |cells l=>
   refine qi (m:=fun R=>qd (R:=R) t l hp) (jR t l hp) fun x l' hp=> ?_
   cases l' with
   |nil=>
    refine z6 hp _ fun o=> ?_
    cases o with
    |cells _=>exact zV _ _ _ fun _=>rfl
    |_=>rfl
   |cons _ _=>rfl
  |frs t' x=>exact zD (fun h=>by subst h;rfl) fun _=>rfl
  |_=>rfl
 ·rfl
theorem zmq (C:Ctx) (fr:List SV) (t:Ty): ∀ (l:List (Nat×Operand)) (xs:List t.den) (hp:List HO),CN2 fun R=>zbo (R:=R) C fr t l xs hp
 | [],xs,hp=>fun _ _=>rfl
 |(i,x)::l,xs,hp=>by
  intro R k
  show zbo C fr t ((i,x)::l) xs hp k=(zbo C fr t ((i,x)::l) xs hp _).bind _
  unfold zbo
  exact zf (zj _ fun s=>zgy t s hp fun y hp=>zV xs i y fun xs=>zI (m:=fun R=>zbo (R:=R) C fr t l xs hp) (zmq C fr t l xs hp) fun _ _=>rfl) rfl
theorem zs3 {α:Type} (x:α): ∀ (n:Nat),CN fun R=>zwe (R:=R) x n
 |0=>fun _ _=>rfl
 |n+1=>fun R k=>zg (m:=fun R=>zwe (R:=R) x n) (zs3 x n) fun _=>rfl
theorem zok (t:Ty) (s:SV) (hp:List HO):CN fun R=>zsk (R:=R) t s hp:=by
 intro R k
 show zsk t s hp k=(zsk t s hp some).bind k
 unfold zsk
 split
 ·exact zD (fun h=>by subst h;rfl) fun _=>rfl
 ·rfl
 ·rfl
 ·refine z6 hp _ fun o=> ?_
  cases o with
  |arr T e xs=>exact zD (fun h=>by subst h;rfl) fun _=>rfl
  |tk T e xs=>exact zD (fun h=>by subst h;rfl) fun _=>rfl
  |_=>rfl
 ·rfl
theorem zs0 {t':Ty}: ∀ (i:Nat) (f:Ty) (x:f.den) (gR:(R:Type)→(u:Ty)→u.den→(u.den→Option R)→Option R),(∀ u z,CN fun R=>gR R u z)→CN fun R=>znp.fsetAux (R:=R) i f x (gR R)
 |0, .pair a b,x,g,hg=>fun R k=>zg (m:=fun R=>g R a x.1) (hg a x.1) fun _=>rfl
 |i+1, .pair a b,x,g,hg=>fun R k=>zg (m:=fun R=>znp.fsetAux (R:=R) i b x.2 (g R)) (zs0 (t':=t') i b x.2 g hg) fun _=>rfl
 |0, .int _,x,g,hg=>hg _ _
 |0, .bool,x,g,hg=>hg _ _
 |0, .str,x,g,hg=>hg _ _
 |0, .flt,x,g,hg=>hg _ _
 |0, .cplx,x,g,hg=>hg _ _
 |0, .unit,x,g,hg=>hg _ _
 |0, .sl _,x,g,hg=>hg _ _
 |0, .osl _,x,g,hg=>hg _ _
 |0, .arr _ _,x,g,hg=>hg _ _
 |0, .st _,x,g,hg=>hg _ _
 |_+1, .int _,x,g,hg=>fun _ _=>rfl
 |_+1, .bool,x,g,hg=>fun _ _=>rfl
 |_+1, .str,x,g,hg=>fun _ _=>rfl
 |_+1, .flt,x,g,hg=>fun _ _=>rfl
 |_+1, .cplx,x,g,hg=>fun _ _=>rfl
 |_+1, .unit,x,g,hg=>fun _ _=>rfl
 |_+1, .sl _,x,g,hg=>fun _ _=>rfl
 |_+1, .osl _,x,g,hg=>fun _ _=>rfl
 |_+1, .arr _ _,x,g,hg=>fun _ _=>rfl
 |_+1, .st _,x,g,hg=>fun _ _=>rfl
theorem zoj: ∀ (p:List Nat) (t:Ty) (x:t.den) (t':Ty) (y:t'.den),CN fun R=>znp (R:=R) p t x t' y
 | [],t,x,t',y=>fun R k=>zD (fun h=>by subst h;rfl) fun _=>rfl
 |i::p, .st f,x,t',y=>zs0 (t':=t') i f x (fun R u z k=>znp p u z t' y k) fun u z=>zoj p u z t' y
 |_::_, .int _,_,_,_=>fun _ _=>rfl
 |_::_, .bool,_,_,_=>fun _ _=>rfl
 |_::_, .str,_,_,_=>fun _ _=>rfl
 |_::_, .flt,_,_,_=>fun _ _=>rfl
 |_::_, .cplx,_,_,_=>fun _ _=>rfl
 |_::_, .unit,_,_,_=>fun _ _=>rfl
 |_::_, .sl _,_,_,_=>fun _ _=>rfl
 |_::_, .osl _,_,_,_=>fun _ _=>rfl
 |_::_, .arr _ _,_,_,_=>fun _ _=>rfl
 |_::_, .pair _ _,_,_,_=>fun _ _=>rfl
theorem zrc (i:TI) (x v:SV) (hp:List HO):CN2 fun R=>zbt (R:=R) i x v hp:=by
 intro R k
 show zbt i x v hp k=(zbt i x v hp _).bind _
 unfold zbt
 split
 ·refine zjd v fun l'=>zf (z6 hp _ fun o=> ?_) rfl
  cases o with
  |cells l=>exact zf (zV _ _ _ fun _=>rfl) rfl
  |_=>rfl
 ·split
  ·refine zf (zgy _ v hp fun y hp=>z6 hp _ fun o=> ?_) rfl
   cases o with
   |arr T t' xs=>exact zD (fun h=>zg (m:=fun R=>znp (R:=R) _ _ _ _ y) (zoj _ _ _ _ y) fun z=>zV _ _ _ fun _=>rfl) fun _=>rfl
   |_=>rfl
  ·rfl
 ·rfl
theorem zs4 (t:Ty) (s:SV) (hp:List HO):CN2 fun R=>zu7 (R:=R) t s hp:=by
 intro R k
 show zu7 t s hp k=(zu7 t s hp _).bind _
 unfold zu7
 split
 ·exact zD (fun h=>by subst h;rfl) fun _=>rfl
 ·rfl
 ·rfl
 ·refine z6 hp _ fun o=> ?_
  cases o with
  |arr T e xs=>exact zD (fun h=>by subst h;exact zV _ _ _ fun _=>rfl) fun _=>rfl
  |_=>rfl
 ·rfl
theorem zfl (C:Ctx) (E:TypeId) (ei:TI) (x:SV) (hp:List HO):CN2 fun R=>xE (R:=R) C E ei x hp:=by
 intro R k
 show xE C E ei x hp k=(xE C E ei x hp _).bind _
 unfold xE
 split
 ·exact zf (zf (zg (m:=fun R=>zsk (R:=R) _ x hp) (zok _ x hp) fun ys=>zM (qy _ _ fun _=>rfl) rfl)
   (zI (m:=fun R=>zu7 (R:=R) _ x hp) (zs4 _ x hp) fun ys hp=>zM (qy _ _ fun _=>rfl) rfl)) rfl
 ·rfl
theorem zoh (C:Ctx) (E:TypeId) (ei:TI) (s x:SV) (hp:List HO):CN2 fun R=>jD (R:=R) C E ei s x hp:=by
 intro R k
 show jD C E ei s x hp k=(jD C E ei s x hp _).bind _
 unfold jD
 split
 ·exact zfl C E ei x hp R k
 ·exact zfl C E ei x hp R k
 ·refine z6 hp _ fun o=> ?_
  cases o with
  |arr E' t xs=>exact zf (zf (zg (m:=fun R=>zsk (R:=R) t x hp) (zok t x hp) fun ys=>zM (zV _ _ _ fun _=>qy _ _ fun _=>rfl) rfl)
    (zV _ _ _ fun hp1=>zI (m:=fun R=>zu7 (R:=R) t x hp1) (zs4 t x hp1) fun ys hp2=>zM (qy _ _ fun _=>rfl) rfl)) rfl
  |tk E' t xs=>exact zf (zg (m:=fun R=>zsk (R:=R) t x hp) (zok t x hp) fun ys=>zM (zV _ _ _ fun _=>qy _ _ fun _=>rfl) rfl) rfl
  |_=>rfl
 ·rfl
theorem zdp (mp:List PM) (j:Nat) (p:PM):CN fun R=>jz (R:=R) mp j p:=by
 intro R k
 show jz mp j p k=(jz mp j p some).bind k
 unfold jz
 refine z6 mp j fun q=> ?_
 cases q with
 |none=>exact zV _ _ _ fun _=>rfl
 |nil=>exact zf rfl rfl
 |id i l=>exact zf rfl rfl
theorem qo: ∀ (ss:List Sh) (vs:List SV) (mp:List PM) (hp:List HO),CN3 fun R=>zR (R:=R) ss vs mp hp
 | [], [],mp,hp=>fun _ _=>rfl
 | [],_::_,mp,hp=>fun _ _=>rfl
 | .hole t::ss, [],mp,hp=>fun _ _=>rfl
 | .own t::ss, [],mp,hp=>fun _ _=>rfl
 | .ptr t _::ss, [],mp,hp=>fun _ _=>rfl
 | .nilp::ss, [],mp,hp=>fun _ _=>rfl
 | .mp _::ss, [],mp,hp=>fun _ _=>rfl
 | .mp j::ss,v::vs,mp,hp=>fun R k=>by
  cases v with
  |mp id=>exact zg (m:=fun R=>jz (R:=R) mp j _) (zdp mp j _) fun mp=>qo ss vs mp hp R k
  |_=>rfl
 | .und::ss, [],mp,hp=>fun _ _=>rfl
 | .fnc f n::ss, [],mp,hp=>fun _ _=>rfl
 | .fnc f n::ss,v::vs,mp,hp=>fun R k=>by
  cases v with
  |fn g l=>exact zf (qo ss (l++vs) mp hp R k) rfl
  |_=>rfl
 | .agn n::ss, [],mp,hp=>fun _ _=>rfl
 | .agn n::ss,v::vs,mp,hp=>fun R k=>by
  cases v with
  |agg l=>exact zf (qo ss (l++vs) mp hp R k) rfl
  |_=>rfl
 | .ro t::ss, [],mp,hp=>fun _ _=>rfl
 | .ro t::ss,v::vs,mp,hp=>fun R k=>zI (m:=fun R=>roF (R:=R) t v hp) (zym t v hp) fun x hp=>qi (m:=fun R=>zR (R:=R) ss vs mp hp) (qo ss vs mp hp) fun _ _ _=>rfl
 | .hole t::ss,v::vs,mp,hp=>fun R k=>zgy t v hp fun x hp=>qi (m:=fun R=>zR (R:=R) ss vs mp hp) (qo ss vs mp hp) fun _ _ _=>rfl
 | .own j::ss,v::vs,mp,hp=>fun R k=>by
  cases v with
  |own id len=>exact zg (m:=fun R=>jz (R:=R) mp j _) (zdp mp j _) fun mp=>qo ss vs mp hp R k
  |nils=>exact zg (m:=fun R=>jz (R:=R) mp j _) (zdp mp j _) fun mp=>qo ss vs mp hp R k
  |_=>rfl
 | .ptr j off::ss,v::vs,mp,hp=>fun R k=>by
  cases v with
  |ptr id o=>exact zf (zg (m:=fun R=>jz (R:=R) mp j _) (zdp mp j _) fun mp=>qo ss vs mp hp R k) rfl
  |_=>rfl
 | .nilp::ss,v::vs,mp,hp=>fun R k=>by
  cases v with
  |nilp=>exact qo ss vs mp hp R k
  |_=>rfl
 | .und::ss,v::vs,mp,hp=>qo ss vs mp hp
theorem jS: ∀ (os:List OSh) (j:Nat) (mp:List PM) (hp:List HO),CN3 fun R=>xI (R:=R) j os mp hp
 | [],j,mp,hp=>fun _ _=>rfl
 | .gone::os,j,mp,hp=>jS os (j+1) mp hp
 | .cells sl::os,j,mp,hp=>fun R k=>by
  refine z6 mp j fun p=> ?_
  cases p with
  |id i l=>
   cases l with
   |none=>
    refine z6 hp i fun o=> ?_
    cases o with
    |cells l=>exact qi (m:=fun R=>zR (R:=R) sl l mp hp) (qo sl l mp hp) fun mp ds hp=>qi (m:=fun R=>xI (R:=R) (j+1) os mp hp) (jS os (j+1) mp hp) fun _ _ _=>rfl
    |_=>rfl
   |some n=>rfl
  |_=>rfl
 | .arr T t::os,j,mp,hp=>fun R k=>by
  refine z6 mp j fun p=> ?_
  cases p with
  |nil=>exact qi (m:=fun R=>xI (R:=R) (j+1) os mp hp) (jS os (j+1) mp hp) fun _ _ _=>rfl
  |id i len=>
   refine z6 hp i fun o=> ?_
   cases o with
   |arr T' t' xs=>exact zf (zD (fun h=>qi (m:=fun R=>xI (R:=R) (j+1) os mp hp) (jS os (j+1) mp hp) fun _ _ _=>rfl) fun _=>rfl) rfl
   |_=>rfl
  |none=>rfl
 | .map K V::os,j,mp,hp=>fun R k=>by
  refine z6 mp j fun p=> ?_
  cases p with
  |id i l=>
   cases l with
   |none=>
    refine z6 hp i fun o=> ?_
    cases o with
    |map K' V' es=>exact zD (fun h=>qi (m:=fun R=>xI (R:=R) (j+1) os mp hp) (jS os (j+1) mp hp) fun _ _ _=>rfl) fun _=>rfl
    |_=>rfl
   |some n=>rfl
  |_=>rfl
theorem zju {X R:Type} {k:X→Option R} {x:Option R} {y:Option X} (hp:List HO) (h:x=y.bind k): ∀ (l:List Nat),zrt l hp x=(zrt l hp y).bind k
 | []=>h
 |i::l=>z6 hp i fun o=>zf (zju hp h l) rfl
theorem znn {X R:Type} {k:X→Option R} (n0:Nat) (sk:Skel) (vs:List SV) (hp:List HO) {f:List DV→List PM→List HO→Option R} {g:List DV→List PM→List HO→Option X} (h: ∀ a b c,f a b c=(g a b c).bind k):
  zqk n0 sk vs hp f=(zqk n0 sk vs hp g).bind k:=by
 unfold zqk
 exact qi (m:=fun R=>zR (R:=R) sk.slots vs _ hp) (qo _ _ _ _) fun mp ds hp=>qi (m:=fun R=>xI (R:=R) 0 sk.objs mp hp) (jS _ _ _ _) fun mp ds' hp=>
  zf (zju hp (h _ _ _) _) rfl
theorem zpx: ∀ (ts:List Ty) (ds:List DV),CN fun R=>zba (R:=R) ts ds
 | [], []=>fun _ _=>rfl
 | [],_::_=>fun _ _=>rfl
 | [t], []=>fun _ _=>rfl
 | [t], [d]=>fun R k=>zD (fun h=>rfl) fun _=>rfl
 | [t],_::_::_=>fun _ _=>rfl
 |t::u::l, []=>fun _ _=>rfl
 |t::u::l,d::ds=>fun R k=>zD (fun h=>zg (m:=fun R=>zba (R:=R) (u::l) ds) (zpx (u::l) ds) fun _=>rfl) fun _=>rfl
theorem qu (ρ:List Nat): ∀ (ss:List Sh) (ds:List DV),CN2 fun R=>zr (R:=R) ρ ss ds
 | [],ds=>fun _ _=>rfl
 | .fnc f n::ss,ds=>fun R k=>by
  show zr ρ (.fnc f n::ss) ds k=(zr ρ (.fnc f n::ss) ds _).bind _
  unfold zr
  exact zI (m:=fun R=>zr (R:=R) ρ ss ds) (qu ρ ss ds) fun _ _=>rfl
 | .agn n::ss,ds=>fun R k=>by
  show zr ρ (.agn n::ss) ds k=(zr ρ (.agn n::ss) ds _).bind _
  unfold zr
  exact zI (m:=fun R=>zr (R:=R) ρ ss ds) (qu ρ ss ds) fun _ _=>rfl
 | .ro _::ss, []=>fun _ _=>rfl
 | .ro _::ss,d::ds=>fun R k=>zI (m:=fun R=>zr (R:=R) ρ ss ds) (qu ρ ss ds) fun _ _=>rfl
 | .hole _::ss, []=>fun _ _=>rfl
 | .hole _::ss,d::ds=>fun R k=>zI (m:=fun R=>zr (R:=R) ρ ss ds) (qu ρ ss ds) fun _ _=>rfl
 | .own j::ss,ds=>fun R k=>by
  show zr ρ (.own j::ss) ds k=(zr ρ (.own j::ss) ds _).bind _
  unfold zr
  exact zI (m:=fun R=>zr (R:=R) ρ ss ds) (qu ρ ss ds) fun _ _=>rfl
 | .ptr j off::ss,ds=>fun R k=>by
  show zr ρ (.ptr j off::ss) ds k=(zr ρ (.ptr j off::ss) ds _).bind _
  unfold zr
  exact zI (m:=fun R=>zr (R:=R) ρ ss ds) (qu ρ ss ds) fun _ _=>rfl
 | .nilp::ss,ds=>fun R k=>by
  show zr ρ (.nilp::ss) ds k=(zr ρ (.nilp::ss) ds _).bind _
  unfold zr
  exact zI (m:=fun R=>zr (R:=R) ρ ss ds) (qu ρ ss ds) fun _ _=>rfl
 | .mp j::ss,ds=>fun R k=>by
  show zr ρ (.mp j::ss) ds k=(zr ρ (.mp j::ss) ds _).bind _
  unfold zr
  exact zI (m:=fun R=>zr (R:=R) ρ ss ds) (qu ρ ss ds) fun _ _=>rfl
 | .und::ss,ds=>fun R k=>by
  show zr ρ (.und::ss) ds k=(zr ρ (.und::ss) ds _).bind _
  unfold zr
  exact zI (m:=fun R=>zr (R:=R) ρ ss ds) (qu ρ ss ds) fun _ _=>rfl
theorem zbh (ρ:List Nat): ∀ (os:List OSh) (ds:List DV),CN fun R=>zZ (R:=R) ρ os ds
 | [],ds=>fun _ _=>rfl
 | .gone::os,ds=>fun R k=>by
  show zZ ρ (.gone::os) ds k=(zZ ρ (.gone::os) ds some).bind k
  unfold zZ
  exact zg (m:=fun R=>zZ (R:=R) ρ os ds) (zbh ρ os ds) fun _=>rfl
 | .cells sl::os,ds=>fun R k=>by
  show zZ ρ (.cells sl::os) ds k=(zZ ρ (.cells sl::os) ds some).bind k
  unfold zZ
  exact zI (m:=fun R=>zr (R:=R) ρ sl ds) (qu ρ sl ds) fun vs ds=>zg (m:=fun R=>zZ (R:=R) ρ os ds) (zbh ρ os ds) fun _=>rfl
 | .arr _ _::os, []=>fun _ _=>rfl
 | .arr T t::os,d::ds=>fun R k=>by
  show zZ ρ (.arr T t::os) (d::ds) k=(zZ ρ (.arr T t::os) (d::ds) some).bind k
  unfold zZ
  split
  ·exact zg (m:=fun R=>zZ (R:=R) ρ os ds) (zbh ρ os ds) fun _=>rfl
  ·rfl
 | .map _ _::os, []=>fun _ _=>rfl
 | .map K V::os,d::ds=>fun R k=>by
  show zZ ρ (.map K V::os) (d::ds) k=(zZ ρ (.map K V::os) (d::ds) some).bind k
  unfold zZ
  split
  ·exact zg (m:=fun R=>zZ (R:=R) ρ os ds) (zbh ρ os ds) fun _=>rfl
  ·rfl
theorem zq2 {X R:Type} {k:X→Option R} (ρ:List Nat) (sk:Skel) (ds:List DV) {f:List SV→List HO→Option R} {g:List SV→List HO→Option X} (h: ∀ a b,f a b=(g a b).bind k):build ρ sk ds f=(build ρ sk ds g).bind k:=by
 unfold build
 exact zI (m:=fun R=>zr (R:=R) ρ sk.slots ds) (qu _ _ _) fun vs ds=>zg (m:=fun R=>zZ (R:=R) ρ sk.objs ds) (zbh _ _ _) fun hs=>h vs hs
theorem zdt {X R:Type} {k:X→Option R} {f:List HO→Option R} {g:List HO→Option X} (h: ∀ a,f a=(g a).bind k): ∀ (mp:List PM) (hp:List HO),zai mp hp f=(zai mp hp g).bind k
 | [],hp=>h hp
 | .id i l::mp,hp=>zV hp i .gone fun hp=>zdt h mp hp
 | .nil::mp,hp=>zdt h mp hp
 | .none::mp,hp=>zdt h mp hp
theorem ztm {X R:Type} {k:X→Option R} {f:List HO→Option R} {g:List HO→Option X} (h: ∀ a,f a=(g a).bind k) (mp:List PM) (os:List OSh) (hp:List HO):zew mp os hp f=(zew mp os hp g).bind k:=by
 rw[jF [] 0,jF [] 0];exact h _
theorem zh0 {X R:Type} {k:X→Option R} {f:List HO→Option R} {g:List HO→Option X} (h: ∀ a,f a=(g a).bind k): ∀ (ρ:List Nat) (os hp:List HO),zea ρ os hp f=(zea ρ os hp g).bind k
 | [],_,hp=>by unfold zea;exact h hp
 |_::_, [],hp=>by unfold zea;exact h hp
 |i::ρ,o::os,hp=>by unfold zea;exact zV hp i o fun hp=>zh0 h ρ os hp
theorem zvh (c:Con) (args:List SV) (hp:List HO):CN2 fun R=>zmx (R:=R) c args hp:=by
 intro R k
 show zmx c args hp k=(zmx c args hp _).bind _
 unfold zmx
 refine zf (znn 0 _ args hp fun ds mp hp1=>zg (m:=fun R=>zba (R:=R) _ ds) (zpx _ ds) fun x=> ?_) rfl
 cases c.F x with
 |none=>rfl
 |some y=>
  simp only[Option.bind_some]
  refine zq2 _ _ _ fun vs hos=> ?_
  refine zdt (fun hp2=> ?_) _ _
  refine ztm (fun hp3=> ?_) _ _ _
  refine zh0 (fun hp4=> ?_) _ _ _
  rfl
theorem zq7 (C:Ctx) (E:TypeId) (ei:TI) (x:SV) (hp:List HO):CN2 fun R=>zbp (R:=R) C E ei x hp:=by
 intro R k
 show zbp C E ei x hp k=(zbp C E ei x hp _).bind _
 unfold zbp
 split
 ·rfl
 ·refine zg (m:=fun R=>qw (R:=R) hp _) (qM hp _) fun o=> ?_
  split
  ·split
   ·refine zf ?_ rfl
    split
    ·exact zV _ _ _ fun _=>rfl
    ·rfl
   ·rfl
  ·rfl
 ·refine zg (m:=fun R=>qw (R:=R) hp _) (qM hp _) fun o=> ?_
  split
  ·split
   ·refine zf ?_ rfl
    split
    ·exact zV _ _ _ fun _=>rfl
    ·rfl
   ·rfl
  ·rfl
 ·rfl
theorem zmr (C:Ctx) (fr:List SV) (i:TI) (n:Option Operand) (hp:List HO):CN2 fun R=>je (R:=R) C fr i n hp:=by
 intro R k
 show je C fr i n hp k=(je C fr i n hp _).bind _
 unfold je
 split
 ·refine zH _ fun ki=>zH _ fun vi=> ?_
  split
  ·exact zg (m:=fun R=>zu5 (R:=R) C fr n 0) (zs2 C fr n 0) fun _=>qy _ _ fun _=>rfl
  ·rfl
 ·rfl
theorem zcp (C:Ctx) (i:TI) (m y v:SV) (hp:List HO):CN2 fun R=>qj (R:=R) C i m y v hp:=by
 intro R k
 show qj C i m y v hp k=(qj C i m y v hp _).bind _
 unfold qj
 split
 ·refine zH _ fun ki=>zH _ fun vi=> ?_
  split
  ·refine zI (m:=fun R=>zc4 (R:=R) _ v hp) (zpv _ v hp) fun x hp=>zg (m:=fun R=>qw (R:=R) hp _) (qM hp _) fun o=> ?_
   split
   ·refine zf ?_ rfl
    split
    ·exact zV _ _ _ fun _=>rfl
    ·rfl
   ·rfl
  ·rfl
 ·rfl
theorem zsx (i:TI) (x:SV) (hp:List HO):CN2 fun R=>zbq (R:=R) i hp x:=by
 intro R k
 have plain:(xF i hp x fun s=>k s hp)=(xF i hp x fun s=>some (s,hp)).bind fun p=>k p.1 p.2:=zg (m:=fun R=>xF (R:=R) i hp x) (zgu i hp x) fun _=>rfl
 show zbq i hp x k=(zbq i hp x _).bind _
 unfold zbq
 split
 ·refine z6 hp _ fun o=> ?_
  cases o with
  |arr T t' xs=>
   refine zD (fun h=> ?_) fun _=>rfl
   subst h
   simp only
   split
   ·split
    ·exact zf (zM (zg (m:=fun R=>znp (R:=R) _ _ _ _ _) (zoj _ _ _ _ _) fun z=>zV _ _ _ fun _=>qy _ _ fun _=>rfl) rfl) rfl
    ·exact plain
   ·rfl
  |_=>rfl
 ·exact plain
theorem zvi (C:Ctx) (Γ:List Con) (fr:List SV) (hp:List HO) (op:Op):CN2 fun R=>zg4 (R:=R) C Γ fr hp op:=by
 intro R k
 show zg4 C Γ fr hp op k=(zg4 C Γ fr hp op _).bind _
 unfold zg4
 split
 ·exact zH _ fun i=>qy _ _ fun _=>rfl
 ·exact zj _ fun s=>zjd s fun l=>qy _ _ fun _=>rfl
 ·refine zH _ fun i=> ?_
  split
  ·refine zH _ fun ei=> ?_
   split
   ·exact zf (zg (m:=fun R=>zwe (R:=R) _ _) (zs3 _ _) fun xs=>zI (m:=fun R=>zbo (R:=R) C fr _ _ xs hp) (zmq C fr _ _ xs hp) fun xs hp=>qy _ _ fun _=>rfl) rfl
   ·rfl
  ·rfl
 ·refine zH _ fun i=> ?_
  split
  ·refine zH _ fun ei=> ?_
   split
   ·exact zf (zj _ fun l=>zg (m:=fun R=>asI (R:=R) l) (zje l) fun l=>zj _ fun c=>zg (m:=fun R=>asI (R:=R) c) (zje c) fun c=>zM (qy _ _ fun _=>rfl) rfl) rfl
   ·rfl
  ·rfl
 ·exact zH _ fun i=>zj _ fun x=>zj _ fun v=>zrc i x v hp R k
 ·split
  ·refine zf (zH _ fun i=> ?_) rfl
   split
   ·exact zH _ fun ei=>zj _ fun s=>zj _ fun x=>zoh C _ ei s x hp R k
   ·rfl
  ·rfl
 ·split
  ·refine zH _ fun i=> ?_
   split
   ·exact zH _ fun ei=>zj _ fun x=>zq7 C _ ei x hp R k
   ·rfl
  ·rfl
 ·exact zH _ fun i=>zmr C fr i _ hp R k
 ·exact zH _ fun i=>zj _ fun m=>zj _ fun y=>zj _ fun v=>zcp C i m y v hp R k
 ·exact zH _ fun i=>zj _ fun m=>zj _ fun y=>zj _ fun v=>zcp C i m y v hp R k
 ·exact zH _ fun i=>zj _ fun x=>zsx i x hp R k
 ·rw[zkp]
  rw[zkp (k:=fun c vs=>zmx c vs hp fun a b=>some (a,b))]
  cases (zbf (R:=Con×List SV) C Γ fr _ _ fun c vs=>some (c,vs)) with
  |none=>rfl
  |some p=>exact zvh p.1 p.2 hp R k
 ·rfl
theorem zsy (hp:List HO): ∀ (n:List HO) (i id:Nat) (len:Option Nat),CN fun R=>z0m (R:=R) n i id len
 | [],_,_,_=>fun _ _=>rfl
 |o::l,0,id,len=>fun R k=>by cases o<;>rfl
 |o::l,n+1,id,len=>fun R k=>by cases o<;>exact zsy hp l n id len R k
theorem zsz (hp:List HO): ∀ (n:List HO) (i id off:Nat),CN fun R=>zzo (R:=R) n i id off
 | [],_,_,_=>fun _ _=>rfl
 |o::l,0,id,off=>fun R k=>by
  cases o with
  |frs t x=>exact zf rfl rfl
  |_=>rfl
 |o::l,n+1,id,off=>fun R k=>by cases o<;>exact zsz hp l n id off R k
theorem zvm (hp:List HO) (s:SV):CN fun R=>zsd (R:=R) hp s:=by
 intro R k
 cases s with
 |own id len=>exact zsy hp hp id id len R k
 |ptr id off=>exact zsz hp hp id id off R k
 |_=>rfl
theorem zpw (hp:List HO): ∀ (l:List SV),CN fun R=>zsc (R:=R) hp l
 | []=>fun _ _=>rfl
 |s::l=>fun R k=>zg (m:=fun R=>zsd (R:=R) hp s) (zvm hp s) fun s'=>zg (m:=fun R=>zsc (R:=R) hp l) (zpw hp l) fun _=>rfl
theorem zky (hp:List HO) (fr:List SV):CN fun R=>zay (R:=R) hp fr:=by
 intro R k
 show zay hp fr k=(zay hp fr some).bind k
 unfold zay
 exact zf (zpw hp fr R k) rfl
end Go.Sx
