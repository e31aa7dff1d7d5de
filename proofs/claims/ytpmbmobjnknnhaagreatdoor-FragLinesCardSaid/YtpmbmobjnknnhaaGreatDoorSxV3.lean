/- The symbolic evaluator, part V3: operations with effects are told alike, whatever goes on behind. -/
import Derived.Test.YtpmbmobjnknnhaaGreatDoorSxV2
set_option linter.unusedVariables false
set_option linter.unusedSimpArgs false
namespace Go.Sx
open Go.RowKit
def CN2 {A B:Type} (m:(R:Type)→(A→B→Option R)→Option R):Prop:= ∀ (R:Type) (k:A→B→Option R),m R k=(m (A×B) fun a b=>some (a,b)).bind fun p=>k p.1 p.2
def CN3 {A B D:Type} (m:(R:Type)→(A→B→D→Option R)→Option R):Prop:= ∀ (R:Type) (k:A→B→D→Option R),m R k=(m (A×B×D) fun a b d=>some (a,b,d)).bind fun p=>k p.1 p.2.1 p.2.2
theorem zI {A B X R:Type} {m:(R:Type)→(A→B→Option R)→Option R} (hm:CN2 m) {f:A→B→Option R} {g:A→B→Option X} {k:X→Option R} (h: ∀ a b,f a b=(g a b).bind k):m R f=(m X g).bind k:=by
 rw[hm R f,hm X g]
 cases m (A×B) (fun a b=>some (a,b)) with
 |none=>rfl
 |some p=>exact h p.1 p.2
theorem ql {A B D X R:Type} {m:(R:Type)→(A→B→D→Option R)→Option R} (hm:CN3 m) {f:A→B→D→Option R} {g:A→B→D→Option X} {k:X→Option R} (h: ∀ a b d,f a b d=(g a b d).bind k):m R f=(m X g).bind k:=by
 rw[hm R f,hm X g]
 cases m (A×B×D) (fun a b d=>some (a,b,d)) with
 |none=>rfl
 |some p=>exact h p.1 p.2.1 p.2.2
theorem zD {X R:Type} {c:Prop} [Decidable c] {a:c→Option R} {a':c→Option X} {b: ¬ c→Option R} {b': ¬ c→Option X} {k:X→Option R} (h1: ∀ h,a h=(a' h).bind k) (h2: ∀ h,b h=(b' h).bind k):(if h:c then a h else b h)=(if h:c then a' h else b' h).bind k:=by
 by_cases h:c
 ·simp only[dif_pos h,h1]
 ·simp only[dif_neg h,h2]
theorem zY {α X R:Type} (l:List α) (n:Nat) (v:α) {f:List α→Option R} {g:List α→Option X} {k:X→Option R} (h: ∀ a,f a=(g a).bind k):jB l n v f=(jB l n v g).bind k:=by
 rw[zr,zr];exact h _
theorem qB {α X R:Type} (l:List α) (v:α) {f:List α→Option R} {g:List α→Option X} {k:X→Option R} (h: ∀ a,f a=(g a).bind k):jv l v f=(jv l v g).bind k:=by
 rw[zZ,zZ];exact h _
theorem qa {α X R:Type} (l:List α) (n:Nat) {f:α→Option R} {g:α→Option X} {k:X→Option R} (h: ∀ a,f a=(g a).bind k):qz l n f=(qz l n g).bind k:=
 zg (m:=fun R=>qz (R:=R) l n) (qO l n) h
theorem zbr (t:Ty) (s:SV) (hp:List HO):CN2 fun R=>zmn (R:=R) t s hp:=by
 intro R k
 cases s with
 |val t' x=>exact zf (zD (fun h=>by subst h;rfl) (fun _=>rfl)) (zD (fun h=>by subst h;rfl) (fun _=>rfl))
 |bit b=>cases t<;>rfl
 |nils=>cases t<;>rfl
 |nil0=>cases t<;>rfl
 |own id len=>
  cases t with
  |sl e=>
   show qz hp id _=(qz hp id _).bind _
   refine qa hp id fun o=> ?_
   cases o with
   |arr T e' xs=>exact zD (fun h=>by subst h;exact zY _ _ _ fun _=>rfl) (fun _=>zD (fun h=>by subst h;exact zY _ _ _ fun _=>rfl) fun _=>rfl)
   |fro e' xs=>exact zD (fun h=>by subst h;rfl) (fun _=>rfl)
   |tk _ e' xs=>exact zD (fun h=>by subst h;rfl) (fun _=>rfl)
   |_=>rfl
  |osl e=>
   refine zf (qa hp id fun o=> ?_) rfl
   cases o with
   |arr T e' xs=>exact zD (fun h=>by subst h;exact zY _ _ _ fun _=>rfl) (fun _=>rfl)
   |fro e' xs=>exact zD (fun h=>by subst h;rfl) (fun _=>rfl)
   |tk _ e' xs=>exact zD (fun h=>by subst h;exact zY _ _ _ fun _=>rfl) (fun _=>rfl)
   |_=>rfl
  |_=>rfl
 |_=>rfl
theorem znp {α:Type} {step:(R:Type)→List SV→List HO→(α→List SV→List HO→Option R)→Option R} (hs: ∀ l hp,CN3 fun R=>step R l hp): ∀ (n:Nat) (l:List SV) (hp:List HO),CN3 fun R=>zkb (step R) n l hp
 |0,l,hp=>fun _ _=>rfl
 |n+1,l,hp=>by
  intro R k
  show step R l hp _=(step _ l hp _).bind _
  exact ql (m:=fun R=>step R l hp) (hs l hp) fun x l hp=>ql (m:=fun R=>zkb (step R) n l hp) (znp hs n l hp) fun xs l hp=>rfl
theorem jY: ∀ (t:Ty) (l:List SV) (hp:List HO),CN3 fun R=>qe (R:=R) t l hp
 | .pair a b,l,hp=>by
  intro R k
  show qe a l hp _=(qe a l hp _).bind _
  exact ql (m:=fun R=>qe (R:=R) a l hp) (jY a l hp) fun x l hp=>ql (m:=fun R=>qe (R:=R) b l hp) (jY b l hp) fun y l hp=>rfl
 | .unit,l,hp=>fun _ _=>rfl
 | .st f,l,hp=>jY f l hp
 | .arr n e,l,hp=>znp (step:=fun R=>qe (R:=R) e) (fun l hp=>jY e l hp) n l hp
 | .int i, [],hp=>fun _ _=>rfl
 | .int i,s::l,hp=>fun R k=>zI (m:=fun R=>zmn (R:=R) (.int i) s hp) (zbr _ s hp) fun _ _=>rfl
 | .bool, [],hp=>fun _ _=>rfl
 | .bool,s::l,hp=>fun R k=>zI (m:=fun R=>zmn (R:=R) .bool s hp) (zbr _ s hp) fun _ _=>rfl
 | .str, [],hp=>fun _ _=>rfl
 | .str,s::l,hp=>fun R k=>zI (m:=fun R=>zmn (R:=R) .str s hp) (zbr _ s hp) fun _ _=>rfl
 | .flt, [],hp=>fun _ _=>rfl
 | .flt,s::l,hp=>fun R k=>zI (m:=fun R=>zmn (R:=R) .flt s hp) (zbr _ s hp) fun _ _=>rfl
 | .cplx, [],hp=>fun _ _=>rfl
 | .cplx,s::l,hp=>fun R k=>zI (m:=fun R=>zmn (R:=R) .cplx s hp) (zbr _ s hp) fun _ _=>rfl
 | .sl e, [],hp=>fun _ _=>rfl
 | .sl e,s::l,hp=>fun R k=>zI (m:=fun R=>zmn (R:=R) (.sl e) s hp) (zbr _ s hp) fun _ _=>rfl
 | .osl e, [],hp=>fun _ _=>rfl
 | .osl e,s::l,hp=>fun R k=>zI (m:=fun R=>zmn (R:=R) (.osl e) s hp) (zbr _ s hp) fun _ _=>rfl
theorem zq2 (t:Ty) (s:SV) (hp:List HO):CN2 fun R=>zdd (R:=R) t s hp:=by
 intro R k
 show zdd t s hp k=(zdd t s hp _).bind _
 unfold zdd
 split
 ·refine zf (ql (m:=fun R=>qe (R:=R) t _ hp) (jY t _ hp) fun x l hp=> ?_) rfl
  cases l<;>rfl
 ·exact zbr t _ hp R k
section
variable {X R:Type} {C:Ctx} {fr:List SV} {k:X→Option R}
theorem zhn (t:Ty) (s:SV) (hp:List HO) {f:t.den→List HO→Option R} {g:t.den→List HO→Option X} (h: ∀ a b,f a b=(g a b).bind k):zdd t s hp f=(zdd t s hp g).bind k:=
 zI (m:=fun R=>zdd (R:=R) t s hp) (zq2 t s hp) h
theorem zkd (s:SV) {f:List SV→Option R} {g:List SV→Option X} (h: ∀ a,f a=(g a).bind k):s.cellsK f=(s.cellsK g).bind k:=
 zg (m:=fun R=>s.cellsK (R:=R)) (zno s) h
end
theorem z0s (t:Ty) (s:SV) (hp:List HO):CN2 fun R=>roF (R:=R) t s hp:=by
 intro R k
 show roF t s hp k=(roF t s hp _).bind _
 unfold roF
 split
 ·exact zD (fun h=>by subst h;rfl) fun _=>rfl
 ·refine zf (qa hp _ fun o=> ?_) rfl
  cases o with
  |cells l=>
   refine ql (m:=fun R=>qe (R:=R) t l hp) (jY t l hp) fun x l' hp=> ?_
   cases l' with
   |nil=>
    refine qa hp _ fun o=> ?_
    cases o with
    |cells _=>exact zY _ _ _ fun _=>rfl
    |_=>rfl
   |cons _ _=>rfl
  |frs t' x=>exact zD (fun h=>by subst h;rfl) fun _=>rfl
  |_=>rfl
 ·rfl
theorem znq (C:Ctx) (fr:List SV) (t:Ty): ∀ (l:List (Nat×Operand)) (xs:List t.den) (hp:List HO),CN2 fun R=>zbx (R:=R) C fr t l xs hp
 | [],xs,hp=>fun _ _=>rfl
 |(i,x)::l,xs,hp=>by
  intro R k
  show zbx C fr t ((i,x)::l) xs hp k=(zbx C fr t ((i,x)::l) xs hp _).bind _
  unfold zbx
  exact zf (zn _ fun s=>zhn t s hp fun y hp=>zY xs i y fun xs=>zI (m:=fun R=>zbx (R:=R) C fr t l xs hp) (znq C fr t l xs hp) fun _ _=>rfl) rfl
theorem zul {α:Type} (x:α): ∀ (n:Nat),CN fun R=>zx9 (R:=R) x n
 |0=>fun _ _=>rfl
 |n+1=>fun R k=>zg (m:=fun R=>zx9 (R:=R) x n) (zul x n) fun _=>rfl
theorem zpo (t:Ty) (s:SV) (hp:List HO):CN fun R=>zt2 (R:=R) t s hp:=by
 intro R k
 show zt2 t s hp k=(zt2 t s hp some).bind k
 unfold zt2
 split
 ·exact zD (fun h=>by subst h;rfl) fun _=>rfl
 ·rfl
 ·rfl
 ·refine qa hp _ fun o=> ?_
  cases o with
  |arr T e xs=>exact zD (fun h=>by subst h;rfl) fun _=>rfl
  |tk T e xs=>exact zD (fun h=>by subst h;rfl) fun _=>rfl
  |_=>rfl
 ·rfl
theorem zui {t':Ty}: ∀ (i:Nat) (f:Ty) (x:f.den) (gR:(R:Type)→(u:Ty)→u.den→(u.den→Option R)→Option R),(∀ u z,CN fun R=>gR R u z)→CN fun R=>zos.fsetAux (R:=R) i f x (gR R)
 |0, .pair a b,x,g,hg=>fun R k=>zg (m:=fun R=>g R a x.1) (hg a x.1) fun _=>rfl
 |i+1, .pair a b,x,g,hg=>fun R k=>zg (m:=fun R=>zos.fsetAux (R:=R) i b x.2 (g R)) (zui (t':=t') i b x.2 g hg) fun _=>rfl
 |0, .int _,x,g,hg=>hg _ _
 |0, .bool,x,g,hg=>hg _ _
 |0, .str,x,g,hg=>hg _ _
 |0, .flt,x,g,hg=>hg _ _
 |0, .cplx,x,g,hg=>hg _ _
 |0, .unit,x,g,hg=>hg _ _
 |0, .sl _,x,g,hg=>hg _ _
 |0, .osl _,x,g,hg=>hg _ _
 |0, .arr _ _,x,g,hg=>hg _ _
 |0, .st _,x,g,hg=>hg _ _
 |_+1, .int _,x,g,hg=>fun _ _=>rfl
 |_+1, .bool,x,g,hg=>fun _ _=>rfl
 |_+1, .str,x,g,hg=>fun _ _=>rfl
 |_+1, .flt,x,g,hg=>fun _ _=>rfl
 |_+1, .cplx,x,g,hg=>fun _ _=>rfl
 |_+1, .unit,x,g,hg=>fun _ _=>rfl
 |_+1, .sl _,x,g,hg=>fun _ _=>rfl
 |_+1, .osl _,x,g,hg=>fun _ _=>rfl
 |_+1, .arr _ _,x,g,hg=>fun _ _=>rfl
 |_+1, .st _,x,g,hg=>fun _ _=>rfl
theorem zpn: ∀ (p:List Nat) (t:Ty) (x:t.den) (t':Ty) (y:t'.den),CN fun R=>zos (R:=R) p t x t' y
 | [],t,x,t',y=>fun R k=>zD (fun h=>by subst h;rfl) fun _=>rfl
 |i::p, .st f,x,t',y=>zui (t':=t') i f x (fun R u z k=>zos p u z t' y k) fun u z=>zpn p u z t' y
 |_::_, .int _,_,_,_=>fun _ _=>rfl
 |_::_, .bool,_,_,_=>fun _ _=>rfl
 |_::_, .str,_,_,_=>fun _ _=>rfl
 |_::_, .flt,_,_,_=>fun _ _=>rfl
 |_::_, .cplx,_,_,_=>fun _ _=>rfl
 |_::_, .unit,_,_,_=>fun _ _=>rfl
 |_::_, .sl _,_,_,_=>fun _ _=>rfl
 |_::_, .osl _,_,_,_=>fun _ _=>rfl
 |_::_, .arr _ _,_,_,_=>fun _ _=>rfl
 |_::_, .pair _ _,_,_,_=>fun _ _=>rfl
theorem zsr (i:TI) (x v:SV) (hp:List HO):CN2 fun R=>zb2 (R:=R) i x v hp:=by
 intro R k
 show zb2 i x v hp k=(zb2 i x v hp _).bind _
 unfold zb2
 split
 ·refine zkd v fun l'=>zf (qa hp _ fun o=> ?_) rfl
  cases o with
  |cells l=>exact zf (zY _ _ _ fun _=>rfl) rfl
  |_=>rfl
 ·split
  ·refine zf (zhn _ v hp fun y hp=>qa hp _ fun o=> ?_) rfl
   cases o with
   |arr T t' xs=>exact zD (fun h=>zg (m:=fun R=>zos (R:=R) _ _ _ _ y) (zpn _ _ _ _ y) fun z=>zY _ _ _ fun _=>rfl) fun _=>rfl
   |_=>rfl
  ·rfl
 ·rfl
theorem zum (t:Ty) (s:SV) (hp:List HO):CN2 fun R=>zw0 (R:=R) t s hp:=by
 intro R k
 show zw0 t s hp k=(zw0 t s hp _).bind _
 unfold zw0
 split
 ·exact zD (fun h=>by subst h;rfl) fun _=>rfl
 ·rfl
 ·rfl
 ·refine qa hp _ fun o=> ?_
  cases o with
  |arr T e xs=>exact zD (fun h=>by subst h;exact zY _ _ _ fun _=>rfl) fun _=>rfl
  |_=>rfl
 ·rfl
theorem zf7 (C:Ctx) (E:TypeId) (ei:TI) (x:SV) (hp:List HO):CN2 fun R=>xH (R:=R) C E ei x hp:=by
 intro R k
 show xH C E ei x hp k=(xH C E ei x hp _).bind _
 unfold xH
 split
 ·exact zf (zf (zg (m:=fun R=>zt2 (R:=R) _ x hp) (zpo _ x hp) fun ys=>zM (qB _ _ fun _=>rfl) rfl)
   (zI (m:=fun R=>zw0 (R:=R) _ x hp) (zum _ x hp) fun ys hp=>zM (qB _ _ fun _=>rfl) rfl)) rfl
 ·rfl
theorem zpl (C:Ctx) (E:TypeId) (ei:TI) (s x:SV) (hp:List HO):CN2 fun R=>jI (R:=R) C E ei s x hp:=by
 intro R k
 show jI C E ei s x hp k=(jI C E ei s x hp _).bind _
 unfold jI
 split
 ·exact zf7 C E ei x hp R k
 ·exact zf7 C E ei x hp R k
 ·refine qa hp _ fun o=> ?_
  cases o with
  |arr E' t xs=>exact zf (zf (zg (m:=fun R=>zt2 (R:=R) t x hp) (zpo t x hp) fun ys=>zM (zY _ _ _ fun _=>qB _ _ fun _=>rfl) rfl)
    (zY _ _ _ fun hp1=>zI (m:=fun R=>zw0 (R:=R) t x hp1) (zum t x hp1) fun ys hp2=>zM (qB _ _ fun _=>rfl) rfl)) rfl
  |tk E' t xs=>exact zf (zg (m:=fun R=>zt2 (R:=R) t x hp) (zpo t x hp) fun ys=>zM (zY _ _ _ fun _=>qB _ _ fun _=>rfl) rfl) rfl
  |_=>rfl
 ·rfl
theorem zd1 (mp:List PM) (j:Nat) (p:PM):CN fun R=>jE (R:=R) mp j p:=by
 intro R k
 show jE mp j p k=(jE mp j p some).bind k
 unfold jE
 refine qa mp j fun q=> ?_
 cases q with
 |none=>exact zY _ _ _ fun _=>rfl
 |nil=>exact zf rfl rfl
 |id i l=>exact zf rfl rfl
theorem qr: ∀ (ss:List Sh) (vs:List SV) (mp:List PM) (hp:List HO),CN3 fun R=>zS (R:=R) ss vs mp hp
 | [], [],mp,hp=>fun _ _=>rfl
 | [],_::_,mp,hp=>fun _ _=>rfl
 | .hole t::ss, [],mp,hp=>fun _ _=>rfl
 | .own t::ss, [],mp,hp=>fun _ _=>rfl
 | .ptr t _::ss, [],mp,hp=>fun _ _=>rfl
 | .nilp::ss, [],mp,hp=>fun _ _=>rfl
 | .mp _::ss, [],mp,hp=>fun _ _=>rfl
 | .mp j::ss,v::vs,mp,hp=>fun R k=>by
  cases v with
  |mp id=>exact zg (m:=fun R=>jE (R:=R) mp j _) (zd1 mp j _) fun mp=>qr ss vs mp hp R k
  |_=>rfl
 | .und::ss, [],mp,hp=>fun _ _=>rfl
 | .fnc f n::ss, [],mp,hp=>fun _ _=>rfl
 | .fnc f n::ss,v::vs,mp,hp=>fun R k=>by
  cases v with
  |fn g l=>exact zf (qr ss (l++vs) mp hp R k) rfl
  |_=>rfl
 | .agn n::ss, [],mp,hp=>fun _ _=>rfl
 | .agn n::ss,v::vs,mp,hp=>fun R k=>by
  cases v with
  |agg l=>exact zf (qr ss (l++vs) mp hp R k) rfl
  |_=>rfl
 | .ro t::ss, [],mp,hp=>fun _ _=>rfl
 | .ro t::ss,v::vs,mp,hp=>fun R k=>zI (m:=fun R=>roF (R:=R) t v hp) (z0s t v hp) fun x hp=>ql (m:=fun R=>zS (R:=R) ss vs mp hp) (qr ss vs mp hp) fun _ _ _=>rfl
 | .hole t::ss,v::vs,mp,hp=>fun R k=>zhn t v hp fun x hp=>ql (m:=fun R=>zS (R:=R) ss vs mp hp) (qr ss vs mp hp) fun _ _ _=>rfl
 | .own j::ss,v::vs,mp,hp=>fun R k=>by
  cases v with
  |own id len=>exact zg (m:=fun R=>jE (R:=R) mp j _) (zd1 mp j _) fun mp=>qr ss vs mp hp R k
  |nils=>exact zg (m:=fun R=>jE (R:=R) mp j _) (zd1 mp j _) fun mp=>qr ss vs mp hp R k
  |_=>rfl
 | .ptr j off::ss,v::vs,mp,hp=>fun R k=>by
  cases v with
  |ptr id o=>exact zf (zg (m:=fun R=>jE (R:=R) mp j _) (zd1 mp j _) fun mp=>qr ss vs mp hp R k) rfl
  |_=>rfl
 | .nilp::ss,v::vs,mp,hp=>fun R k=>by
  cases v with
  |nilp=>exact qr ss vs mp hp R k
  |_=>rfl
 | .und::ss,v::vs,mp,hp=>qr ss vs mp hp
theorem jZ: ∀ (os:List OSh) (j:Nat) (mp:List PM) (hp:List HO),CN3 fun R=>xM (R:=R) j os mp hp
 | [],j,mp,hp=>fun _ _=>rfl
 | .gone::os,j,mp,hp=>jZ os (j+1) mp hp
 | .cells sl::os,j,mp,hp=>fun R k=>by
  refine qa mp j fun p=> ?_
  cases p with
  |id i l=>
   cases l with
   |none=>
    refine qa hp i fun o=> ?_
    cases o with
    |cells l=>exact ql (m:=fun R=>zS (R:=R) sl l mp hp) (qr sl l mp hp) fun mp ds hp=>ql (m:=fun R=>xM (R:=R) (j+1) os mp hp) (jZ os (j+1) mp hp) fun _ _ _=>rfl
    |_=>rfl
   |some n=>rfl
  |_=>rfl
 | .arr T t::os,j,mp,hp=>fun R k=>by
  refine qa mp j fun p=> ?_
  cases p with
  |nil=>exact ql (m:=fun R=>xM (R:=R) (j+1) os mp hp) (jZ os (j+1) mp hp) fun _ _ _=>rfl
  |id i len=>
   refine qa hp i fun o=> ?_
   cases o with
   |arr T' t' xs=>exact zf (zD (fun h=>ql (m:=fun R=>xM (R:=R) (j+1) os mp hp) (jZ os (j+1) mp hp) fun _ _ _=>rfl) fun _=>rfl) rfl
   |_=>rfl
  |none=>rfl
 | .map K V::os,j,mp,hp=>fun R k=>by
  refine qa mp j fun p=> ?_
  cases p with
  |id i l=>
   cases l with
   |none=>
    refine qa hp i fun o=> ?_
    cases o with
    |map K' V' es=>exact zD (fun h=>ql (m:=fun R=>xM (R:=R) (j+1) os mp hp) (jZ os (j+1) mp hp) fun _ _ _=>rfl) fun _=>rfl
    |_=>rfl
   |some n=>rfl
  |_=>rfl
theorem zkr {X R:Type} {k:X→Option R} {x:Option R} {y:Option X} (hp:List HO) (h:x=y.bind k): ∀ (l:List Nat),zs8 l hp x=(zs8 l hp y).bind k
 | []=>h
 |i::l=>qa hp i fun o=>zf (zkr hp h l) rfl
theorem zoq {X R:Type} {k:X→Option R} (n0:Nat) (sk:Skel) (vs:List SV) (hp:List HO) {f:List DV→List PM→List HO→Option R} {g:List DV→List PM→List HO→Option X} (h: ∀ a b c,f a b c=(g a b c).bind k):
  zrw n0 sk vs hp f=(zrw n0 sk vs hp g).bind k:=by
 unfold zrw
 exact ql (m:=fun R=>zS (R:=R) sk.slots vs _ hp) (qr _ _ _ _) fun mp ds hp=>ql (m:=fun R=>xM (R:=R) 0 sk.objs mp hp) (jZ _ _ _ _) fun mp ds' hp=>
  zf (zkr hp (h _ _ _) _) rfl
theorem zq4: ∀ (ts:List Ty) (ds:List DV),CN fun R=>zbj (R:=R) ts ds
 | [], []=>fun _ _=>rfl
 | [],_::_=>fun _ _=>rfl
 | [t], []=>fun _ _=>rfl
 | [t], [d]=>fun R k=>zD (fun h=>rfl) fun _=>rfl
 | [t],_::_::_=>fun _ _=>rfl
 |t::u::l, []=>fun _ _=>rfl
 |t::u::l,d::ds=>fun R k=>zD (fun h=>zg (m:=fun R=>zbj (R:=R) (u::l) ds) (zq4 (u::l) ds) fun _=>rfl) fun _=>rfl
theorem qx (ρ:List Nat): ∀ (ss:List Sh) (ds:List DV),CN2 fun R=>zv (R:=R) ρ ss ds
 | [],ds=>fun _ _=>rfl
 | .fnc f n::ss,ds=>fun R k=>by
  show zv ρ (.fnc f n::ss) ds k=(zv ρ (.fnc f n::ss) ds _).bind _
  unfold zv
  exact zI (m:=fun R=>zv (R:=R) ρ ss ds) (qx ρ ss ds) fun _ _=>rfl
 | .agn n::ss,ds=>fun R k=>by
  show zv ρ (.agn n::ss) ds k=(zv ρ (.agn n::ss) ds _).bind _
  unfold zv
  exact zI (m:=fun R=>zv (R:=R) ρ ss ds) (qx ρ ss ds) fun _ _=>rfl
 | .ro _::ss, []=>fun _ _=>rfl
 | .ro _::ss,d::ds=>fun R k=>zI (m:=fun R=>zv (R:=R) ρ ss ds) (qx ρ ss ds) fun _ _=>rfl
 | .hole _::ss, []=>fun _ _=>rfl
 | .hole _::ss,d::ds=>fun R k=>zI (m:=fun R=>zv (R:=R) ρ ss ds) (qx ρ ss ds) fun _ _=>rfl
 | .own j::ss,ds=>fun R k=>by
  show zv ρ (.own j::ss) ds k=(zv ρ (.own j::ss) ds _).bind _
  unfold zv
  exact zI (m:=fun R=>zv (R:=R) ρ ss ds) (qx ρ ss ds) fun _ _=>rfl
 | .ptr j off::ss,ds=>fun R k=>by
  show zv ρ (.ptr j off::ss) ds k=(zv ρ (.ptr j off::ss) ds _).bind _
  unfold zv
  exact zI (m:=fun R=>zv (R:=R) ρ ss ds) (qx ρ ss ds) fun _ _=>rfl
 | .nilp::ss,ds=>fun R k=>by
  show zv ρ (.nilp::ss) ds k=(zv ρ (.nilp::ss) ds _).bind _
  unfold zv
  exact zI (m:=fun R=>zv (R:=R) ρ ss ds) (qx ρ ss ds) fun _ _=>rfl
 | .mp j::ss,ds=>fun R k=>by
  show zv ρ (.mp j::ss) ds k=(zv ρ (.mp j::ss) ds _).bind _
  unfold zv
  exact zI (m:=fun R=>zv (R:=R) ρ ss ds) (qx ρ ss ds) fun _ _=>rfl
 | .und::ss,ds=>fun R k=>by
  show zv ρ (.und::ss) ds k=(zv ρ (.und::ss) ds _).bind _
  unfold zv
  exact zI (m:=fun R=>zv (R:=R) ρ ss ds) (qx ρ ss ds) fun _ _=>rfl
theorem zbq (ρ:List Nat): ∀ (os:List OSh) (ds:List DV),CN fun R=>z5 (R:=R) ρ os ds
 | [],ds=>fun _ _=>rfl
 | .gone::os,ds=>fun R k=>by
  show z5 ρ (.gone::os) ds k=(z5 ρ (.gone::os) ds some).bind k
  unfold z5
  exact zg (m:=fun R=>z5 (R:=R) ρ os ds) (zbq ρ os ds) fun _=>rfl
 | .cells sl::os,ds=>fun R k=>by
  show z5 ρ (.cells sl::os) ds k=(z5 ρ (.cells sl::os) ds some).bind k
  unfold z5
  exact zI (m:=fun R=>zv (R:=R) ρ sl ds) (qx ρ sl ds) fun vs ds=>zg (m:=fun R=>z5 (R:=R) ρ os ds) (zbq ρ os ds) fun _=>rfl
 | .arr _ _::os, []=>fun _ _=>rfl
 | .arr T t::os,d::ds=>fun R k=>by
  show z5 ρ (.arr T t::os) (d::ds) k=(z5 ρ (.arr T t::os) (d::ds) some).bind k
  unfold z5
  split
  ·exact zg (m:=fun R=>z5 (R:=R) ρ os ds) (zbq ρ os ds) fun _=>rfl
  ·rfl
 | .map _ _::os, []=>fun _ _=>rfl
 | .map K V::os,d::ds=>fun R k=>by
  show z5 ρ (.map K V::os) (d::ds) k=(z5 ρ (.map K V::os) (d::ds) some).bind k
  unfold z5
  split
  ·exact zg (m:=fun R=>z5 (R:=R) ρ os ds) (zbq ρ os ds) fun _=>rfl
  ·rfl
theorem zsh {X R:Type} {k:X→Option R} (ρ:List Nat) (sk:Skel) (ds:List DV) {f:List SV→List HO→Option R} {g:List SV→List HO→Option X} (h: ∀ a b,f a b=(g a b).bind k):build ρ sk ds f=(build ρ sk ds g).bind k:=by
 unfold build
 exact zI (m:=fun R=>zv (R:=R) ρ sk.slots ds) (qx _ _ _) fun vs ds=>zg (m:=fun R=>z5 (R:=R) ρ sk.objs ds) (zbq _ _ _) fun hs=>h vs hs
theorem zd4 {X R:Type} {k:X→Option R} {f:List HO→Option R} {g:List HO→Option X} (h: ∀ a,f a=(g a).bind k): ∀ (mp:List PM) (hp:List HO),zar mp hp f=(zar mp hp g).bind k
 | [],hp=>h hp
 | .id i l::mp,hp=>zY hp i .gone fun hp=>zd4 h mp hp
 | .nil::mp,hp=>zd4 h mp hp
 | .none::mp,hp=>zd4 h mp hp
theorem zvd {X R:Type} {k:X→Option R} {f:List HO→Option R} {g:List HO→Option X} (h: ∀ a,f a=(g a).bind k) (mp:List PM) (os:List OSh) (hp:List HO):zfh mp os hp f=(zfh mp os hp g).bind k:=by
 rw[jK [] 0,jK [] 0];exact h _
theorem zit {X R:Type} {k:X→Option R} {f:List HO→Option R} {g:List HO→Option X} (h: ∀ a,f a=(g a).bind k): ∀ (ρ:List Nat) (os hp:List HO),zet ρ os hp f=(zet ρ os hp g).bind k
 | [],_,hp=>by unfold zet;exact h hp
 |_::_, [],hp=>by unfold zet;exact h hp
 |i::ρ,o::os,hp=>by unfold zet;exact zY hp i o fun hp=>zit h ρ os hp
theorem zw9 (c:Con) (args:List SV) (hp:List HO):CN2 fun R=>znx (R:=R) c args hp:=by
 intro R k
 show znx c args hp k=(znx c args hp _).bind _
 unfold znx
 refine zf (zoq 0 _ args hp fun ds mp hp1=>zg (m:=fun R=>zbj (R:=R) _ ds) (zq4 _ ds) fun x=> ?_) rfl
 cases c.F x with
 |none=>rfl
 |some y=>
  simp only[Option.bind_some]
  refine zsh _ _ _ fun vs hos=> ?_
  refine zd4 (fun hp2=> ?_) _ _
  refine zvd (fun hp3=> ?_) _ _ _
  refine zit (fun hp4=> ?_) _ _ _
  rfl
theorem zsm (C:Ctx) (E:TypeId) (ei:TI) (x:SV) (hp:List HO):CN2 fun R=>zby (R:=R) C E ei x hp:=by
 intro R k
 show zby C E ei x hp k=(zby C E ei x hp _).bind _
 unfold zby
 split
 ·rfl
 ·refine zg (m:=fun R=>qz (R:=R) hp _) (qO hp _) fun o=> ?_
  split
  ·split
   ·refine zf ?_ rfl
    split
    ·exact zY _ _ _ fun _=>rfl
    ·rfl
   ·rfl
  ·rfl
 ·refine zg (m:=fun R=>qz (R:=R) hp _) (qO hp _) fun o=> ?_
  split
  ·split
   ·refine zf ?_ rfl
    split
    ·exact zY _ _ _ fun _=>rfl
    ·rfl
   ·rfl
  ·rfl
 ·rfl
theorem znr (C:Ctx) (fr:List SV) (i:TI) (n:Option Operand) (hp:List HO):CN2 fun R=>jk (R:=R) C fr i n hp:=by
 intro R k
 show jk C fr i n hp k=(jk C fr i n hp _).bind _
 unfold jk
 split
 ·refine zH _ fun ki=>zH _ fun vi=> ?_
  split
  ·exact zg (m:=fun R=>zwy (R:=R) C fr n 0) (zuk C fr n 0) fun _=>qB _ _ fun _=>rfl
  ·rfl
 ·rfl
theorem zcy (C:Ctx) (i:TI) (m y v:SV) (hp:List HO):CN2 fun R=>qm (R:=R) C i m y v hp:=by
 intro R k
 show qm C i m y v hp k=(qm C i m y v hp _).bind _
 unfold qm
 split
 ·refine zH _ fun ki=>zH _ fun vi=> ?_
  split
  ·refine zI (m:=fun R=>zdd (R:=R) _ v hp) (zq2 _ v hp) fun x hp=>zg (m:=fun R=>qz (R:=R) hp _) (qO hp _) fun o=> ?_
   split
   ·refine zf ?_ rfl
    split
    ·exact zY _ _ _ fun _=>rfl
    ·rfl
   ·rfl
  ·rfl
 ·rfl
theorem zuf (i:TI) (x:SV) (hp:List HO):CN2 fun R=>zbz (R:=R) i hp x:=by
 intro R k
 have plain:(xI i hp x fun s=>k s hp)=(xI i hp x fun s=>some (s,hp)).bind fun p=>k p.1 p.2:=zg (m:=fun R=>xI (R:=R) i hp x) (zhj i hp x) fun _=>rfl
 show zbz i hp x k=(zbz i hp x _).bind _
 unfold zbz
 split
 ·refine qa hp _ fun o=> ?_
  cases o with
  |arr T t' xs=>
   refine zD (fun h=> ?_) fun _=>rfl
   subst h
   simp only
   split
   ·split
    ·exact zf (zM (zg (m:=fun R=>zos (R:=R) _ _ _ _ _) (zpn _ _ _ _ _) fun z=>zY _ _ _ fun _=>qB _ _ fun _=>rfl) rfl) rfl
    ·exact plain
   ·rfl
  |_=>rfl
 ·exact plain
theorem zxa (C:Ctx) (Γ:List Con) (fr:List SV) (hp:List HO) (op:Op):CN2 fun R=>zht (R:=R) C Γ fr hp op:=by
 intro R k
 show zht C Γ fr hp op k=(zht C Γ fr hp op _).bind _
 unfold zht
 split
 ·exact zH _ fun i=>qB _ _ fun _=>rfl
 ·exact zn _ fun s=>zkd s fun l=>qB _ _ fun _=>rfl
 ·refine zH _ fun i=> ?_
  split
  ·refine zH _ fun ei=> ?_
   split
   ·exact zf (zg (m:=fun R=>zx9 (R:=R) _ _) (zul _ _) fun xs=>zI (m:=fun R=>zbx (R:=R) C fr _ _ xs hp) (znq C fr _ _ xs hp) fun xs hp=>qB _ _ fun _=>rfl) rfl
   ·rfl
  ·rfl
 ·refine zH _ fun i=> ?_
  split
  ·refine zH _ fun ei=> ?_
   split
   ·exact zf (zn _ fun l=>zg (m:=fun R=>asI (R:=R) l) (zke l) fun l=>zn _ fun c=>zg (m:=fun R=>asI (R:=R) c) (zke c) fun c=>zM (qB _ _ fun _=>rfl) rfl) rfl
   ·rfl
  ·rfl
 ·exact zH _ fun i=>zn _ fun x=>zn _ fun v=>zsr i x v hp R k
 ·split
  ·refine zf (zH _ fun i=> ?_) rfl
   split
   ·exact zH _ fun ei=>zn _ fun s=>zn _ fun x=>zpl C _ ei s x hp R k
   ·rfl
  ·rfl
 ·split
  ·refine zH _ fun i=> ?_
   split
   ·exact zH _ fun ei=>zn _ fun x=>zsm C _ ei x hp R k
   ·rfl
  ·rfl
 ·exact zH _ fun i=>znr C fr i _ hp R k
 ·exact zH _ fun i=>zn _ fun m=>zn _ fun y=>zn _ fun v=>zcy C i m y v hp R k
 ·exact zH _ fun i=>zn _ fun m=>zn _ fun y=>zn _ fun v=>zcy C i m y v hp R k
 ·exact zH _ fun i=>zn _ fun x=>zuf i x hp R k
 ·rw[zlq]
  rw[zlq (k:=fun c vs=>znx c vs hp fun a b=>some (a,b))]
  cases (zbo (R:=Con×List SV) C Γ fr _ _ fun c vs=>some (c,vs)) with
  |none=>rfl
  |some p=>exact zw9 p.1 p.2 hp R k
 ·rfl
theorem zug (hp:List HO): ∀ (n:List HO) (i id:Nat) (len:Option Nat),CN fun R=>z2j (R:=R) n i id len
 | [],_,_,_=>fun _ _=>rfl
 |o::l,0,id,len=>fun R k=>by cases o<;>rfl
 |o::l,n+1,id,len=>fun R k=>by cases o<;>exact zug hp l n id len R k
theorem zuh (hp:List HO): ∀ (n:List HO) (i id off:Nat),CN fun R=>z1m (R:=R) n i id off
 | [],_,_,_=>fun _ _=>rfl
 |o::l,0,id,off=>fun R k=>by
  cases o with
  |frs t x=>exact zf rfl rfl
  |_=>rfl
 |o::l,n+1,id,off=>fun R k=>by cases o<;>exact zuh hp l n id off R k
theorem zxe (hp:List HO) (s:SV):CN fun R=>ztv (R:=R) hp s:=by
 intro R k
 cases s with
 |own id len=>exact zug hp hp id id len R k
 |ptr id off=>exact zuh hp hp id id off R k
 |_=>rfl
theorem zq3 (hp:List HO): ∀ (l:List SV),CN fun R=>ztu (R:=R) hp l
 | []=>fun _ _=>rfl
 |s::l=>fun R k=>zg (m:=fun R=>ztv (R:=R) hp s) (zxe hp s) fun s'=>zg (m:=fun R=>ztu (R:=R) hp l) (zq3 hp l) fun _=>rfl
theorem zlz (hp:List HO) (fr:List SV):CN fun R=>za7 (R:=R) hp fr:=by
 intro R k
 show za7 hp fr k=(za7 hp fr some).bind k
 unfold za7
 exact zf (zq3 hp fr R k) rfl
end Go.Sx
