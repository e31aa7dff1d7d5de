/- The symbolic evaluator, part V3: operations with effects are told alike, whatever goes on behind. -/
import Derived.Test.YtlppdabhaipbkaaGreatDoorSxV2
set_option linter.unusedVariables false
set_option linter.unusedSimpArgs false
namespace Go.Sx
open Go.RowKit
def CN2 {A B:Type} (m:(R:Type)→(A→B→Option R)→Option R):Prop:= ∀ (R:Type) (k:A→B→Option R),m R k=(m (A×B) fun a b=>some (a,b)).bind fun p=>k p.1 p.2
def CN3 {A B D:Type} (m:(R:Type)→(A→B→D→Option R)→Option R):Prop:= ∀ (R:Type) (k:A→B→D→Option R),m R k=(m (A×B×D) fun a b d=>some (a,b,d)).bind fun p=>k p.1 p.2.1 p.2.2
theorem zK {A B X R:Type} {m:(R:Type)→(A→B→Option R)→Option R} (hm:CN2 m) {f:A→B→Option R} {g:A→B→Option X} {k:X→Option R} (h: ∀ a b,f a b=(g a b).bind k):m R f=(m X g).bind k:=by
 rw[hm R f,hm X g]
 cases m (A×B) (fun a b=>some (a,b)) with
 |none=>rfl
 |some p=>exact h p.1 p.2
theorem qm {A B D X R:Type} {m:(R:Type)→(A→B→D→Option R)→Option R} (hm:CN3 m) {f:A→B→D→Option R} {g:A→B→D→Option X} {k:X→Option R} (h: ∀ a b d,f a b d=(g a b d).bind k):m R f=(m X g).bind k:=by
 rw[hm R f,hm X g]
 cases m (A×B×D) (fun a b d=>some (a,b,d)) with
 |none=>rfl
 |some p=>exact h p.1 p.2.1 p.2.2
theorem zD {X R:Type} {c:Prop} [Decidable c] {a:c→Option R} {a':c→Option X} {b: ¬ c→Option R} {b': ¬ c→Option X} {k:X→Option R} (h1: ∀ h,a h=(a' h).bind k) (h2: ∀ h,b h=(b' h).bind k):(if h:c then a h else b h)=(if h:c then a' h else b' h).bind k:=by
 by_cases h:c
 ·simp only[dif_pos h,h1]
 ·simp only[dif_neg h,h2]
theorem z0 {α X R:Type} (l:List α) (n:Nat) (v:α) {f:List α→Option R} {g:List α→Option X} {k:X→Option R} (h: ∀ a,f a=(g a).bind k):jy l n v f=(jy l n v g).bind k:=by
 rw[zo,zo];exact h _
theorem qA {α X R:Type} (l:List α) (v:α) {f:List α→Option R} {g:List α→Option X} {k:X→Option R} (h: ∀ a,f a=(g a).bind k):jr l v f=(jr l v g).bind k:=by
 rw[z2,z2];exact h _
theorem zZ {α X R:Type} (l:List α) (n:Nat) {f:α→Option R} {g:α→Option X} {k:X→Option R} (h: ∀ a,f a=(g a).bind k):qv l n f=(qv l n g).bind k:=
 zg (m:=fun R=>qv (R:=R) l n) (qM l n) h
theorem zbq (t:Ty) (s:SV) (hp:List HO):CN2 fun R=>zlv (R:=R) t s hp:=by
 intro R k
 cases s with
 |val t' x=>exact zf (zD (fun h=>by subst h;rfl) (fun _=>rfl)) (zD (fun h=>by subst h;rfl) (fun _=>rfl))
 |bit b=>cases t<;>rfl
 |nils=>cases t<;>rfl
 |nil0=>cases t<;>rfl
 |own id len=>
  cases t with
  |sl e=>
   show qv hp id _=(qv hp id _).bind _
   refine zZ hp id fun o=> ?_
   cases o with
   |arr T e' xs=>exact zD (fun h=>by subst h;exact z0 _ _ _ fun _=>rfl) (fun _=>zD (fun h=>by subst h;exact z0 _ _ _ fun _=>rfl) fun _=>rfl)
   |fro e' xs=>exact zD (fun h=>by subst h;rfl) (fun _=>rfl)
   |tk _ e' xs=>exact zD (fun h=>by subst h;rfl) (fun _=>rfl)
   |_=>rfl
  |osl e=>
   refine zf (zZ hp id fun o=> ?_) rfl
   cases o with
   |arr T e' xs=>exact zD (fun h=>by subst h;exact z0 _ _ _ fun _=>rfl) (fun _=>rfl)
   |fro e' xs=>exact zD (fun h=>by subst h;rfl) (fun _=>rfl)
   |tk _ e' xs=>exact zD (fun h=>by subst h;exact z0 _ _ _ fun _=>rfl) (fun _=>rfl)
   |_=>rfl
  |_=>rfl
 |_=>rfl
theorem zmw {α:Type} {step:(R:Type)→List SV→List HO→(α→List SV→List HO→Option R)→Option R} (hs: ∀ l hp,CN3 fun R=>step R l hp): ∀ (n:Nat) (l:List SV) (hp:List HO),CN3 fun R=>zjp (step R) n l hp
 |0,l,hp=>fun _ _=>rfl
 |n+1,l,hp=>by
  intro R k
  show step R l hp _=(step _ l hp _).bind _
  exact qm (m:=fun R=>step R l hp) (hs l hp) fun x l hp=>qm (m:=fun R=>zjp (step R) n l hp) (zmw hs n l hp) fun xs l hp=>rfl
theorem jT: ∀ (t:Ty) (l:List SV) (hp:List HO),CN3 fun R=>qg (R:=R) t l hp
 | .pair a b,l,hp=>by
  intro R k
  show qg a l hp _=(qg a l hp _).bind _
  exact qm (m:=fun R=>qg (R:=R) a l hp) (jT a l hp) fun x l hp=>qm (m:=fun R=>qg (R:=R) b l hp) (jT b l hp) fun y l hp=>rfl
 | .unit,l,hp=>fun _ _=>rfl
 | .st f,l,hp=>jT f l hp
 | .arr n e,l,hp=>zmw (step:=fun R=>qg (R:=R) e) (fun l hp=>jT e l hp) n l hp
 | .int i, [],hp=>fun _ _=>rfl
 | .int i,s::l,hp=>fun R k=>zK (m:=fun R=>zlv (R:=R) (.int i) s hp) (zbq _ s hp) fun _ _=>rfl
 | .bool, [],hp=>fun _ _=>rfl
 | .bool,s::l,hp=>fun R k=>zK (m:=fun R=>zlv (R:=R) .bool s hp) (zbq _ s hp) fun _ _=>rfl
 | .str, [],hp=>fun _ _=>rfl
 | .str,s::l,hp=>fun R k=>zK (m:=fun R=>zlv (R:=R) .str s hp) (zbq _ s hp) fun _ _=>rfl
 | .flt, [],hp=>fun _ _=>rfl
 | .flt,s::l,hp=>fun R k=>zK (m:=fun R=>zlv (R:=R) .flt s hp) (zbq _ s hp) fun _ _=>rfl
 | .cplx, [],hp=>fun _ _=>rfl
 | .cplx,s::l,hp=>fun R k=>zK (m:=fun R=>zlv (R:=R) .cplx s hp) (zbq _ s hp) fun _ _=>rfl
 | .sl e, [],hp=>fun _ _=>rfl
 | .sl e,s::l,hp=>fun R k=>zK (m:=fun R=>zlv (R:=R) (.sl e) s hp) (zbq _ s hp) fun _ _=>rfl
 | .osl e, [],hp=>fun _ _=>rfl
 | .osl e,s::l,hp=>fun R k=>zK (m:=fun R=>zlv (R:=R) (.osl e) s hp) (zbq _ s hp) fun _ _=>rfl
theorem zp2 (t:Ty) (s:SV) (hp:List HO):CN2 fun R=>zdc (R:=R) t s hp:=by
 intro R k
 show zdc t s hp k=(zdc t s hp _).bind _
 unfold zdc
 split
 ·refine zf (qm (m:=fun R=>qg (R:=R) t _ hp) (jT t _ hp) fun x l hp=> ?_) rfl
  cases l<;>rfl
 ·exact zbq t _ hp R k
section
variable {X R:Type} {C:Ctx} {fr:List SV} {k:X→Option R}
theorem zha (t:Ty) (s:SV) (hp:List HO) {f:t.den→List HO→Option R} {g:t.den→List HO→Option X} (h: ∀ a b,f a b=(g a b).bind k):zdc t s hp f=(zdc t s hp g).bind k:=
 zK (m:=fun R=>zdc (R:=R) t s hp) (zp2 t s hp) h
theorem zjr (s:SV) {f:List SV→Option R} {g:List SV→Option X} (h: ∀ a,f a=(g a).bind k):s.cellsK f=(s.cellsK g).bind k:=
 zg (m:=fun R=>s.cellsK (R:=R)) (zmv s) h
end
theorem zze (t:Ty) (s:SV) (hp:List HO):CN2 fun R=>roF (R:=R) t s hp:=by
 intro R k
 show roF t s hp k=(roF t s hp _).bind _
 unfold roF
 split
 ·exact zD (fun h=>by subst h;rfl) fun _=>rfl
 ·refine zf (zZ hp _ fun o=> ?_) rfl
  cases o with
  |cells l=>
   refine qm (m:=fun R=>qg (R:=R) t l hp) (jT t l hp) fun x l' hp=> ?_
   cases l' with
   |nil=>
    refine zZ hp _ fun o=> ?_
    cases o with
    |cells _=>exact z0 _ _ _ fun _=>rfl
    |_=>rfl
   |cons _ _=>rfl
  |frs t' x=>exact zD (fun h=>by subst h;rfl) fun _=>rfl
  |_=>rfl
 ·rfl
theorem zmx (C:Ctx) (fr:List SV) (t:Ty): ∀ (l:List (Nat×Operand)) (xs:List t.den) (hp:List HO),CN2 fun R=>zbw (R:=R) C fr t l xs hp
 | [],xs,hp=>fun _ _=>rfl
 |(i,x)::l,xs,hp=>by
  intro R k
  show zbw C fr t ((i,x)::l) xs hp k=(zbw C fr t ((i,x)::l) xs hp _).bind _
  unfold zbw
  exact zf (zk _ fun s=>zha t s hp fun y hp=>z0 xs i y fun xs=>zK (m:=fun R=>zbw (R:=R) C fr t l xs hp) (zmx C fr t l xs hp) fun _ _=>rfl) rfl
theorem zti {α:Type} (x:α): ∀ (n:Nat),CN fun R=>zw1 (R:=R) x n
 |0=>fun _ _=>rfl
 |n+1=>fun R k=>zg (m:=fun R=>zw1 (R:=R) x n) (zti x n) fun _=>rfl
theorem zos (t:Ty) (s:SV) (hp:List HO):CN fun R=>zsx (R:=R) t s hp:=by
 intro R k
 show zsx t s hp k=(zsx t s hp some).bind k
 unfold zsx
 split
 ·exact zD (fun h=>by subst h;rfl) fun _=>rfl
 ·rfl
 ·rfl
 ·refine zZ hp _ fun o=> ?_
  cases o with
  |arr T e xs=>exact zD (fun h=>by subst h;rfl) fun _=>rfl
  |tk T e xs=>exact zD (fun h=>by subst h;rfl) fun _=>rfl
  |_=>rfl
 ·refine zZ hp _ fun o=> ?_
  cases o with
  |arr T e xs=>exact zD (fun h=>by obtain⟨h1,_⟩:=h;subst h1;rfl) fun _=>rfl
  |_=>rfl
 ·rfl
theorem ztf {t':Ty}: ∀ (i:Nat) (f:Ty) (x:f.den) (gR:(R:Type)→(u:Ty)→u.den→(u.den→Option R)→Option R),(∀ u z,CN fun R=>gR R u z)→CN fun R=>znw.fsetAux (R:=R) i f x (gR R)
 |0, .pair a b,x,g,hg=>fun R k=>zg (m:=fun R=>g R a x.1) (hg a x.1) fun _=>rfl
 |i+1, .pair a b,x,g,hg=>fun R k=>zg (m:=fun R=>znw.fsetAux (R:=R) i b x.2 (g R)) (ztf (t':=t') i b x.2 g hg) fun _=>rfl
 |0, .int _,x,g,hg=>hg _ _
 |0, .bool,x,g,hg=>hg _ _
 |0, .str,x,g,hg=>hg _ _
 |0, .flt,x,g,hg=>hg _ _
 |0, .cplx,x,g,hg=>hg _ _
 |0, .unit,x,g,hg=>hg _ _
 |0, .sl _,x,g,hg=>hg _ _
 |0, .osl _,x,g,hg=>hg _ _
 |0, .arr _ _,x,g,hg=>hg _ _
 |0, .st _,x,g,hg=>hg _ _
 |_+1, .int _,x,g,hg=>fun _ _=>rfl
 |_+1, .bool,x,g,hg=>fun _ _=>rfl
 |_+1, .str,x,g,hg=>fun _ _=>rfl
 |_+1, .flt,x,g,hg=>fun _ _=>rfl
 |_+1, .cplx,x,g,hg=>fun _ _=>rfl
 |_+1, .unit,x,g,hg=>fun _ _=>rfl
 |_+1, .sl _,x,g,hg=>fun _ _=>rfl
 |_+1, .osl _,x,g,hg=>fun _ _=>rfl
 |_+1, .arr _ _,x,g,hg=>fun _ _=>rfl
 |_+1, .st _,x,g,hg=>fun _ _=>rfl
theorem zor: ∀ (p:List Nat) (t:Ty) (x:t.den) (t':Ty) (y:t'.den),CN fun R=>znw (R:=R) p t x t' y
 | [],t,x,t',y=>fun R k=>zD (fun h=>by subst h;rfl) fun _=>rfl
 |i::p, .st f,x,t',y=>ztf (t':=t') i f x (fun R u z k=>znw p u z t' y k) fun u z=>zor p u z t' y
 |_::_, .int _,_,_,_=>fun _ _=>rfl
 |_::_, .bool,_,_,_=>fun _ _=>rfl
 |_::_, .str,_,_,_=>fun _ _=>rfl
 |_::_, .flt,_,_,_=>fun _ _=>rfl
 |_::_, .cplx,_,_,_=>fun _ _=>rfl
 |_::_, .unit,_,_,_=>fun _ _=>rfl
 |_::_, .sl _,_,_,_=>fun _ _=>rfl
 |_::_, .osl _,_,_,_=>fun _ _=>rfl
 |_::_, .arr _ _,_,_,_=>fun _ _=>rfl
 |_::_, .pair _ _,_,_,_=>fun _ _=>rfl
theorem zrk (i:TI) (x v:SV) (hp:List HO):CN2 fun R=>zb1 (R:=R) i x v hp:=by
 intro R k
 show zb1 i x v hp k=(zb1 i x v hp _).bind _
 unfold zb1
 split
 ·refine zjr v fun l'=>zf (zZ hp _ fun o=> ?_) rfl
  cases o with
  |cells l=>exact zf (z0 _ _ _ fun _=>rfl) rfl
  |_=>rfl
 ·split
  ·refine zf (zha _ v hp fun y hp=>zZ hp _ fun o=> ?_) rfl
   cases o with
   |arr T t' xs=>exact zD (fun h=>zg (m:=fun R=>znw (R:=R) _ _ _ _ y) (zor _ _ _ _ y) fun z=>z0 _ _ _ fun _=>rfl) fun _=>rfl
   |_=>rfl
  ·rfl
 ·rfl
theorem ztj (t:Ty) (s:SV) (hp:List HO):CN2 fun R=>zvp (R:=R) t s hp:=by
 intro R k
 show zvp t s hp k=(zvp t s hp _).bind _
 unfold zvp
 split
 ·exact zD (fun h=>by subst h;rfl) fun _=>rfl
 ·rfl
 ·rfl
 ·refine zZ hp _ fun o=> ?_
  cases o with
  |arr T e xs=>exact zD (fun h=>by subst h;exact z0 _ _ _ fun _=>rfl) fun _=>rfl
  |_=>rfl
 ·rfl
theorem zfs (C:Ctx) (E:TypeId) (ei:TI) (x:SV) (hp:List HO):CN2 fun R=>xF (R:=R) C E ei x hp:=by
 intro R k
 show xF C E ei x hp k=(xF C E ei x hp _).bind _
 unfold xF
 split
 ·exact zf (zf (zg (m:=fun R=>zsx (R:=R) _ x hp) (zos _ x hp) fun ys=>zN (qA _ _ fun _=>rfl) rfl)
   (zK (m:=fun R=>zvp (R:=R) _ x hp) (ztj _ x hp) fun ys hp=>zN (qA _ _ fun _=>rfl) rfl)) rfl
 ·rfl
theorem zop (C:Ctx) (E:TypeId) (ei:TI) (s x:SV) (hp:List HO):CN2 fun R=>jE (R:=R) C E ei s x hp:=by
 intro R k
 show jE C E ei s x hp k=(jE C E ei s x hp _).bind _
 unfold jE
 split
 ·exact zfs C E ei x hp R k
 ·exact zfs C E ei x hp R k
 ·refine zZ hp _ fun o=> ?_
  cases o with
  |arr E' t xs=>exact zf (zf (zg (m:=fun R=>zsx (R:=R) t x hp) (zos t x hp) fun ys=>zN (z0 _ _ _ fun _=>qA _ _ fun _=>rfl) rfl)
    (z0 _ _ _ fun hp1=>zK (m:=fun R=>zvp (R:=R) t x hp1) (ztj t x hp1) fun ys hp2=>zN (qA _ _ fun _=>rfl) rfl)) rfl
  |tk E' t xs=>exact zf (zg (m:=fun R=>zsx (R:=R) t x hp) (zos t x hp) fun ys=>zN (z0 _ _ _ fun _=>qA _ _ fun _=>rfl) rfl) rfl
  |_=>rfl
 ·rfl
theorem zdy (mp:List PM) (j:Nat) (p:PM):CN fun R=>jB (R:=R) mp j p:=by
 intro R k
 show jB mp j p k=(jB mp j p some).bind k
 unfold jB
 refine zZ mp j fun q=> ?_
 cases q with
 |none=>exact z0 _ _ _ fun _=>rfl
 |nil=>exact zf rfl rfl
 |id i l=>exact zf rfl rfl
theorem qr: ∀ (ss:List Sh) (vs:List SV) (mp:List PM) (hp:List HO),CN3 fun R=>zS (R:=R) ss vs mp hp
 | [], [],mp,hp=>fun _ _=>rfl
 | [],_::_,mp,hp=>fun _ _=>rfl
 | .hole t::ss, [],mp,hp=>fun _ _=>rfl
 | .own t::ss, [],mp,hp=>fun _ _=>rfl
 | .ptr t _::ss, [],mp,hp=>fun _ _=>rfl
 | .nilp::ss, [],mp,hp=>fun _ _=>rfl
 | .mp _::ss, [],mp,hp=>fun _ _=>rfl
 | .mp j::ss,v::vs,mp,hp=>fun R k=>by
  cases v with
  |mp id=>exact zg (m:=fun R=>jB (R:=R) mp j _) (zdy mp j _) fun mp=>qr ss vs mp hp R k
  |_=>rfl
 | .und::ss, [],mp,hp=>fun _ _=>rfl
 | .fnc f n::ss, [],mp,hp=>fun _ _=>rfl
 | .fnc f n::ss,v::vs,mp,hp=>fun R k=>by
  cases v with
  |fn g l=>exact zf (qr ss (l++vs) mp hp R k) rfl
  |_=>rfl
 | .agn n::ss, [],mp,hp=>fun _ _=>rfl
 | .agn n::ss,v::vs,mp,hp=>fun R k=>by
  cases v with
  |agg l=>exact zf (qr ss (l++vs) mp hp R k) rfl
  |_=>rfl
 | .ro t::ss, [],mp,hp=>fun _ _=>rfl
 | .ro t::ss,v::vs,mp,hp=>fun R k=>zK (m:=fun R=>roF (R:=R) t v hp) (zze t v hp) fun x hp=>qm (m:=fun R=>zS (R:=R) ss vs mp hp) (qr ss vs mp hp) fun _ _ _=>rfl
 | .hole t::ss,v::vs,mp,hp=>fun R k=>zha t v hp fun x hp=>qm (m:=fun R=>zS (R:=R) ss vs mp hp) (qr ss vs mp hp) fun _ _ _=>rfl
 | .own j::ss,v::vs,mp,hp=>fun R k=>by
  cases v with
  |own id len=>exact zg (m:=fun R=>jB (R:=R) mp j _) (zdy mp j _) fun mp=>qr ss vs mp hp R k
  |nils=>exact zg (m:=fun R=>jB (R:=R) mp j _) (zdy mp j _) fun mp=>qr ss vs mp hp R k
  |_=>rfl
 | .ptr j off::ss,v::vs,mp,hp=>fun R k=>by
  cases v with
  |ptr id o=>exact zf (zg (m:=fun R=>jB (R:=R) mp j _) (zdy mp j _) fun mp=>qr ss vs mp hp R k) rfl
  |_=>rfl
 | .nilp::ss,v::vs,mp,hp=>fun R k=>by
  cases v with
  |nilp=>exact qr ss vs mp hp R k
  |_=>rfl
 | .und::ss,v::vs,mp,hp=>qr ss vs mp hp
theorem jU: ∀ (os:List OSh) (j:Nat) (mp:List PM) (hp:List HO),CN3 fun R=>xJ (R:=R) j os mp hp
 | [],j,mp,hp=>fun _ _=>rfl
 | .gone::os,j,mp,hp=>jU os (j+1) mp hp
 | .cells sl::os,j,mp,hp=>fun R k=>by
  refine zZ mp j fun p=> ?_
  cases p with
  |id i l=>
   cases l with
   |none=>
    refine zZ hp i fun o=> ?_
    cases o with
    |cells l=>exact qm (m:=fun R=>zS (R:=R) sl l mp hp) (qr sl l mp hp) fun mp ds hp=>qm (m:=fun R=>xJ (R:=R) (j+1) os mp hp) (jU os (j+1) mp hp) fun _ _ _=>rfl
    |_=>rfl
   |some n=>rfl
  |_=>rfl
 | .arr T t::os,j,mp,hp=>fun R k=>by
  refine zZ mp j fun p=> ?_
  cases p with
  |nil=>exact qm (m:=fun R=>xJ (R:=R) (j+1) os mp hp) (jU os (j+1) mp hp) fun _ _ _=>rfl
  |id i len=>
   refine zZ hp i fun o=> ?_
   cases o with
   |arr T' t' xs=>exact zf (zD (fun h=>qm (m:=fun R=>xJ (R:=R) (j+1) os mp hp) (jU os (j+1) mp hp) fun _ _ _=>rfl) fun _=>rfl) rfl
   |_=>rfl
  |none=>rfl
 | .map K V::os,j,mp,hp=>fun R k=>by
  refine zZ mp j fun p=> ?_
  cases p with
  |id i l=>
   cases l with
   |none=>
    refine zZ hp i fun o=> ?_
    cases o with
    |map K' V' es=>exact zD (fun h=>qm (m:=fun R=>xJ (R:=R) (j+1) os mp hp) (jU os (j+1) mp hp) fun _ _ _=>rfl) fun _=>rfl
    |_=>rfl
   |some n=>rfl
  |_=>rfl
theorem zj6 {X R:Type} {k:X→Option R} {x:Option R} {y:Option X} (hp:List HO) (h:x=y.bind k): ∀ (l:List Nat),zr4 l hp x=(zr4 l hp y).bind k
 | []=>h
 |i::l=>zZ hp i fun o=>zf (zj6 hp h l) rfl
theorem znv {X R:Type} {k:X→Option R} (n0:Nat) (sk:Skel) (vs:List SV) (hp:List HO) {f:List DV→List PM→List HO→Option R} {g:List DV→List PM→List HO→Option X} (h: ∀ a b c,f a b c=(g a b c).bind k):
  zqu n0 sk vs hp f=(zqu n0 sk vs hp g).bind k:=by
 unfold zqu
 exact qm (m:=fun R=>zS (R:=R) sk.slots vs _ hp) (qr _ _ _ _) fun mp ds hp=>qm (m:=fun R=>xJ (R:=R) 0 sk.objs mp hp) (jU _ _ _ _) fun mp ds' hp=>
  zf (zj6 hp (h _ _ _) _) rfl
theorem zp4: ∀ (ts:List Ty) (ds:List DV),CN fun R=>zbi (R:=R) ts ds
 | [], []=>fun _ _=>rfl
 | [],_::_=>fun _ _=>rfl
 | [t], []=>fun _ _=>rfl
 | [t], [d]=>fun R k=>zD (fun h=>rfl) fun _=>rfl
 | [t],_::_::_=>fun _ _=>rfl
 |t::u::l, []=>fun _ _=>rfl
 |t::u::l,d::ds=>fun R k=>zD (fun h=>zg (m:=fun R=>zbi (R:=R) (u::l) ds) (zp4 (u::l) ds) fun _=>rfl) fun _=>rfl
theorem qw (ρ:List Nat): ∀ (ss:List Sh) (ds:List DV),CN2 fun R=>zr (R:=R) ρ ss ds
 | [],ds=>fun _ _=>rfl
 | .fnc f n::ss,ds=>fun R k=>by
  show zr ρ (.fnc f n::ss) ds k=(zr ρ (.fnc f n::ss) ds _).bind _
  unfold zr
  exact zK (m:=fun R=>zr (R:=R) ρ ss ds) (qw ρ ss ds) fun _ _=>rfl
 | .agn n::ss,ds=>fun R k=>by
  show zr ρ (.agn n::ss) ds k=(zr ρ (.agn n::ss) ds _).bind _
  unfold zr
  exact zK (m:=fun R=>zr (R:=R) ρ ss ds) (qw ρ ss ds) fun _ _=>rfl
 | .ro _::ss, []=>fun _ _=>rfl
 | .ro _::ss,d::ds=>fun R k=>zK (m:=fun R=>zr (R:=R) ρ ss ds) (qw ρ ss ds) fun _ _=>rfl
 | .hole _::ss, []=>fun _ _=>rfl
 | .hole _::ss,d::ds=>fun R k=>zK (m:=fun R=>zr (R:=R) ρ ss ds) (qw ρ ss ds) fun _ _=>rfl
 | .own j::ss,ds=>fun R k=>by
  show zr ρ (.own j::ss) ds k=(zr ρ (.own j::ss) ds _).bind _
  unfold zr
  exact zK (m:=fun R=>zr (R:=R) ρ ss ds) (qw ρ ss ds) fun _ _=>rfl
 | .ptr j off::ss,ds=>fun R k=>by
  show zr ρ (.ptr j off::ss) ds k=(zr ρ (.ptr j off::ss) ds _).bind _
  unfold zr
  exact zK (m:=fun R=>zr (R:=R) ρ ss ds) (qw ρ ss ds) fun _ _=>rfl
 | .nilp::ss,ds=>fun R k=>by
  show zr ρ (.nilp::ss) ds k=(zr ρ (.nilp::ss) ds _).bind _
  unfold zr
  exact zK (m:=fun R=>zr (R:=R) ρ ss ds) (qw ρ ss ds) fun _ _=>rfl
 | .mp j::ss,ds=>fun R k=>by
  show zr ρ (.mp j::ss) ds k=(zr ρ (.mp j::ss) ds _).bind _
  unfold zr
  exact zK (m:=fun R=>zr (R:=R) ρ ss ds) (qw ρ ss ds) fun _ _=>rfl
 | .und::ss,ds=>fun R k=>by
  show zr ρ (.und::ss) ds k=(zr ρ (.und::ss) ds _).bind _
  unfold zr
  exact zK (m:=fun R=>zr (R:=R) ρ ss ds) (qw ρ ss ds) fun _ _=>rfl
theorem zbp (ρ:List Nat): ∀ (os:List OSh) (ds:List DV),CN fun R=>z5 (R:=R) ρ os ds
 | [],ds=>fun _ _=>rfl
 | .gone::os,ds=>fun R k=>by
  show z5 ρ (.gone::os) ds k=(z5 ρ (.gone::os) ds some).bind k
  unfold z5
  exact zg (m:=fun R=>z5 (R:=R) ρ os ds) (zbp ρ os ds) fun _=>rfl
 | .cells sl::os,ds=>fun R k=>by
  show z5 ρ (.cells sl::os) ds k=(z5 ρ (.cells sl::os) ds some).bind k
  unfold z5
  exact zK (m:=fun R=>zr (R:=R) ρ sl ds) (qw ρ sl ds) fun vs ds=>zg (m:=fun R=>z5 (R:=R) ρ os ds) (zbp ρ os ds) fun _=>rfl
 | .arr _ _::os, []=>fun _ _=>rfl
 | .arr T t::os,d::ds=>fun R k=>by
  show z5 ρ (.arr T t::os) (d::ds) k=(z5 ρ (.arr T t::os) (d::ds) some).bind k
  unfold z5
  split
  ·exact zg (m:=fun R=>z5 (R:=R) ρ os ds) (zbp ρ os ds) fun _=>rfl
  ·rfl
 | .map _ _::os, []=>fun _ _=>rfl
 | .map K V::os,d::ds=>fun R k=>by
  show z5 ρ (.map K V::os) (d::ds) k=(z5 ρ (.map K V::os) (d::ds) some).bind k
  unfold z5
  split
  ·exact zg (m:=fun R=>z5 (R:=R) ρ os ds) (zbp ρ os ds) fun _=>rfl
  ·rfl
theorem zra {X R:Type} {k:X→Option R} (ρ:List Nat) (sk:Skel) (ds:List DV) {f:List SV→List HO→Option R} {g:List SV→List HO→Option X} (h: ∀ a b,f a b=(g a b).bind k):build ρ sk ds f=(build ρ sk ds g).bind k:=by
 unfold build
 exact zK (m:=fun R=>zr (R:=R) ρ sk.slots ds) (qw _ _ _) fun vs ds=>zg (m:=fun R=>z5 (R:=R) ρ sk.objs ds) (zbp _ _ _) fun hs=>h vs hs
theorem zd1 {X R:Type} {k:X→Option R} {f:List HO→Option R} {g:List HO→Option X} (h: ∀ a,f a=(g a).bind k): ∀ (mp:List PM) (hp:List HO),zal mp hp f=(zal mp hp g).bind k
 | [],hp=>h hp
 | .id i l::mp,hp=>z0 hp i .gone fun hp=>zd1 h mp hp
 | .nil::mp,hp=>zd1 h mp hp
 | .none::mp,hp=>zd1 h mp hp
theorem zt7 {X R:Type} {k:X→Option R} {f:List HO→Option R} {g:List HO→Option X} (h: ∀ a,f a=(g a).bind k) (mp:List PM) (os:List OSh) (hp:List HO):ze5 mp os hp f=(ze5 mp os hp g).bind k:=by
 rw[jG [] 0,jG [] 0];exact h _
theorem zie {X R:Type} {k:X→Option R} {f:List HO→Option R} {g:List HO→Option X} (h: ∀ a,f a=(g a).bind k): ∀ (ρ:List Nat) (os hp:List HO),zej ρ os hp f=(zej ρ os hp g).bind k
 | [],_,hp=>by unfold zej;exact h hp
 |_::_, [],hp=>by unfold zej;exact h hp
 |i::ρ,o::os,hp=>by unfold zej;exact z0 hp i o fun hp=>zie h ρ os hp
theorem zvz (c:Con) (args:List SV) (hp:List HO):CN2 fun R=>zm5 (R:=R) c args hp:=by
 intro R k
 show zm5 c args hp k=(zm5 c args hp _).bind _
 unfold zm5
 refine zf (znv 0 _ args hp fun ds mp hp1=>zg (m:=fun R=>zbi (R:=R) _ ds) (zp4 _ ds) fun x=> ?_) rfl
 cases c.F x with
 |none=>rfl
 |some y=>
  simp only[Option.bind_some]
  refine zra _ _ _ fun vs hos=> ?_
  refine zd1 (fun hp2=> ?_) _ _
  refine zt7 (fun hp3=> ?_) _ _ _
  refine zie (fun hp4=> ?_) _ _ _
  rfl
theorem zrf (C:Ctx) (E:TypeId) (ei:TI) (x:SV) (hp:List HO):CN2 fun R=>zbx (R:=R) C E ei x hp:=by
 intro R k
 show zbx C E ei x hp k=(zbx C E ei x hp _).bind _
 unfold zbx
 split
 ·rfl
 ·refine zg (m:=fun R=>qv (R:=R) hp _) (qM hp _) fun o=> ?_
  split
  ·split
   ·refine zf ?_ rfl
    split
    ·exact z0 _ _ _ fun _=>rfl
    ·rfl
   ·rfl
  ·rfl
 ·refine zg (m:=fun R=>qv (R:=R) hp _) (qM hp _) fun o=> ?_
  split
  ·split
   ·refine zf ?_ rfl
    split
    ·exact z0 _ _ _ fun _=>rfl
    ·rfl
   ·rfl
  ·rfl
 ·rfl
theorem zmy (C:Ctx) (fr:List SV) (i:TI) (n:Option Operand) (hp:List HO):CN2 fun R=>jg (R:=R) C fr i n hp:=by
 intro R k
 show jg C fr i n hp k=(jg C fr i n hp _).bind _
 unfold jg
 split
 ·refine zJ _ fun ki=>zJ _ fun vi=> ?_
  split
  ·exact zg (m:=fun R=>zvn (R:=R) C fr n 0) (zth C fr n 0) fun _=>qA _ _ fun _=>rfl
  ·rfl
 ·rfl
theorem zcw (C:Ctx) (i:TI) (m y v:SV) (hp:List HO):CN2 fun R=>qn (R:=R) C i m y v hp:=by
 intro R k
 show qn C i m y v hp k=(qn C i m y v hp _).bind _
 unfold qn
 split
 ·refine zJ _ fun ki=>zJ _ fun vi=> ?_
  split
  ·refine zK (m:=fun R=>zdc (R:=R) _ v hp) (zp2 _ v hp) fun x hp=>zg (m:=fun R=>qv (R:=R) hp _) (qM hp _) fun o=> ?_
   split
   ·refine zf ?_ rfl
    split
    ·exact z0 _ _ _ fun _=>rfl
    ·rfl
   ·rfl
  ·rfl
 ·rfl
theorem ztc (i:TI) (x:SV) (hp:List HO):CN2 fun R=>zby (R:=R) i hp x:=by
 intro R k
 have plain:(xG i hp x fun s=>k s hp)=(xG i hp x fun s=>some (s,hp)).bind fun p=>k p.1 p.2:=zg (m:=fun R=>xG (R:=R) i hp x) (zg6 i hp x) fun _=>rfl
 show zby i hp x k=(zby i hp x _).bind _
 unfold zby
 split
 ·refine zZ hp _ fun o=> ?_
  cases o with
  |arr T t' xs=>
   refine zD (fun h=> ?_) fun _=>rfl
   subst h
   simp only
   split
   ·split
    ·exact zf (zN (zg (m:=fun R=>znw (R:=R) _ _ _ _ _) (zor _ _ _ _ _) fun z=>z0 _ _ _ fun _=>qA _ _ fun _=>rfl) rfl) rfl
    ·exact plain
   ·rfl
  |_=>rfl
 ·exact plain
theorem zv0 (C:Ctx) (Γ:List Con) (fr:List SV) (hp:List HO) (op:Op):CN2 fun R=>zhh (R:=R) C Γ fr hp op:=by
 intro R k
 show zhh C Γ fr hp op k=(zhh C Γ fr hp op _).bind _
 unfold zhh
 split
 ·exact zJ _ fun i=>qA _ _ fun _=>rfl
 ·exact zk _ fun s=>zjr s fun l=>qA _ _ fun _=>rfl
 ·refine zJ _ fun i=> ?_
  split
  ·refine zJ _ fun ei=> ?_
   split
   ·exact zf (zg (m:=fun R=>zw1 (R:=R) _ _) (zti _ _) fun xs=>zK (m:=fun R=>zbw (R:=R) C fr _ _ xs hp) (zmx C fr _ _ xs hp) fun xs hp=>qA _ _ fun _=>rfl) rfl
   ·rfl
  ·rfl
 ·refine zJ _ fun i=> ?_
  split
  ·refine zJ _ fun ei=> ?_
   split
   ·exact zf (zk _ fun l=>zg (m:=fun R=>asI (R:=R) l) (zjs l) fun l=>zk _ fun c=>zg (m:=fun R=>asI (R:=R) c) (zjs c) fun c=>zN (qA _ _ fun _=>rfl) rfl) rfl
   ·rfl
  ·rfl
 ·exact zJ _ fun i=>zk _ fun x=>zk _ fun v=>zrk i x v hp R k
 ·split
  ·refine zf (zJ _ fun i=> ?_) rfl
   split
   ·exact zJ _ fun ei=>zk _ fun s=>zk _ fun x=>zop C _ ei s x hp R k
   ·rfl
  ·rfl
 ·split
  ·refine zJ _ fun i=> ?_
   split
   ·exact zJ _ fun ei=>zk _ fun x=>zrf C _ ei x hp R k
   ·rfl
  ·rfl
 ·exact zJ _ fun i=>zmy C fr i _ hp R k
 ·exact zJ _ fun i=>zk _ fun m=>zk _ fun y=>zk _ fun v=>zcw C i m y v hp R k
 ·exact zJ _ fun i=>zk _ fun m=>zk _ fun y=>zk _ fun v=>zcw C i m y v hp R k
 ·exact zJ _ fun i=>zk _ fun x=>ztc i x hp R k
 ·rw[zky]
  rw[zky (k:=fun c vs=>zm5 c vs hp fun a b=>some (a,b))]
  cases (zbn (R:=Con×List SV) C Γ fr _ _ fun c vs=>some (c,vs)) with
  |none=>rfl
  |some p=>exact zvz p.1 p.2 hp R k
 ·rfl
theorem ztd (hp:List HO): ∀ (n:List HO) (i id:Nat) (len:Option Nat),CN fun R=>z06 (R:=R) n i id len
 | [],_,_,_=>fun _ _=>rfl
 |o::l,0,id,len=>fun R k=>by cases o<;>rfl
 |o::l,n+1,id,len=>fun R k=>by cases o<;>exact ztd hp l n id len R k
theorem zte (hp:List HO): ∀ (n:List HO) (i id off:Nat),CN fun R=>zz9 (R:=R) n i id off
 | [],_,_,_=>fun _ _=>rfl
 |o::l,0,id,off=>fun R k=>by
  cases o with
  |frs t x=>exact zf rfl rfl
  |_=>rfl
 |o::l,n+1,id,off=>fun R k=>by cases o<;>exact zte hp l n id off R k
theorem zv4 (hp:List HO) (s:SV):CN fun R=>zsp (R:=R) hp s:=by
 intro R k
 cases s with
 |own id len=>exact ztd hp hp id id len R k
 |ptr id off=>exact zte hp hp id id off R k
 |_=>rfl
theorem zp3 (hp:List HO): ∀ (l:List SV),CN fun R=>zso (R:=R) hp l
 | []=>fun _ _=>rfl
 |s::l=>fun R k=>zg (m:=fun R=>zsp (R:=R) hp s) (zv4 hp s) fun s'=>zg (m:=fun R=>zso (R:=R) hp l) (zp3 hp l) fun _=>rfl
theorem zk6 (hp:List HO) (fr:List SV):CN fun R=>za7 (R:=R) hp fr:=by
 intro R k
 show za7 hp fr k=(za7 hp fr some).bind k
 unfold za7
 exact zf (zp3 hp fr R k) rfl
end Go.Sx
