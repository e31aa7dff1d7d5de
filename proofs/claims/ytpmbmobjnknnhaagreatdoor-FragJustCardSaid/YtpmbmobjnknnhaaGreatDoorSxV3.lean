/- The symbolic evaluator, part V3: operations with effects are told alike, whatever goes on behind. -/
import Derived.Test.YtpmbmobjnknnhaaGreatDoorSxV2
set_option linter.unusedVariables false
set_option linter.unusedSimpArgs false
namespace Go.Sx
open Go.RowKit
def CN2 {A B:Type} (m:(R:Type)→(A→B→Option R)→Option R):Prop:= ∀ (R:Type) (k:A→B→Option R),m R k=(m (A×B) fun a b=>some (a,b)).bind fun p=>k p.1 p.2
def CN3 {A B D:Type} (m:(R:Type)→(A→B→D→Option R)→Option R):Prop:= ∀ (R:Type) (k:A→B→D→Option R),m R k=(m (A×B×D) fun a b d=>some (a,b,d)).bind fun p=>k p.1 p.2.1 p.2.2
theorem zI {A B X R:Type} {m:(R:Type)→(A→B→Option R)→Option R} (hm:CN2 m) {f:A→B→Option R} {g:A→B→Option X} {k:X→Option R} (h: ∀ a b,f a b=(g a b).bind k):m R f=(m X g).bind k:=by
 rw[hm R f,hm X g]
 cases m (A×B) (fun a b=>some (a,b)) with
 |none=>rfl
 |some p=>exact h p.1 p.2
theorem qg {A B D X R:Type} {m:(R:Type)→(A→B→D→Option R)→Option R} (hm:CN3 m) {f:A→B→D→Option R} {g:A→B→D→Option X} {k:X→Option R} (h: ∀ a b d,f a b d=(g a b d).bind k):m R f=(m X g).bind k:=by
 rw[hm R f,hm X g]
 cases m (A×B×D) (fun a b d=>some (a,b,d)) with
 |none=>rfl
 |some p=>exact h p.1 p.2.1 p.2.2
theorem zD {X R:Type} {c:Prop} [Decidable c] {a:c→Option R} {a':c→Option X} {b: ¬ c→Option R} {b': ¬ c→Option X} {k:X→Option R} (h1: ∀ h,a h=(a' h).bind k) (h2: ∀ h,b h=(b' h).bind k):(if h:c then a h else b h)=(if h:c then a' h else b' h).bind k:=by
 by_cases h:c
 ·simp only[dif_pos h,h1]
 ·simp only[dif_neg h,h2]
theorem zV {α X R:Type} (l:List α) (n:Nat) (v:α) {f:List α→Option R} {g:List α→Option X} {k:X→Option R} (h: ∀ a,f a=(g a).bind k):jx l n v f=(jx l n v g).bind k:=by
 rw[zq,zq];exact h _
theorem qx {α X R:Type} (l:List α) (v:α) {f:List α→Option R} {g:List α→Option X} {k:X→Option R} (h: ∀ a,f a=(g a).bind k):jq l v f=(jq l v g).bind k:=by
 rw[zW,zW];exact h _
theorem z6 {α X R:Type} (l:List α) (n:Nat) {f:α→Option R} {g:α→Option X} {k:X→Option R} (h: ∀ a,f a=(g a).bind k):qv l n f=(qv l n g).bind k:=
 zg (m:=fun R=>qv (R:=R) l n) (qK l n) h
theorem zbl (t:Ty) (s:SV) (hp:List HO):CN2 fun R=>zl5 (R:=R) t s hp:=by
 intro R k
 cases s with
 |val t' x=>exact zf (zD (fun h=>by subst h;rfl) (fun _=>rfl)) (zD (fun h=>by subst h;rfl) (fun _=>rfl))
 |bit b=>cases t<;>rfl
 |nils=>cases t<;>rfl
 |nil0=>cases t<;>rfl
 |own id len=>
  cases t with
  |sl e=>
   show qv hp id _=(qv hp id _).bind _
   refine z6 hp id fun o=> ?_
   cases o with
   |arr T e' xs=>exact zD (fun h=>by subst h;exact zV _ _ _ fun _=>rfl) (fun _=>zD (fun h=>by subst h;exact zV _ _ _ fun _=>rfl) fun _=>rfl)
   |fro e' xs=>exact zD (fun h=>by subst h;rfl) (fun _=>rfl)
   |tk _ e' xs=>exact zD (fun h=>by subst h;rfl) (fun _=>rfl)
   |_=>rfl
  |osl e=>
   refine zf (z6 hp id fun o=> ?_) rfl
   cases o with
   |arr T e' xs=>exact zD (fun h=>by subst h;exact zV _ _ _ fun _=>rfl) (fun _=>rfl)
   |fro e' xs=>exact zD (fun h=>by subst h;rfl) (fun _=>rfl)
   |tk _ e' xs=>exact zD (fun h=>by subst h;exact zV _ _ _ fun _=>rfl) (fun _=>rfl)
   |_=>rfl
  |_=>rfl
 |_=>rfl
theorem zm8 {α:Type} {step:(R:Type)→List SV→List HO→(α→List SV→List HO→Option R)→Option R} (hs: ∀ l hp,CN3 fun R=>step R l hp): ∀ (n:Nat) (l:List SV) (hp:List HO),CN3 fun R=>zjr (step R) n l hp
 |0,l,hp=>fun _ _=>rfl
 |n+1,l,hp=>by
  intro R k
  show step R l hp _=(step _ l hp _).bind _
  exact qg (m:=fun R=>step R l hp) (hs l hp) fun x l hp=>qg (m:=fun R=>zjr (step R) n l hp) (zm8 hs n l hp) fun xs l hp=>rfl
theorem jT: ∀ (t:Ty) (l:List SV) (hp:List HO),CN3 fun R=>qb (R:=R) t l hp
 | .pair a b,l,hp=>by
  intro R k
  show qb a l hp _=(qb a l hp _).bind _
  exact qg (m:=fun R=>qb (R:=R) a l hp) (jT a l hp) fun x l hp=>qg (m:=fun R=>qb (R:=R) b l hp) (jT b l hp) fun y l hp=>rfl
 | .unit,l,hp=>fun _ _=>rfl
 | .st f,l,hp=>jT f l hp
 | .arr n e,l,hp=>zm8 (step:=fun R=>qb (R:=R) e) (fun l hp=>jT e l hp) n l hp
 | .int i, [],hp=>fun _ _=>rfl
 | .int i,s::l,hp=>fun R k=>zI (m:=fun R=>zl5 (R:=R) (.int i) s hp) (zbl _ s hp) fun _ _=>rfl
 | .bool, [],hp=>fun _ _=>rfl
 | .bool,s::l,hp=>fun R k=>zI (m:=fun R=>zl5 (R:=R) .bool s hp) (zbl _ s hp) fun _ _=>rfl
 | .str, [],hp=>fun _ _=>rfl
 | .str,s::l,hp=>fun R k=>zI (m:=fun R=>zl5 (R:=R) .str s hp) (zbl _ s hp) fun _ _=>rfl
 | .flt, [],hp=>fun _ _=>rfl
 | .flt,s::l,hp=>fun R k=>zI (m:=fun R=>zl5 (R:=R) .flt s hp) (zbl _ s hp) fun _ _=>rfl
 | .cplx, [],hp=>fun _ _=>rfl
 | .cplx,s::l,hp=>fun R k=>zI (m:=fun R=>zl5 (R:=R) .cplx s hp) (zbl _ s hp) fun _ _=>rfl
 | .sl e, [],hp=>fun _ _=>rfl
 | .sl e,s::l,hp=>fun R k=>zI (m:=fun R=>zl5 (R:=R) (.sl e) s hp) (zbl _ s hp) fun _ _=>rfl
 | .osl e, [],hp=>fun _ _=>rfl
 | .osl e,s::l,hp=>fun R k=>zI (m:=fun R=>zl5 (R:=R) (.osl e) s hp) (zbl _ s hp) fun _ _=>rfl
theorem zqp (t:Ty) (s:SV) (hp:List HO):CN2 fun R=>zda (R:=R) t s hp:=by
 intro R k
 show zda t s hp k=(zda t s hp _).bind _
 unfold zda
 split
 ·refine zf (qg (m:=fun R=>qb (R:=R) t _ hp) (jT t _ hp) fun x l hp=> ?_) rfl
  cases l<;>rfl
 ·exact zbl t _ hp R k
section
variable {X R:Type} {C:Ctx} {fr:List SV} {k:X→Option R}
theorem zhd (t:Ty) (s:SV) (hp:List HO) {f:t.den→List HO→Option R} {g:t.den→List HO→Option X} (h: ∀ a b,f a b=(g a b).bind k):zda t s hp f=(zda t s hp g).bind k:=
 zI (m:=fun R=>zda (R:=R) t s hp) (zqp t s hp) h
theorem zjt (s:SV) {f:List SV→Option R} {g:List SV→Option X} (h: ∀ a,f a=(g a).bind k):s.cellsK f=(s.cellsK g).bind k:=
 zg (m:=fun R=>s.cellsK (R:=R)) (zm7 s) h
end
theorem z0j (t:Ty) (s:SV) (hp:List HO):CN2 fun R=>roF (R:=R) t s hp:=by
 intro R k
 show roF t s hp k=(roF t s hp _).bind _
 unfold roF
 split
 ·exact zD (fun h=>by subst h;rfl) fun _=>rfl
 ·refine zf (z6 hp _ fun o=> ?_) rfl
  cases o with
  |cells l=>
   refine qg (m:=fun R=>qb (R:=R) t l hp) (jT t l hp) fun x l' hp=> ?_
   cases l' with
   |nil=>
    refine z6 hp _ fun o=> ?_
    cases o with
    |cells _=>exact zV _ _ _ fun _=>rfl
    |_=>rfl
   |cons _ _=>rfl
  |frs t' x=>exact zD (fun h=>by subst h;rfl) fun _=>rfl
  |_=>rfl
 ·rfl
theorem zm9 (C:Ctx) (fr:List SV) (t:Ty): ∀ (l:List (Nat×Operand)) (xs:List t.den) (hp:List HO),CN2 fun R=>zbr (R:=R) C fr t l xs hp
 | [],xs,hp=>fun _ _=>rfl
 |(i,x)::l,xs,hp=>by
  intro R k
  show zbr C fr t ((i,x)::l) xs hp k=(zbr C fr t ((i,x)::l) xs hp _).bind _
  unfold zbr
  exact zf (zm _ fun s=>zhd t s hp fun y hp=>zV xs i y fun xs=>zI (m:=fun R=>zbr (R:=R) C fr t l xs hp) (zm9 C fr t l xs hp) fun _ _=>rfl) rfl
theorem zub {α:Type} (x:α): ∀ (n:Nat),CN fun R=>zxx (R:=R) x n
 |0=>fun _ _=>rfl
 |n+1=>fun R k=>zg (m:=fun R=>zxx (R:=R) x n) (zub x n) fun _=>rfl
theorem zpf (t:Ty) (s:SV) (hp:List HO):CN fun R=>ztq (R:=R) t s hp:=by
 intro R k
 show ztq t s hp k=(ztq t s hp some).bind k
 unfold ztq
 split
 ·exact zD (fun h=>by subst h;rfl) fun _=>rfl
 ·rfl
 ·rfl
 ·refine z6 hp _ fun o=> ?_
  cases o with
  |arr T e xs=>exact zD (fun h=>by subst h;rfl) fun _=>rfl
  |tk T e xs=>exact zD (fun h=>by subst h;rfl) fun _=>rfl
  |_=>rfl
 ·rfl
theorem zt8 {t':Ty}: ∀ (i:Nat) (f:Ty) (x:f.den) (gR:(R:Type)→(u:Ty)→u.den→(u.den→Option R)→Option R),(∀ u z,CN fun R=>gR R u z)→CN fun R=>zoh.fsetAux (R:=R) i f x (gR R)
 |0, .pair a b,x,g,hg=>fun R k=>zg (m:=fun R=>g R a x.1) (hg a x.1) fun _=>rfl
 |i+1, .pair a b,x,g,hg=>fun R k=>zg (m:=fun R=>zoh.fsetAux (R:=R) i b x.2 (g R)) (zt8 (t':=t') i b x.2 g hg) fun _=>rfl
 |0, .int _,x,g,hg=>hg _ _
 |0, .bool,x,g,hg=>hg _ _
 |0, .str,x,g,hg=>hg _ _
 |0, .flt,x,g,hg=>hg _ _
 |0, .cplx,x,g,hg=>hg _ _
 |0, .unit,x,g,hg=>hg _ _
 |0, .sl _,x,g,hg=>hg _ _
 |0, .osl _,x,g,hg=>hg _ _
 |0, .arr _ _,x,g,hg=>hg _ _
 |0, .st _,x,g,hg=>hg _ _
 |_+1, .int _,x,g,hg=>fun _ _=>rfl
 |_+1, .bool,x,g,hg=>fun _ _=>rfl
 |_+1, .str,x,g,hg=>fun _ _=>rfl
 |_+1, .flt,x,g,hg=>fun _ _=>rfl
 |_+1, .cplx,x,g,hg=>fun _ _=>rfl
 |_+1, .unit,x,g,hg=>fun _ _=>rfl
 |_+1, .sl _,x,g,hg=>fun _ _=>rfl
 |_+1, .osl _,x,g,hg=>fun _ _=>rfl
 |_+1, .arr _ _,x,g,hg=>fun _ _=>rfl
 |_+1, .st _,x,g,hg=>fun _ _=>rfl
theorem zpe: ∀ (p:List Nat) (t:Ty) (x:t.den) (t':Ty) (y:t'.den),CN fun R=>zoh (R:=R) p t x t' y
 | [],t,x,t',y=>fun R k=>zD (fun h=>by subst h;rfl) fun _=>rfl
 |i::p, .st f,x,t',y=>zt8 (t':=t') i f x (fun R u z k=>zoh p u z t' y k) fun u z=>zpe p u z t' y
 |_::_, .int _,_,_,_=>fun _ _=>rfl
 |_::_, .bool,_,_,_=>fun _ _=>rfl
 |_::_, .str,_,_,_=>fun _ _=>rfl
 |_::_, .flt,_,_,_=>fun _ _=>rfl
 |_::_, .cplx,_,_,_=>fun _ _=>rfl
 |_::_, .unit,_,_,_=>fun _ _=>rfl
 |_::_, .sl _,_,_,_=>fun _ _=>rfl
 |_::_, .osl _,_,_,_=>fun _ _=>rfl
 |_::_, .arr _ _,_,_,_=>fun _ _=>rfl
 |_::_, .pair _ _,_,_,_=>fun _ _=>rfl
theorem zse (i:TI) (x v:SV) (hp:List HO):CN2 fun R=>zbw (R:=R) i x v hp:=by
 intro R k
 show zbw i x v hp k=(zbw i x v hp _).bind _
 unfold zbw
 split
 ·refine zjt v fun l'=>zf (z6 hp _ fun o=> ?_) rfl
  cases o with
  |cells l=>exact zf (zV _ _ _ fun _=>rfl) rfl
  |_=>rfl
 ·split
  ·refine zf (zhd _ v hp fun y hp=>z6 hp _ fun o=> ?_) rfl
   cases o with
   |arr T t' xs=>exact zD (fun h=>zg (m:=fun R=>zoh (R:=R) _ _ _ _ y) (zpe _ _ _ _ y) fun z=>zV _ _ _ fun _=>rfl) fun _=>rfl
   |_=>rfl
  ·rfl
 ·rfl
theorem zuc (t:Ty) (s:SV) (hp:List HO):CN2 fun R=>zwo (R:=R) t s hp:=by
 intro R k
 show zwo t s hp k=(zwo t s hp _).bind _
 unfold zwo
 split
 ·exact zD (fun h=>by subst h;rfl) fun _=>rfl
 ·rfl
 ·rfl
 ·refine z6 hp _ fun o=> ?_
  cases o with
  |arr T e xs=>exact zD (fun h=>by subst h;exact zV _ _ _ fun _=>rfl) fun _=>rfl
  |_=>rfl
 ·rfl
theorem zfw (C:Ctx) (E:TypeId) (ei:TI) (x:SV) (hp:List HO):CN2 fun R=>xE (R:=R) C E ei x hp:=by
 intro R k
 show xE C E ei x hp k=(xE C E ei x hp _).bind _
 unfold xE
 split
 ·exact zf (zf (zg (m:=fun R=>ztq (R:=R) _ x hp) (zpf _ x hp) fun ys=>zM (qx _ _ fun _=>rfl) rfl)
   (zI (m:=fun R=>zwo (R:=R) _ x hp) (zuc _ x hp) fun ys hp=>zM (qx _ _ fun _=>rfl) rfl)) rfl
 ·rfl
theorem zpc (C:Ctx) (E:TypeId) (ei:TI) (s x:SV) (hp:List HO):CN2 fun R=>jE (R:=R) C E ei s x hp:=by
 intro R k
 show jE C E ei s x hp k=(jE C E ei s x hp _).bind _
 unfold jE
 split
 ·exact zfw C E ei x hp R k
 ·exact zfw C E ei x hp R k
 ·refine z6 hp _ fun o=> ?_
  cases o with
  |arr E' t xs=>exact zf (zf (zg (m:=fun R=>ztq (R:=R) t x hp) (zpf t x hp) fun ys=>zM (zV _ _ _ fun _=>qx _ _ fun _=>rfl) rfl)
    (zV _ _ _ fun hp1=>zI (m:=fun R=>zwo (R:=R) t x hp1) (zuc t x hp1) fun ys hp2=>zM (qx _ _ fun _=>rfl) rfl)) rfl
  |tk E' t xs=>exact zf (zg (m:=fun R=>ztq (R:=R) t x hp) (zpf t x hp) fun ys=>zM (zV _ _ _ fun _=>qx _ _ fun _=>rfl) rfl) rfl
  |_=>rfl
 ·rfl
theorem zdw (mp:List PM) (j:Nat) (p:PM):CN fun R=>jA (R:=R) mp j p:=by
 intro R k
 show jA mp j p k=(jA mp j p some).bind k
 unfold jA
 refine z6 mp j fun q=> ?_
 cases q with
 |none=>exact zV _ _ _ fun _=>rfl
 |nil=>exact zf rfl rfl
 |id i l=>exact zf rfl rfl
theorem qm: ∀ (ss:List Sh) (vs:List SV) (mp:List PM) (hp:List HO),CN3 fun R=>zR (R:=R) ss vs mp hp
 | [], [],mp,hp=>fun _ _=>rfl
 | [],_::_,mp,hp=>fun _ _=>rfl
 | .hole t::ss, [],mp,hp=>fun _ _=>rfl
 | .own t::ss, [],mp,hp=>fun _ _=>rfl
 | .ptr t _::ss, [],mp,hp=>fun _ _=>rfl
 | .nilp::ss, [],mp,hp=>fun _ _=>rfl
 | .mp _::ss, [],mp,hp=>fun _ _=>rfl
 | .mp j::ss,v::vs,mp,hp=>fun R k=>by
  cases v with
  |mp id=>exact zg (m:=fun R=>jA (R:=R) mp j _) (zdw mp j _) fun mp=>qm ss vs mp hp R k
  |_=>rfl
 | .und::ss, [],mp,hp=>fun _ _=>rfl
 | .fnc f n::ss, [],mp,hp=>fun _ _=>rfl
 | .fnc f n::ss,v::vs,mp,hp=>fun R k=>by
  cases v with
  |fn g l=>exact zf (qm ss (l++vs) mp hp R k) rfl
  |_=>rfl
 | .agn n::ss, [],mp,hp=>fun _ _=>rfl
 | .agn n::ss,v::vs,mp,hp=>fun R k=>by
  cases v with
  |agg l=>exact zf (qm ss (l++vs) mp hp R k) rfl
  |_=>rfl
 | .ro t::ss, [],mp,hp=>fun _ _=>rfl
 | .ro t::ss,v::vs,mp,hp=>fun R k=>zI (m:=fun R=>roF (R:=R) t v hp) (z0j t v hp) fun x hp=>qg (m:=fun R=>zR (R:=R) ss vs mp hp) (qm ss vs mp hp) fun _ _ _=>rfl
 | .hole t::ss,v::vs,mp,hp=>fun R k=>zhd t v hp fun x hp=>qg (m:=fun R=>zR (R:=R) ss vs mp hp) (qm ss vs mp hp) fun _ _ _=>rfl
 | .own j::ss,v::vs,mp,hp=>fun R k=>by
  cases v with
  |own id len=>exact zg (m:=fun R=>jA (R:=R) mp j _) (zdw mp j _) fun mp=>qm ss vs mp hp R k
  |nils=>exact zg (m:=fun R=>jA (R:=R) mp j _) (zdw mp j _) fun mp=>qm ss vs mp hp R k
  |_=>rfl
 | .ptr j off::ss,v::vs,mp,hp=>fun R k=>by
  cases v with
  |ptr id o=>exact zf (zg (m:=fun R=>jA (R:=R) mp j _) (zdw mp j _) fun mp=>qm ss vs mp hp R k) rfl
  |_=>rfl
 | .nilp::ss,v::vs,mp,hp=>fun R k=>by
  cases v with
  |nilp=>exact qm ss vs mp hp R k
  |_=>rfl
 | .und::ss,v::vs,mp,hp=>qm ss vs mp hp
theorem jU: ∀ (os:List OSh) (j:Nat) (mp:List PM) (hp:List HO),CN3 fun R=>xI (R:=R) j os mp hp
 | [],j,mp,hp=>fun _ _=>rfl
 | .gone::os,j,mp,hp=>jU os (j+1) mp hp
 | .cells sl::os,j,mp,hp=>fun R k=>by
  refine z6 mp j fun p=> ?_
  cases p with
  |id i l=>
   cases l with
   |none=>
    refine z6 hp i fun o=> ?_
    cases o with
    |cells l=>exact qg (m:=fun R=>zR (R:=R) sl l mp hp) (qm sl l mp hp) fun mp ds hp=>qg (m:=fun R=>xI (R:=R) (j+1) os mp hp) (jU os (j+1) mp hp) fun _ _ _=>rfl
    |_=>rfl
   |some n=>rfl
  |_=>rfl
 | .arr T t::os,j,mp,hp=>fun R k=>by
  refine z6 mp j fun p=> ?_
  cases p with
  |nil=>exact qg (m:=fun R=>xI (R:=R) (j+1) os mp hp) (jU os (j+1) mp hp) fun _ _ _=>rfl
  |id i len=>
   refine z6 hp i fun o=> ?_
   cases o with
   |arr T' t' xs=>exact zf (zD (fun h=>qg (m:=fun R=>xI (R:=R) (j+1) os mp hp) (jU os (j+1) mp hp) fun _ _ _=>rfl) fun _=>rfl) rfl
   |_=>rfl
  |none=>rfl
 | .map K V::os,j,mp,hp=>fun R k=>by
  refine z6 mp j fun p=> ?_
  cases p with
  |id i l=>
   cases l with
   |none=>
    refine z6 hp i fun o=> ?_
    cases o with
    |map K' V' es=>exact zD (fun h=>qg (m:=fun R=>xI (R:=R) (j+1) os mp hp) (jU os (j+1) mp hp) fun _ _ _=>rfl) fun _=>rfl
    |_=>rfl
   |some n=>rfl
  |_=>rfl
theorem zka {X R:Type} {k:X→Option R} {x:Option R} {y:Option X} (hp:List HO) (h:x=y.bind k): ∀ (l:List Nat),zsw l hp x=(zsw l hp y).bind k
 | []=>h
 |i::l=>z6 hp i fun o=>zf (zka hp h l) rfl
theorem zog {X R:Type} {k:X→Option R} (n0:Nat) (sk:Skel) (vs:List SV) (hp:List HO) {f:List DV→List PM→List HO→Option R} {g:List DV→List PM→List HO→Option X} (h: ∀ a b c,f a b c=(g a b c).bind k):
  zrl n0 sk vs hp f=(zrl n0 sk vs hp g).bind k:=by
 unfold zrl
 exact qg (m:=fun R=>zR (R:=R) sk.slots vs _ hp) (qm _ _ _ _) fun mp ds hp=>qg (m:=fun R=>xI (R:=R) 0 sk.objs mp hp) (jU _ _ _ _) fun mp ds' hp=>
  zf (zka hp (h _ _ _) _) rfl
theorem zqr: ∀ (ts:List Ty) (ds:List DV),CN fun R=>zbd (R:=R) ts ds
 | [], []=>fun _ _=>rfl
 | [],_::_=>fun _ _=>rfl
 | [t], []=>fun _ _=>rfl
 | [t], [d]=>fun R k=>zD (fun h=>rfl) fun _=>rfl
 | [t],_::_::_=>fun _ _=>rfl
 |t::u::l, []=>fun _ _=>rfl
 |t::u::l,d::ds=>fun R k=>zD (fun h=>zg (m:=fun R=>zbd (R:=R) (u::l) ds) (zqr (u::l) ds) fun _=>rfl) fun _=>rfl
theorem qt (ρ:List Nat): ∀ (ss:List Sh) (ds:List DV),CN2 fun R=>zu (R:=R) ρ ss ds
 | [],ds=>fun _ _=>rfl
 | .fnc f n::ss,ds=>fun R k=>by
  show zu ρ (.fnc f n::ss) ds k=(zu ρ (.fnc f n::ss) ds _).bind _
  unfold zu
  exact zI (m:=fun R=>zu (R:=R) ρ ss ds) (qt ρ ss ds) fun _ _=>rfl
 | .agn n::ss,ds=>fun R k=>by
  show zu ρ (.agn n::ss) ds k=(zu ρ (.agn n::ss) ds _).bind _
  unfold zu
  exact zI (m:=fun R=>zu (R:=R) ρ ss ds) (qt ρ ss ds) fun _ _=>rfl
 | .ro _::ss, []=>fun _ _=>rfl
 | .ro _::ss,d::ds=>fun R k=>zI (m:=fun R=>zu (R:=R) ρ ss ds) (qt ρ ss ds) fun _ _=>rfl
 | .hole _::ss, []=>fun _ _=>rfl
 | .hole _::ss,d::ds=>fun R k=>zI (m:=fun R=>zu (R:=R) ρ ss ds) (qt ρ ss ds) fun _ _=>rfl
 | .own j::ss,ds=>fun R k=>by
  show zu ρ (.own j::ss) ds k=(zu ρ (.own j::ss) ds _).bind _
  unfold zu
  exact zI (m:=fun R=>zu (R:=R) ρ ss ds) (qt ρ ss ds) fun _ _=>rfl
 | .ptr j off::ss,ds=>fun R k=>by
  show zu ρ (.ptr j off::ss) ds k=(zu ρ (.ptr j off::ss) ds _).bind _
  unfold zu
  exact zI (m:=fun R=>zu (R:=R) ρ ss ds) (qt ρ ss ds) fun _ _=>rfl
 | .nilp::ss,ds=>fun R k=>by
  show zu ρ (.nilp::ss) ds k=(zu ρ (.nilp::ss) ds _).bind _
  unfold zu
  exact zI (m:=fun R=>zu (R:=R) ρ ss ds) (qt ρ ss ds) fun _ _=>rfl
 | .mp j::ss,ds=>fun R k=>by
  show zu ρ (.mp j::ss) ds k=(zu ρ (.mp j::ss) ds _).bind _
  unfold zu
  exact zI (m:=fun R=>zu (R:=R) ρ ss ds) (qt ρ ss ds) fun _ _=>rfl
 | .und::ss,ds=>fun R k=>by
  show zu ρ (.und::ss) ds k=(zu ρ (.und::ss) ds _).bind _
  unfold zu
  exact zI (m:=fun R=>zu (R:=R) ρ ss ds) (qt ρ ss ds) fun _ _=>rfl
theorem zbk (ρ:List Nat): ∀ (os:List OSh) (ds:List DV),CN fun R=>z0 (R:=R) ρ os ds
 | [],ds=>fun _ _=>rfl
 | .gone::os,ds=>fun R k=>by
  show z0 ρ (.gone::os) ds k=(z0 ρ (.gone::os) ds some).bind k
  unfold z0
  exact zg (m:=fun R=>z0 (R:=R) ρ os ds) (zbk ρ os ds) fun _=>rfl
 | .cells sl::os,ds=>fun R k=>by
  show z0 ρ (.cells sl::os) ds k=(z0 ρ (.cells sl::os) ds some).bind k
  unfold z0
  exact zI (m:=fun R=>zu (R:=R) ρ sl ds) (qt ρ sl ds) fun vs ds=>zg (m:=fun R=>z0 (R:=R) ρ os ds) (zbk ρ os ds) fun _=>rfl
 | .arr _ _::os, []=>fun _ _=>rfl
 | .arr T t::os,d::ds=>fun R k=>by
  show z0 ρ (.arr T t::os) (d::ds) k=(z0 ρ (.arr T t::os) (d::ds) some).bind k
  unfold z0
  split
  ·exact zg (m:=fun R=>z0 (R:=R) ρ os ds) (zbk ρ os ds) fun _=>rfl
  ·rfl
 | .map _ _::os, []=>fun _ _=>rfl
 | .map K V::os,d::ds=>fun R k=>by
  show z0 ρ (.map K V::os) (d::ds) k=(z0 ρ (.map K V::os) (d::ds) some).bind k
  unfold z0
  split
  ·exact zg (m:=fun R=>z0 (R:=R) ρ os ds) (zbk ρ os ds) fun _=>rfl
  ·rfl
theorem zr4 {X R:Type} {k:X→Option R} (ρ:List Nat) (sk:Skel) (ds:List DV) {f:List SV→List HO→Option R} {g:List SV→List HO→Option X} (h: ∀ a b,f a b=(g a b).bind k):build ρ sk ds f=(build ρ sk ds g).bind k:=by
 unfold build
 exact zI (m:=fun R=>zu (R:=R) ρ sk.slots ds) (qt _ _ _) fun vs ds=>zg (m:=fun R=>z0 (R:=R) ρ sk.objs ds) (zbk _ _ _) fun hs=>h vs hs
theorem zdz {X R:Type} {k:X→Option R} {f:List HO→Option R} {g:List HO→Option X} (h: ∀ a,f a=(g a).bind k): ∀ (mp:List PM) (hp:List HO),zaj mp hp f=(zaj mp hp g).bind k
 | [],hp=>h hp
 | .id i l::mp,hp=>zV hp i .gone fun hp=>zdz h mp hp
 | .nil::mp,hp=>zdz h mp hp
 | .none::mp,hp=>zdz h mp hp
theorem zu3 {X R:Type} {k:X→Option R} {f:List HO→Option R} {g:List HO→Option X} (h: ∀ a,f a=(g a).bind k) (mp:List PM) (os:List OSh) (hp:List HO):ze9 mp os hp f=(ze9 mp os hp g).bind k:=by
 rw[jH [] 0,jH [] 0];exact h _
theorem zid {X R:Type} {k:X→Option R} {f:List HO→Option R} {g:List HO→Option X} (h: ∀ a,f a=(g a).bind k): ∀ (ρ:List Nat) (os hp:List HO),zel ρ os hp f=(zel ρ os hp g).bind k
 | [],_,hp=>by unfold zel;exact h hp
 |_::_, [],hp=>by unfold zel;exact h hp
 |i::ρ,o::os,hp=>by unfold zel;exact zV hp i o fun hp=>zid h ρ os hp
theorem zwx (c:Con) (args:List SV) (hp:List HO):CN2 fun R=>znj (R:=R) c args hp:=by
 intro R k
 show znj c args hp k=(znj c args hp _).bind _
 unfold znj
 refine zf (zog 0 _ args hp fun ds mp hp1=>zg (m:=fun R=>zbd (R:=R) _ ds) (zqr _ ds) fun x=> ?_) rfl
 cases c.F x with
 |none=>rfl
 |some y=>
  simp only[Option.bind_some]
  refine zr4 _ _ _ fun vs hos=> ?_
  refine zdz (fun hp2=> ?_) _ _
  refine zu3 (fun hp3=> ?_) _ _ _
  refine zid (fun hp4=> ?_) _ _ _
  rfl
theorem zr9 (C:Ctx) (E:TypeId) (ei:TI) (x:SV) (hp:List HO):CN2 fun R=>zbs (R:=R) C E ei x hp:=by
 intro R k
 show zbs C E ei x hp k=(zbs C E ei x hp _).bind _
 unfold zbs
 split
 ·rfl
 ·refine zg (m:=fun R=>qv (R:=R) hp _) (qK hp _) fun o=> ?_
  split
  ·split
   ·refine zf ?_ rfl
    split
    ·exact zV _ _ _ fun _=>rfl
    ·rfl
   ·rfl
  ·rfl
 ·refine zg (m:=fun R=>qv (R:=R) hp _) (qK hp _) fun o=> ?_
  split
  ·split
   ·refine zf ?_ rfl
    split
    ·exact zV _ _ _ fun _=>rfl
    ·rfl
   ·rfl
  ·rfl
 ·rfl
theorem zna (C:Ctx) (fr:List SV) (i:TI) (n:Option Operand) (hp:List HO):CN2 fun R=>je (R:=R) C fr i n hp:=by
 intro R k
 show je C fr i n hp k=(je C fr i n hp _).bind _
 unfold je
 split
 ·refine zH _ fun ki=>zH _ fun vi=> ?_
  split
  ·exact zg (m:=fun R=>zwm (R:=R) C fr n 0) (zua C fr n 0) fun _=>qx _ _ fun _=>rfl
  ·rfl
 ·rfl
theorem zcv (C:Ctx) (i:TI) (m y v:SV) (hp:List HO):CN2 fun R=>qh (R:=R) C i m y v hp:=by
 intro R k
 show qh C i m y v hp k=(qh C i m y v hp _).bind _
 unfold qh
 split
 ·refine zH _ fun ki=>zH _ fun vi=> ?_
  split
  ·refine zI (m:=fun R=>zda (R:=R) _ v hp) (zqp _ v hp) fun x hp=>zg (m:=fun R=>qv (R:=R) hp _) (qK hp _) fun o=> ?_
   split
   ·refine zf ?_ rfl
    split
    ·exact zV _ _ _ fun _=>rfl
    ·rfl
   ·rfl
  ·rfl
 ·rfl
theorem zt5 (i:TI) (x:SV) (hp:List HO):CN2 fun R=>zbt (R:=R) i hp x:=by
 intro R k
 have plain:(xF i hp x fun s=>k s hp)=(xF i hp x fun s=>some (s,hp)).bind fun p=>k p.1 p.2:=zg (m:=fun R=>xF (R:=R) i hp x) (zg7 i hp x) fun _=>rfl
 show zbt i hp x k=(zbt i hp x _).bind _
 unfold zbt
 split
 ·refine z6 hp _ fun o=> ?_
  cases o with
  |arr T t' xs=>
   refine zD (fun h=> ?_) fun _=>rfl
   subst h
   simp only
   split
   ·split
    ·exact zf (zM (zg (m:=fun R=>zoh (R:=R) _ _ _ _ _) (zpe _ _ _ _ _) fun z=>zV _ _ _ fun _=>qx _ _ fun _=>rfl) rfl) rfl
    ·exact plain
   ·rfl
  |_=>rfl
 ·exact plain
theorem zwy (C:Ctx) (Γ:List Con) (fr:List SV) (hp:List HO) (op:Op):CN2 fun R=>zhj (R:=R) C Γ fr hp op:=by
 intro R k
 show zhj C Γ fr hp op k=(zhj C Γ fr hp op _).bind _
 unfold zhj
 split
 ·exact zH _ fun i=>qx _ _ fun _=>rfl
 ·exact zm _ fun s=>zjt s fun l=>qx _ _ fun _=>rfl
 ·refine zH _ fun i=> ?_
  split
  ·refine zH _ fun ei=> ?_
   split
   ·exact zf (zg (m:=fun R=>zxx (R:=R) _ _) (zub _ _) fun xs=>zI (m:=fun R=>zbr (R:=R) C fr _ _ xs hp) (zm9 C fr _ _ xs hp) fun xs hp=>qx _ _ fun _=>rfl) rfl
   ·rfl
  ·rfl
 ·refine zH _ fun i=> ?_
  split
  ·refine zH _ fun ei=> ?_
   split
   ·exact zf (zm _ fun l=>zg (m:=fun R=>asI (R:=R) l) (zjv l) fun l=>zm _ fun c=>zg (m:=fun R=>asI (R:=R) c) (zjv c) fun c=>zM (qx _ _ fun _=>rfl) rfl) rfl
   ·rfl
  ·rfl
 ·exact zH _ fun i=>zm _ fun x=>zm _ fun v=>zse i x v hp R k
 ·split
  ·refine zf (zH _ fun i=> ?_) rfl
   split
   ·exact zH _ fun ei=>zm _ fun s=>zm _ fun x=>zpc C _ ei s x hp R k
   ·rfl
  ·rfl
 ·split
  ·refine zH _ fun i=> ?_
   split
   ·exact zH _ fun ei=>zm _ fun x=>zr9 C _ ei x hp R k
   ·rfl
  ·rfl
 ·exact zH _ fun i=>zna C fr i _ hp R k
 ·exact zH _ fun i=>zm _ fun m=>zm _ fun y=>zm _ fun v=>zcv C i m y v hp R k
 ·exact zH _ fun i=>zm _ fun m=>zm _ fun y=>zm _ fun v=>zcv C i m y v hp R k
 ·exact zH _ fun i=>zm _ fun x=>zt5 i x hp R k
 ·rw[zk7]
  rw[zk7 (k:=fun c vs=>znj c vs hp fun a b=>some (a,b))]
  cases (zbi (R:=Con×List SV) C Γ fr _ _ fun c vs=>some (c,vs)) with
  |none=>rfl
  |some p=>exact zwx p.1 p.2 hp R k
 ·rfl
theorem zt6 (hp:List HO): ∀ (n:List HO) (i id:Nat) (len:Option Nat),CN fun R=>z2g (R:=R) n i id len
 | [],_,_,_=>fun _ _=>rfl
 |o::l,0,id,len=>fun R k=>by cases o<;>rfl
 |o::l,n+1,id,len=>fun R k=>by cases o<;>exact zt6 hp l n id len R k
theorem zt7 (hp:List HO): ∀ (n:List HO) (i id off:Nat),CN fun R=>z1e (R:=R) n i id off
 | [],_,_,_=>fun _ _=>rfl
 |o::l,0,id,off=>fun R k=>by
  cases o with
  |frs t x=>exact zf rfl rfl
  |_=>rfl
 |o::l,n+1,id,off=>fun R k=>by cases o<;>exact zt7 hp l n id off R k
theorem zw2 (hp:List HO) (s:SV):CN fun R=>zth (R:=R) hp s:=by
 intro R k
 cases s with
 |own id len=>exact zt6 hp hp id id len R k
 |ptr id off=>exact zt7 hp hp id id off R k
 |_=>rfl
theorem zqq (hp:List HO): ∀ (l:List SV),CN fun R=>ztg (R:=R) hp l
 | []=>fun _ _=>rfl
 |s::l=>fun R k=>zg (m:=fun R=>zth (R:=R) hp s) (zw2 hp s) fun s'=>zg (m:=fun R=>ztg (R:=R) hp l) (zqq hp l) fun _=>rfl
theorem zlf (hp:List HO) (fr:List SV):CN fun R=>za2 (R:=R) hp fr:=by
 intro R k
 show za2 hp fr k=(za2 hp fr some).bind k
 unfold za2
 exact zf (zqq hp fr R k) rfl
end Go.Sx
