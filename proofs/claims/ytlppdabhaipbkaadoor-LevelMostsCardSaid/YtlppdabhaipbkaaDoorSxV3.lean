/- The symbolic evaluator, part V3: operations with effects are told alike, whatever goes on behind. -/
import Derived.Test.YtlppdabhaipbkaaDoorSxV2
set_option linter.unusedVariables false
set_option linter.unusedSimpArgs false
namespace Go.Sx
open Go.RowKit
def CN2 {A B:Type} (m:(R:Type)→(A→B→Option R)→Option R):Prop:= ∀ (R:Type) (k:A→B→Option R),m R k=(m (A×B) fun a b=>some (a,b)).bind fun p=>k p.1 p.2
def CN3 {A B D:Type} (m:(R:Type)→(A→B→D→Option R)→Option R):Prop:= ∀ (R:Type) (k:A→B→D→Option R),m R k=(m (A×B×D) fun a b d=>some (a,b,d)).bind fun p=>k p.1 p.2.1 p.2.2
theorem zI {A B X R:Type} {m:(R:Type)→(A→B→Option R)→Option R} (hm:CN2 m) {f:A→B→Option R} {g:A→B→Option X} {k:X→Option R} (h: ∀ a b,f a b=(g a b).bind k):m R f=(m X g).bind k:=by
 rw[hm R f,hm X g]
 cases m (A×B) (fun a b=>some (a,b)) with
 |none=>rfl
 |some p=>exact h p.1 p.2
theorem qg {A B D X R:Type} {m:(R:Type)→(A→B→D→Option R)→Option R} (hm:CN3 m) {f:A→B→D→Option R} {g:A→B→D→Option X} {k:X→Option R} (h: ∀ a b d,f a b d=(g a b d).bind k):m R f=(m X g).bind k:=by
 rw[hm R f,hm X g]
 cases m (A×B×D) (fun a b d=>some (a,b,d)) with
 |none=>rfl
 |some p=>exact h p.1 p.2.1 p.2.2
theorem zC {X R:Type} {c:Prop} [Decidable c] {a:c→Option R} {a':c→Option X} {b: ¬ c→Option R} {b': ¬ c→Option X} {k:X→Option R} (h1: ∀ h,a h=(a' h).bind k) (h2: ∀ h,b h=(b' h).bind k):(if h:c then a h else b h)=(if h:c then a' h else b' h).bind k:=by
 by_cases h:c
 ·simp only[dif_pos h,h1]
 ·simp only[dif_neg h,h2]
theorem zV {α X R:Type} (l:List α) (n:Nat) (v:α) {f:List α→Option R} {g:List α→Option X} {k:X→Option R} (h: ∀ a,f a=(g a).bind k):jt l n v f=(jt l n v g).bind k:=by
 rw[zn,zn];exact h _
theorem qv {α X R:Type} (l:List α) (v:α) {f:List α→Option R} {g:List α→Option X} {k:X→Option R} (h: ∀ a,f a=(g a).bind k):jk l v f=(jk l v g).bind k:=by
 rw[zW,zW];exact h _
theorem z5 {α X R:Type} (l:List α) (n:Nat) {f:α→Option R} {g:α→Option X} {k:X→Option R} (h: ∀ a,f a=(g a).bind k):qt l n f=(qt l n g).bind k:=
 zg (m:=fun R=>qt (R:=R) l n) (qK l n) h
theorem zbd (t:Ty) (s:SV) (hp:List HO):CN2 fun R=>zk7 (R:=R) t s hp:=by
 intro R k
 cases s with
 |val t' x=>exact zf (zC (fun h=>by subst h;rfl) (fun _=>rfl)) (zC (fun h=>by subst h;rfl) (fun _=>rfl))
 |bit b=>cases t<;>rfl
 |nils=>cases t<;>rfl
 |nil0=>cases t<;>rfl
 |own id len=>
  cases t with
  |sl e=>
   show qt hp id _=(qt hp id _).bind _
   refine z5 hp id fun o=> ?_
   cases o with
   |arr T e' xs=>exact zC (fun h=>by subst h;exact zV _ _ _ fun _=>rfl) (fun _=>zC (fun h=>by subst h;exact zV _ _ _ fun _=>rfl) fun _=>rfl)
   |fro e' xs=>exact zC (fun h=>by subst h;rfl) (fun _=>rfl)
   |tk _ e' xs=>exact zC (fun h=>by subst h;rfl) (fun _=>rfl)
   |_=>rfl
  |osl e=>
   refine zf (z5 hp id fun o=> ?_) rfl
   cases o with
   |arr T e' xs=>exact zC (fun h=>by subst h;exact zV _ _ _ fun _=>rfl) (fun _=>rfl)
   |fro e' xs=>exact zC (fun h=>by subst h;rfl) (fun _=>rfl)
   |tk _ e' xs=>exact zC (fun h=>by subst h;exact zV _ _ _ fun _=>rfl) (fun _=>rfl)
   |_=>rfl
  |_=>rfl
 |_=>rfl
theorem zma {α:Type} {step:(R:Type)→List SV→List HO→(α→List SV→List HO→Option R)→Option R} (hs: ∀ l hp,CN3 fun R=>step R l hp): ∀ (n:Nat) (l:List SV) (hp:List HO),CN3 fun R=>zi0 (step R) n l hp
 |0,l,hp=>fun _ _=>rfl
 |n+1,l,hp=>by
  intro R k
  show step R l hp _=(step _ l hp _).bind _
  exact qg (m:=fun R=>step R l hp) (hs l hp) fun x l hp=>qg (m:=fun R=>zi0 (step R) n l hp) (zma hs n l hp) fun xs l hp=>rfl
theorem jO: ∀ (t:Ty) (l:List SV) (hp:List HO),CN3 fun R=>qb (R:=R) t l hp
 | .pair a b,l,hp=>by
  intro R k
  show qb a l hp _=(qb a l hp _).bind _
  exact qg (m:=fun R=>qb (R:=R) a l hp) (jO a l hp) fun x l hp=>qg (m:=fun R=>qb (R:=R) b l hp) (jO b l hp) fun y l hp=>rfl
 | .unit,l,hp=>fun _ _=>rfl
 | .st f,l,hp=>jO f l hp
 | .arr n e,l,hp=>zma (step:=fun R=>qb (R:=R) e) (fun l hp=>jO e l hp) n l hp
 | .int i, [],hp=>fun _ _=>rfl
 | .int i,s::l,hp=>fun R k=>zI (m:=fun R=>zk7 (R:=R) (.int i) s hp) (zbd _ s hp) fun _ _=>rfl
 | .bool, [],hp=>fun _ _=>rfl
 | .bool,s::l,hp=>fun R k=>zI (m:=fun R=>zk7 (R:=R) .bool s hp) (zbd _ s hp) fun _ _=>rfl
 | .str, [],hp=>fun _ _=>rfl
 | .str,s::l,hp=>fun R k=>zI (m:=fun R=>zk7 (R:=R) .str s hp) (zbd _ s hp) fun _ _=>rfl
 | .flt, [],hp=>fun _ _=>rfl
 | .flt,s::l,hp=>fun R k=>zI (m:=fun R=>zk7 (R:=R) .flt s hp) (zbd _ s hp) fun _ _=>rfl
 | .cplx, [],hp=>fun _ _=>rfl
 | .cplx,s::l,hp=>fun R k=>zI (m:=fun R=>zk7 (R:=R) .cplx s hp) (zbd _ s hp) fun _ _=>rfl
 | .sl e, [],hp=>fun _ _=>rfl
 | .sl e,s::l,hp=>fun R k=>zI (m:=fun R=>zk7 (R:=R) (.sl e) s hp) (zbd _ s hp) fun _ _=>rfl
 | .osl e, [],hp=>fun _ _=>rfl
 | .osl e,s::l,hp=>fun R k=>zI (m:=fun R=>zk7 (R:=R) (.osl e) s hp) (zbd _ s hp) fun _ _=>rfl
theorem zpf (t:Ty) (s:SV) (hp:List HO):CN2 fun R=>zc0 (R:=R) t s hp:=by
 intro R k
 show zc0 t s hp k=(zc0 t s hp _).bind _
 unfold zc0
 split
 ·refine zf (qg (m:=fun R=>qb (R:=R) t _ hp) (jO t _ hp) fun x l hp=> ?_) rfl
  cases l<;>rfl
 ·exact zbd t _ hp R k
section
variable {X R:Type} {C:Ctx} {fr:List SV} {k:X→Option R}
theorem zgo (t:Ty) (s:SV) (hp:List HO) {f:t.den→List HO→Option R} {g:t.den→List HO→Option X} (h: ∀ a b,f a b=(g a b).bind k):zc0 t s hp f=(zc0 t s hp g).bind k:=
 zI (m:=fun R=>zc0 (R:=R) t s hp) (zpf t s hp) h
theorem zi2 (s:SV) {f:List SV→Option R} {g:List SV→Option X} (h: ∀ a,f a=(g a).bind k):s.cellsK f=(s.cellsK g).bind k:=
 zg (m:=fun R=>s.cellsK (R:=R)) (zl9 s) h
end
theorem zxz (t:Ty) (s:SV) (hp:List HO):CN2 fun R=>roF (R:=R) t s hp:=by
 intro R k
 show roF t s hp k=(roF t s hp _).bind _
 unfold roF
 split
 ·exact zC (fun h=>by subst h;rfl) fun _=>rfl
 ·refine zf (z5 hp _ fun o=> ?_) rfl
  cases o with
  |cells l=>
   refine qg (m:=fun R=>qb (R:=R) t l hp) (jO t l hp) fun x l' hp=> ?_
   cases l' with
   |nil=>
    refine z5 hp _ fun o=> ?_
    cases o with
    |cells _=>exact zV _ _ _ fun _=>rfl
    |_=>rfl
   |cons _ _=>rfl
  |frs t' x=>exact zC (fun h=>by subst h;rfl) fun _=>rfl
  |_=>rfl
 ·rfl
theorem zmb (C:Ctx) (fr:List SV) (t:Ty): ∀ (l:List (Nat×Operand)) (xs:List t.den) (hp:List HO),CN2 fun R=>zbj (R:=R) C fr t l xs hp
 | [],xs,hp=>fun _ _=>rfl
 |(i,x)::l,xs,hp=>by
  intro R k
  show zbj C fr t ((i,x)::l) xs hp k=(zbj C fr t ((i,x)::l) xs hp _).bind _
  unfold zbj
  exact zf (zj _ fun s=>zgo t s hp fun y hp=>zV xs i y fun xs=>zI (m:=fun R=>zbj (R:=R) C fr t l xs hp) (zmb C fr t l xs hp) fun _ _=>rfl) rfl
theorem zsr {α:Type} (x:α): ∀ (n:Nat),CN fun R=>zvw (R:=R) x n
 |0=>fun _ _=>rfl
 |n+1=>fun R k=>zg (m:=fun R=>zvw (R:=R) x n) (zsr x n) fun _=>rfl
theorem zn6 (t:Ty) (s:SV) (hp:List HO):CN fun R=>zr7 (R:=R) t s hp:=by
 intro R k
 show zr7 t s hp k=(zr7 t s hp some).bind k
 unfold zr7
 split
 ·exact zC (fun h=>by subst h;rfl) fun _=>rfl
 ·rfl
 ·rfl
 ·refine z5 hp _ fun o=> ?_
  cases o with
  |arr T e xs=>exact zC (fun h=>by subst h;rfl) fun _=>rfl
  |tk T e xs=>exact zC (fun h=>by subst h;rfl) fun _=>rfl
  |_=>rfl
 ·rfl
theorem zso {t':Ty}: ∀ (i:Nat) (f:Ty) (x:f.den) (gR:(R:Type)→(u:Ty)→u.den→(u.den→Option R)→Option R),(∀ u z,CN fun R=>gR R u z)→CN fun R=>zm9.fsetAux (R:=R) i f x (gR R)
 |0, .pair a b,x,g,hg=>fun R k=>zg (m:=fun R=>g R a x.1) (hg a x.1) fun _=>rfl
 |i+1, .pair a b,x,g,hg=>fun R k=>zg (m:=fun R=>zm9.fsetAux (R:=R) i b x.2 (g R)) (zso (t':=t') i b x.2 g hg) fun _=>rfl
 |0, .int _,x,g,hg=>hg _ _
 |0, .bool,x,g,hg=>hg _ _
 |0, .str,x,g,hg=>hg _ _
 |0, .flt,x,g,hg=>hg _ _
 |0, .cplx,x,g,hg=>hg _ _
 |0, .unit,x,g,hg=>hg _ _
 |0, .sl _,x,g,hg=>hg _ _
 |0, .osl _,x,g,hg=>hg _ _
 |0, .arr _ _,x,g,hg=>hg _ _
 |0, .st _,x,g,hg=>hg _ _
 |_+1, .int _,x,g,hg=>fun _ _=>rfl
 |_+1, .bool,x,g,hg=>fun _ _=>rfl
 |_+1, .str,x,g,hg=>fun _ _=>rfl
 |_+1, .flt,x,g,hg=>fun _ _=>rfl
 |_+1, .cplx,x,g,hg=>fun _ _=>rfl
 |_+1, .unit,x,g,hg=>fun _ _=>rfl
 |_+1, .sl _,x,g,hg=>fun _ _=>rfl
 |_+1, .osl _,x,g,hg=>fun _ _=>rfl
 |_+1, .arr _ _,x,g,hg=>fun _ _=>rfl
 |_+1, .st _,x,g,hg=>fun _ _=>rfl
theorem zn5: ∀ (p:List Nat) (t:Ty) (x:t.den) (t':Ty) (y:t'.den),CN fun R=>zm9 (R:=R) p t x t' y
 | [],t,x,t',y=>fun R k=>zC (fun h=>by subst h;rfl) fun _=>rfl
 |i::p, .st f,x,t',y=>zso (t':=t') i f x (fun R u z k=>zm9 p u z t' y k) fun u z=>zn5 p u z t' y
 |_::_, .int _,_,_,_=>fun _ _=>rfl
 |_::_, .bool,_,_,_=>fun _ _=>rfl
 |_::_, .str,_,_,_=>fun _ _=>rfl
 |_::_, .flt,_,_,_=>fun _ _=>rfl
 |_::_, .cplx,_,_,_=>fun _ _=>rfl
 |_::_, .unit,_,_,_=>fun _ _=>rfl
 |_::_, .sl _,_,_,_=>fun _ _=>rfl
 |_::_, .osl _,_,_,_=>fun _ _=>rfl
 |_::_, .arr _ _,_,_,_=>fun _ _=>rfl
 |_::_, .pair _ _,_,_,_=>fun _ _=>rfl
theorem zqw (i:TI) (x v:SV) (hp:List HO):CN2 fun R=>zbo (R:=R) i x v hp:=by
 intro R k
 show zbo i x v hp k=(zbo i x v hp _).bind _
 unfold zbo
 split
 ·refine zi2 v fun l'=>zf (z5 hp _ fun o=> ?_) rfl
  cases o with
  |cells l=>exact zf (zV _ _ _ fun _=>rfl) rfl
  |_=>rfl
 ·split
  ·refine zf (zgo _ v hp fun y hp=>z5 hp _ fun o=> ?_) rfl
   cases o with
   |arr T t' xs=>exact zC (fun h=>zg (m:=fun R=>zm9 (R:=R) _ _ _ _ y) (zn5 _ _ _ _ y) fun z=>zV _ _ _ fun _=>rfl) fun _=>rfl
   |_=>rfl
  ·rfl
 ·rfl
theorem zss (t:Ty) (s:SV) (hp:List HO):CN2 fun R=>zuq (R:=R) t s hp:=by
 intro R k
 show zuq t s hp k=(zuq t s hp _).bind _
 unfold zuq
 split
 ·exact zC (fun h=>by subst h;rfl) fun _=>rfl
 ·rfl
 ·rfl
 ·refine z5 hp _ fun o=> ?_
  cases o with
  |arr T e xs=>exact zC (fun h=>by subst h;exact zV _ _ _ fun _=>rfl) fun _=>rfl
  |_=>rfl
 ·rfl
theorem zfd (C:Ctx) (E:TypeId) (ei:TI) (x:SV) (hp:List HO):CN2 fun R=>xB (R:=R) C E ei x hp:=by
 intro R k
 show xB C E ei x hp k=(xB C E ei x hp _).bind _
 unfold xB
 split
 ·exact zf (zf (zg (m:=fun R=>zr7 (R:=R) _ x hp) (zn6 _ x hp) fun ys=>zM (qv _ _ fun _=>rfl) rfl)
   (zI (m:=fun R=>zuq (R:=R) _ x hp) (zss _ x hp) fun ys hp=>zM (qv _ _ fun _=>rfl) rfl)) rfl
 ·rfl
theorem zn3 (C:Ctx) (E:TypeId) (ei:TI) (s x:SV) (hp:List HO):CN2 fun R=>jA (R:=R) C E ei s x hp:=by
 intro R k
 show jA C E ei s x hp k=(jA C E ei s x hp _).bind _
 unfold jA
 split
 ·exact zfd C E ei x hp R k
 ·exact zfd C E ei x hp R k
 ·refine z5 hp _ fun o=> ?_
  cases o with
  |arr E' t xs=>exact zf (zf (zg (m:=fun R=>zr7 (R:=R) t x hp) (zn6 t x hp) fun ys=>zM (zV _ _ _ fun _=>qv _ _ fun _=>rfl) rfl)
    (zV _ _ _ fun hp1=>zI (m:=fun R=>zuq (R:=R) t x hp1) (zss t x hp1) fun ys hp2=>zM (qv _ _ fun _=>rfl) rfl)) rfl
  |tk E' t xs=>exact zf (zg (m:=fun R=>zr7 (R:=R) t x hp) (zn6 t x hp) fun ys=>zM (zV _ _ _ fun _=>qv _ _ fun _=>rfl) rfl) rfl
  |_=>rfl
 ·rfl
theorem zdl (mp:List PM) (j:Nat) (p:PM):CN fun R=>jw (R:=R) mp j p:=by
 intro R k
 show jw mp j p k=(jw mp j p some).bind k
 unfold jw
 refine z5 mp j fun q=> ?_
 cases q with
 |none=>exact zV _ _ _ fun _=>rfl
 |nil=>exact zf rfl rfl
 |id i l=>exact zf rfl rfl
theorem qm: ∀ (ss:List Sh) (vs:List SV) (mp:List PM) (hp:List HO),CN3 fun R=>zR (R:=R) ss vs mp hp
 | [], [],mp,hp=>fun _ _=>rfl
 | [],_::_,mp,hp=>fun _ _=>rfl
 | .hole t::ss, [],mp,hp=>fun _ _=>rfl
 | .own t::ss, [],mp,hp=>fun _ _=>rfl
 | .ptr t _::ss, [],mp,hp=>fun _ _=>rfl
 | .nilp::ss, [],mp,hp=>fun _ _=>rfl
 | .mp _::ss, [],mp,hp=>fun _ _=>rfl
 | .mp j::ss,v::vs,mp,hp=>fun R k=>by
  cases v with
  |mp id=>exact zg (m:=fun R=>jw (R:=R) mp j _) (zdl mp j _) fun mp=>qm ss vs mp hp R k
  |_=>rfl
 | .und::ss, [],mp,hp=>fun _ _=>rfl
 | .fnc f n::ss, [],mp,hp=>fun _ _=>rfl
 | .fnc f n::ss,v::vs,mp,hp=>fun R k=>by
  cases v with
  |fn g l=>exact zf (qm ss (l++vs) mp hp R k) rfl
  |_=>rfl
 | .agn n::ss, [],mp,hp=>fun _ _=>rfl
 | .agn n::ss,v::vs,mp,hp=>fun R k=>by
  cases v with
  |agg l=>exact zf (qm ss (l++vs) mp hp R k) rfl
  |_=>rfl
 | .ro t::ss, [],mp,hp=>fun _ _=>rfl
 | .ro t::ss,v::vs,mp,hp=>fun R k=>zI (m:=fun R=>roF (R:=R) t v hp) (zxz t v hp) fun x hp=>qg (m:=fun R=>zR (R:=R) ss vs mp hp) (qm ss vs mp hp) fun _ _ _=>rfl
 | .hole t::ss,v::vs,mp,hp=>fun R k=>zgo t v hp fun x hp=>qg (m:=fun R=>zR (R:=R) ss vs mp hp) (qm ss vs mp hp) fun _ _ _=>rfl
 | .own j::ss,v::vs,mp,hp=>fun R k=>by
  cases v with
  |own id len=>exact zg (m:=fun R=>jw (R:=R) mp j _) (zdl mp j _) fun mp=>qm ss vs mp hp R k
  |nils=>exact zg (m:=fun R=>jw (R:=R) mp j _) (zdl mp j _) fun mp=>qm ss vs mp hp R k
  |_=>rfl
 | .ptr j off::ss,v::vs,mp,hp=>fun R k=>by
  cases v with
  |ptr id o=>exact zf (zg (m:=fun R=>jw (R:=R) mp j _) (zdl mp j _) fun mp=>qm ss vs mp hp R k) rfl
  |_=>rfl
 | .nilp::ss,v::vs,mp,hp=>fun R k=>by
  cases v with
  |nilp=>exact qm ss vs mp hp R k
  |_=>rfl
 | .und::ss,v::vs,mp,hp=>qm ss vs mp hp
theorem jP: ∀ (os:List OSh) (j:Nat) (mp:List PM) (hp:List HO),CN3 fun R=>xG (R:=R) j os mp hp
 | [],j,mp,hp=>fun _ _=>rfl
 | .gone::os,j,mp,hp=>jP os (j+1) mp hp
 | .cells sl::os,j,mp,hp=>fun R k=>by
  refine z5 mp j fun p=> ?_
  cases p with
  |id i l=>
   cases l with
   |none=>
    refine z5 hp i fun o=> ?_
    cases o with
    |cells l=>exact qg (m:=fun R=>zR (R:=R) sl l mp hp) (qm sl l mp hp) fun mp ds hp=>qg (m:=fun R=>xG (R:=R) (j+1) os mp hp) (jP os (j+1) mp hp) fun _ _ _=>rfl
    |_=>rfl
   |some n=>rfl
  |_=>rfl
 | .arr T t::os,j,mp,hp=>fun R k=>by
  refine z5 mp j fun p=> ?_
  cases p with
  |nil=>exact qg (m:=fun R=>xG (R:=R) (j+1) os mp hp) (jP os (j+1) mp hp) fun _ _ _=>rfl
  |id i len=>
   refine z5 hp i fun o=> ?_
   cases o with
   |arr T' t' xs=>exact zf (zC (fun h=>qg (m:=fun R=>xG (R:=R) (j+1) os mp hp) (jP os (j+1) mp hp) fun _ _ _=>rfl) fun _=>rfl) rfl
   |_=>rfl
  |none=>rfl
 | .map K V::os,j,mp,hp=>fun R k=>by
  refine z5 mp j fun p=> ?_
  cases p with
  |id i l=>
   cases l with
   |none=>
    refine z5 hp i fun o=> ?_
    cases o with
    |map K' V' es=>exact zC (fun h=>qg (m:=fun R=>xG (R:=R) (j+1) os mp hp) (jP os (j+1) mp hp) fun _ _ _=>rfl) fun _=>rfl
    |_=>rfl
   |some n=>rfl
  |_=>rfl
theorem zjj {X R:Type} {k:X→Option R} {x:Option R} {y:Option X} (hp:List HO) (h:x=y.bind k): ∀ (l:List Nat),zrd l hp x=(zrd l hp y).bind k
 | []=>h
 |i::l=>z5 hp i fun o=>zf (zjj hp h l) rfl
theorem zm8 {X R:Type} {k:X→Option R} (n0:Nat) (sk:Skel) (vs:List SV) (hp:List HO) {f:List DV→List PM→List HO→Option R} {g:List DV→List PM→List HO→Option X} (h: ∀ a b c,f a b c=(g a b c).bind k):
  zp6 n0 sk vs hp f=(zp6 n0 sk vs hp g).bind k:=by
 unfold zp6
 exact qg (m:=fun R=>zR (R:=R) sk.slots vs _ hp) (qm _ _ _ _) fun mp ds hp=>qg (m:=fun R=>xG (R:=R) 0 sk.objs mp hp) (jP _ _ _ _) fun mp ds' hp=>
  zf (zjj hp (h _ _ _) _) rfl
theorem zph: ∀ (ts:List Ty) (ds:List DV),CN fun R=>za4 (R:=R) ts ds
 | [], []=>fun _ _=>rfl
 | [],_::_=>fun _ _=>rfl
 | [t], []=>fun _ _=>rfl
 | [t], [d]=>fun R k=>zC (fun h=>rfl) fun _=>rfl
 | [t],_::_::_=>fun _ _=>rfl
 |t::u::l, []=>fun _ _=>rfl
 |t::u::l,d::ds=>fun R k=>zC (fun h=>zg (m:=fun R=>za4 (R:=R) (u::l) ds) (zph (u::l) ds) fun _=>rfl) fun _=>rfl
theorem qr (ρ:List Nat): ∀ (ss:List Sh) (ds:List DV),CN2 fun R=>zr (R:=R) ρ ss ds
 | [],ds=>fun _ _=>rfl
 | .fnc f n::ss,ds=>fun R k=>by
  show zr ρ (.fnc f n::ss) ds k=(zr ρ (.fnc f n::ss) ds _).bind _
  unfold zr
  exact zI (m:=fun R=>zr (R:=R) ρ ss ds) (qr ρ ss ds) fun _ _=>rfl
 | .agn n::ss,ds=>fun R k=>by
  show zr ρ (.agn n::ss) ds k=(zr ρ (.agn n::ss) ds _).bind _
  unfold zr
  exact zI (m:=fun R=>zr (R:=R) ρ ss ds) (qr ρ ss ds) fun _ _=>rfl
 | .ro _::ss, []=>fun _ _=>rfl
 | .ro _::ss,d::ds=>fun R k=>zI (m:=fun R=>zr (R:=R) ρ ss ds) (qr ρ ss ds) fun _ _=>rfl
 | .hole _::ss, []=>fun _ _=>rfl
 | .hole _::ss,d::ds=>fun R k=>zI (m:=fun R=>zr (R:=R) ρ ss ds) (qr ρ ss ds) fun _ _=>rfl
 | .own j::ss,ds=>fun R k=>by
  show zr ρ (.own j::ss) ds k=(zr ρ (.own j::ss) ds _).bind _
  unfold zr
  exact zI (m:=fun R=>zr (R:=R) ρ ss ds) (qr ρ ss ds) fun _ _=>rfl
 | .ptr j off::ss,ds=>fun R k=>by
  show zr ρ (.ptr j off::ss) ds k=(zr ρ (.ptr j off::ss) ds _).bind _
  unfold zr
  exact zI (m:=fun R=>zr (R:=R) ρ ss ds) (qr ρ ss ds) fun _ _=>rfl
 | .nilp::ss,ds=>fun R k=>by
  show zr ρ (.nilp::ss) ds k=(zr ρ (.nilp::ss) ds _).bind _
  unfold zr
  exact zI (m:=fun R=>zr (R:=R) ρ ss ds) (qr ρ ss ds) fun _ _=>rfl
 | .mp j::ss,ds=>fun R k=>by
  show zr ρ (.mp j::ss) ds k=(zr ρ (.mp j::ss) ds _).bind _
  unfold zr
  exact zI (m:=fun R=>zr (R:=R) ρ ss ds) (qr ρ ss ds) fun _ _=>rfl
 | .und::ss,ds=>fun R k=>by
  show zr ρ (.und::ss) ds k=(zr ρ (.und::ss) ds _).bind _
  unfold zr
  exact zI (m:=fun R=>zr (R:=R) ρ ss ds) (qr ρ ss ds) fun _ _=>rfl
theorem zbc (ρ:List Nat): ∀ (os:List OSh) (ds:List DV),CN fun R=>zZ (R:=R) ρ os ds
 | [],ds=>fun _ _=>rfl
 | .gone::os,ds=>fun R k=>by
  show zZ ρ (.gone::os) ds k=(zZ ρ (.gone::os) ds some).bind k
  unfold zZ
  exact zg (m:=fun R=>zZ (R:=R) ρ os ds) (zbc ρ os ds) fun _=>rfl
 | .cells sl::os,ds=>fun R k=>by
  show zZ ρ (.cells sl::os) ds k=(zZ ρ (.cells sl::os) ds some).bind k
  unfold zZ
  exact zI (m:=fun R=>zr (R:=R) ρ sl ds) (qr ρ sl ds) fun vs ds=>zg (m:=fun R=>zZ (R:=R) ρ os ds) (zbc ρ os ds) fun _=>rfl
 | .arr _ _::os, []=>fun _ _=>rfl
 | .arr T t::os,d::ds=>fun R k=>by
  show zZ ρ (.arr T t::os) (d::ds) k=(zZ ρ (.arr T t::os) (d::ds) some).bind k
  unfold zZ
  split
  ·exact zg (m:=fun R=>zZ (R:=R) ρ os ds) (zbc ρ os ds) fun _=>rfl
  ·rfl
 | .map _ _::os, []=>fun _ _=>rfl
 | .map K V::os,d::ds=>fun R k=>by
  show zZ ρ (.map K V::os) (d::ds) k=(zZ ρ (.map K V::os) (d::ds) some).bind k
  unfold zZ
  split
  ·exact zg (m:=fun R=>zZ (R:=R) ρ os ds) (zbc ρ os ds) fun _=>rfl
  ·rfl
theorem zqm {X R:Type} {k:X→Option R} (ρ:List Nat) (sk:Skel) (ds:List DV) {f:List SV→List HO→Option R} {g:List SV→List HO→Option X} (h: ∀ a b,f a b=(g a b).bind k):build ρ sk ds f=(build ρ sk ds g).bind k:=by
 unfold build
 exact zI (m:=fun R=>zr (R:=R) ρ sk.slots ds) (qr _ _ _) fun vs ds=>zg (m:=fun R=>zZ (R:=R) ρ sk.objs ds) (zbc _ _ _) fun hs=>h vs hs
theorem zdp {X R:Type} {k:X→Option R} {f:List HO→Option R} {g:List HO→Option X} (h: ∀ a,f a=(g a).bind k): ∀ (mp:List PM) (hp:List HO),zad mp hp f=(zad mp hp g).bind k
 | [],hp=>h hp
 | .id i l::mp,hp=>zV hp i .gone fun hp=>zdp h mp hp
 | .nil::mp,hp=>zdp h mp hp
 | .none::mp,hp=>zdp h mp hp
theorem zs9 {X R:Type} {k:X→Option R} {f:List HO→Option R} {g:List HO→Option X} (h: ∀ a,f a=(g a).bind k) (mp:List PM) (os:List OSh) (hp:List HO):zer mp os hp f=(zer mp os hp g).bind k:=by
 rw[jC [] 0,jC [] 0];exact h _
theorem zhq {X R:Type} {k:X→Option R} {f:List HO→Option R} {g:List HO→Option X} (h: ∀ a,f a=(g a).bind k): ∀ (ρ:List Nat) (os hp:List HO),zd6 ρ os hp f=(zd6 ρ os hp g).bind k
 | [],_,hp=>by unfold zd6;exact h hp
 |_::_, [],hp=>by unfold zd6;exact h hp
 |i::ρ,o::os,hp=>by unfold zd6;exact zV hp i o fun hp=>zhq h ρ os hp
theorem zuz (c:Con) (args:List SV) (hp:List HO):CN2 fun R=>zmi (R:=R) c args hp:=by
 intro R k
 show zmi c args hp k=(zmi c args hp _).bind _
 unfold zmi
 refine zf (zm8 0 _ args hp fun ds mp hp1=>zg (m:=fun R=>za4 (R:=R) _ ds) (zph _ ds) fun x=> ?_) rfl
 cases c.F x with
 |none=>rfl
 |some y=>
  simp only[Option.bind_some]
  refine zqm _ _ _ fun vs hos=> ?_
  refine zdp (fun hp2=> ?_) _ _
  refine zs9 (fun hp3=> ?_) _ _ _
  refine zhq (fun hp4=> ?_) _ _ _
  rfl
theorem zqr (C:Ctx) (E:TypeId) (ei:TI) (x:SV) (hp:List HO):CN2 fun R=>zbk (R:=R) C E ei x hp:=by
 intro R k
 show zbk C E ei x hp k=(zbk C E ei x hp _).bind _
 unfold zbk
 split
 ·rfl
 ·refine zg (m:=fun R=>qt (R:=R) hp _) (qK hp _) fun o=> ?_
  split
  ·split
   ·refine zf ?_ rfl
    split
    ·exact zV _ _ _ fun _=>rfl
    ·rfl
   ·rfl
  ·rfl
 ·refine zg (m:=fun R=>qt (R:=R) hp _) (qK hp _) fun o=> ?_
  split
  ·split
   ·refine zf ?_ rfl
    split
    ·exact zV _ _ _ fun _=>rfl
    ·rfl
   ·rfl
  ·rfl
 ·rfl
theorem zmc (C:Ctx) (fr:List SV) (i:TI) (n:Option Operand) (hp:List HO):CN2 fun R=>x9 (R:=R) C fr i n hp:=by
 intro R k
 show x9 C fr i n hp k=(x9 C fr i n hp _).bind _
 unfold x9
 split
 ·refine zG _ fun ki=>zG _ fun vi=> ?_
  split
  ·exact zg (m:=fun R=>zuo (R:=R) C fr n 0) (zsq C fr n 0) fun _=>qv _ _ fun _=>rfl
  ·rfl
 ·rfl
theorem zcl (C:Ctx) (i:TI) (m y v:SV) (hp:List HO):CN2 fun R=>qh (R:=R) C i m y v hp:=by
 intro R k
 show qh C i m y v hp k=(qh C i m y v hp _).bind _
 unfold qh
 split
 ·refine zG _ fun ki=>zG _ fun vi=> ?_
  split
  ·refine zI (m:=fun R=>zc0 (R:=R) _ v hp) (zpf _ v hp) fun x hp=>zg (m:=fun R=>qt (R:=R) hp _) (qK hp _) fun o=> ?_
   split
   ·refine zf ?_ rfl
    split
    ·exact zV _ _ _ fun _=>rfl
    ·rfl
   ·rfl
  ·rfl
 ·rfl
theorem zsl (i:TI) (x:SV) (hp:List HO):CN2 fun R=>zbl (R:=R) i hp x:=by
 intro R k
 have plain:(xC i hp x fun s=>k s hp)=(xC i hp x fun s=>some (s,hp)).bind fun p=>k p.1 p.2:=zg (m:=fun R=>xC (R:=R) i hp x) (zgk i hp x) fun _=>rfl
 show zbl i hp x k=(zbl i hp x _).bind _
 unfold zbl
 split
 ·refine z5 hp _ fun o=> ?_
  cases o with
  |arr T t' xs=>
   refine zC (fun h=> ?_) fun _=>rfl
   subst h
   simp only
   split
   ·split
    ·exact zf (zM (zg (m:=fun R=>zm9 (R:=R) _ _ _ _ _) (zn5 _ _ _ _ _) fun z=>zV _ _ _ fun _=>qv _ _ fun _=>rfl) rfl) rfl
    ·exact plain
   ·rfl
  |_=>rfl
 ·exact plain
theorem zu0 (C:Ctx) (Γ:List Con) (fr:List SV) (hp:List HO) (op:Op):CN2 fun R=>zgu (R:=R) C Γ fr hp op:=by
 intro R k
 show zgu C Γ fr hp op k=(zgu C Γ fr hp op _).bind _
 unfold zgu
 split
 ·exact zG _ fun i=>qv _ _ fun _=>rfl
 ·exact zj _ fun s=>zi2 s fun l=>qv _ _ fun _=>rfl
 ·refine zG _ fun i=> ?_
  split
  ·refine zG _ fun ei=> ?_
   split
   ·exact zf (zg (m:=fun R=>zvw (R:=R) _ _) (zsr _ _) fun xs=>zI (m:=fun R=>zbj (R:=R) C fr _ _ xs hp) (zmb C fr _ _ xs hp) fun xs hp=>qv _ _ fun _=>rfl) rfl
   ·rfl
  ·rfl
 ·refine zG _ fun i=> ?_
  split
  ·refine zG _ fun ei=> ?_
   split
   ·exact zf (zj _ fun l=>zg (m:=fun R=>asI (R:=R) l) (zi3 l) fun l=>zj _ fun c=>zg (m:=fun R=>asI (R:=R) c) (zi3 c) fun c=>zM (qv _ _ fun _=>rfl) rfl) rfl
   ·rfl
  ·rfl
 ·exact zG _ fun i=>zj _ fun x=>zj _ fun v=>zqw i x v hp R k
 ·split
  ·refine zf (zG _ fun i=> ?_) rfl
   split
   ·exact zG _ fun ei=>zj _ fun s=>zj _ fun x=>zn3 C _ ei s x hp R k
   ·rfl
  ·rfl
 ·split
  ·refine zG _ fun i=> ?_
   split
   ·exact zG _ fun ei=>zj _ fun x=>zqr C _ ei x hp R k
   ·rfl
  ·rfl
 ·exact zG _ fun i=>zmc C fr i _ hp R k
 ·exact zG _ fun i=>zj _ fun m=>zj _ fun y=>zj _ fun v=>zcl C i m y v hp R k
 ·exact zG _ fun i=>zj _ fun m=>zj _ fun y=>zj _ fun v=>zcl C i m y v hp R k
 ·exact zG _ fun i=>zj _ fun x=>zsl i x hp R k
 ·rw[zkb]
  rw[zkb (k:=fun c vs=>zmi c vs hp fun a b=>some (a,b))]
  cases (za9 (R:=Con×List SV) C Γ fr _ _ fun c vs=>some (c,vs)) with
  |none=>rfl
  |some p=>exact zuz p.1 p.2 hp R k
 ·rfl
theorem zsm (hp:List HO): ∀ (n:List HO) (i id:Nat) (len:Option Nat),CN fun R=>zz3 (R:=R) n i id len
 | [],_,_,_=>fun _ _=>rfl
 |o::l,0,id,len=>fun R k=>by cases o<;>rfl
 |o::l,n+1,id,len=>fun R k=>by cases o<;>exact zsm hp l n id len R k
theorem zsn (hp:List HO): ∀ (n:List HO) (i id off:Nat),CN fun R=>zy1 (R:=R) n i id off
 | [],_,_,_=>fun _ _=>rfl
 |o::l,0,id,off=>fun R k=>by
  cases o with
  |frs t x=>exact zf rfl rfl
  |_=>rfl
 |o::l,n+1,id,off=>fun R k=>by cases o<;>exact zsn hp l n id off R k
theorem zu4 (hp:List HO) (s:SV):CN fun R=>zrz (R:=R) hp s:=by
 intro R k
 cases s with
 |own id len=>exact zsm hp hp id id len R k
 |ptr id off=>exact zsn hp hp id id off R k
 |_=>rfl
theorem zpg (hp:List HO): ∀ (l:List SV),CN fun R=>zry (R:=R) hp l
 | []=>fun _ _=>rfl
 |s::l=>fun R k=>zg (m:=fun R=>zrz (R:=R) hp s) (zu4 hp s) fun s'=>zg (m:=fun R=>zry (R:=R) hp l) (zpg hp l) fun _=>rfl
theorem zkj (hp:List HO) (fr:List SV):CN fun R=>zau (R:=R) hp fr:=by
 intro R k
 show zau hp fr k=(zau hp fr some).bind k
 unfold zau
 exact zf (zpg hp fr R k) rfl
end Go.Sx
