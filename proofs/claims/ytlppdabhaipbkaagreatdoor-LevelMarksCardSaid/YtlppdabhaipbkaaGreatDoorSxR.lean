/- The symbolic evaluator, part R: a law's call, by its contract. -/
import Derived.Test.YtlppdabhaipbkaaGreatDoorSxQ
import Derived.OpenShut
import Derived.ChangeSame
import Derived.MakeChecks
set_option linter.unusedVariables false
set_option linter.unusedSimpArgs false
namespace Go.Sx
open Go.RowKit Go.ChangeShapes Go.WideShapes
def jH (P:Program):List Sh→List TypeId→Bool
 | [], []=>true
 | .hole t::ss,T::Ts=>tyM P t T&&jH P ss Ts
 |_,_=>false
def zvl:(ts:List Ty)→Tup ts→Prop
 | [],_=>True
 | [t],x=>t.wf x
 |t::u::l,x=>t.wf x.1∧zvl (u::l) x.2
theorem zxx: ∀ (ts:List Ty) (ds:List DV),qh ds=ts→ ∃ x:Tup ts,qE ts x=ds
 | [],ds,h=>⟨(),by
  cases ds with
  |nil=>rfl
  |cons d l=>simp[qh] at h⟩
 | [t],ds,h=>by
  match ds,h with
  | [d],h=>
   simp[qh] at h
   subst h
   exact⟨d.x,rfl⟩
 |t::u::l,ds,h=>by
  match ds,h with
  |d::ds,h=>
   simp only[qh,List.map_cons,List.cons.injEq] at h
   obtain⟨h1,h2⟩:=h
   subst h1
   obtain⟨x,hx⟩:=zxx (u::l) ds h2
   exact⟨(d.x,x),by show _::qE (u::l) x=_;rw[hx]⟩
theorem zxz: ∀ (ts:List Ty) (x:Tup ts),(∀ d∈qE ts x,d.t.wf d.x)→zvl ts x
 | [],_,_=>trivial
 | [t],x,h=>h ⟨t,x⟩ (by simp[qE])
 |t::u::l,x,h=>⟨h ⟨t,x.1⟩ (by simp[qE]),zxz (u::l) x.2 fun d hd=>h d (by simp[qE,hd])⟩
section
variable {H:Type} {enc:TypeId×Value→H} {P:Program} {W:World} {L:List LE}
theorem z04 {t:Ty} {T:TypeId} {v:Value} {d:DataW H} {ps:List MemPlace} {r:Reach} {b0:Nat} (hm:tyM P t T=true) (hv:Value.okWide P W r b0 T v)
  (hd:DataW.Trod enc P W 0 (fun _=>true) true T v d ps): ∃ y:t.den,(SV.val t y).sat ⟨zmh W,L⟩ v∧t.wf y∧readD t d=some y:=by
 obtain⟨fuel,hf⟩:=hd
 obtain⟨y,h1,h2,h3⟩:=z7 t T fuel _ _ hm hf
 refine⟨y, ?_,h2,h3⟩
 simp only[SV.sat]
 refine⟨_,h1, ?_⟩
 cases t with
 |int k=>
  unfold tyM tyA jx at hm
  dsimp only at hm
  split at hm
  case h_2=>cases hm
  case h_1 j hu=>obtain⟨n,rfl⟩:=okWide_int hu hv;rfl
 |bool=>
  unfold tyM tyA jx at hm
  dsimp only at hm
  split at hm
  case h_2=>cases hm
  case h_1 hu=>obtain⟨n,rfl⟩:=okWide_bool hu hv;rfl
 |str=>
  unfold tyM tyA jx at hm
  dsimp only at hm
  split at hm
  case h_2=>cases hm
  case h_1 hu=>obtain⟨n,rfl⟩:=okWide_string hu hv;rfl
 |sl e=>
  unfold tyM tyA jx at hm
  dsimp only at hm
  split at hm
  case h_2=>cases hm
  case h_1 E hu=>obtain⟨a,l,c,rfl⟩:=okWide_slice hu hv;rfl
 |arr n e=>
  unfold tyM tyA jx at hm
  dsimp only at hm
  split at hm
  case h_2=>cases hm
  case h_1 m E hu=>
   unfold Value.okWide at hv
   rw[hu] at hv
   obtain⟨cs,rfl,_⟩:=hv
   simp[zG,Ty.isAgg,Value.cells]
 |st f=>
  unfold tyM tyA jx at hm
  dsimp only at hm
  split at hm
  case h_2=>cases hm
  case h_1 fs hu=>
   obtain⟨cs,rfl,_⟩:=okWide_struct hu hv
   simp[zG,Ty.isAgg,Value.cells]
 |unit=>simp[tyM,tyA] at hm
 |osl e=>simp[tyM,tyA] at hm
 |flt=>simp[tyM,tyA] at hm
 |cplx=>simp[tyM,tyA] at hm
 |pair a b=>simp[tyM,tyA] at hm
def zuw:List DV→List (DataW H)→Prop
 | [], []=>True
 |x::xs,d::ds=>readD x.t d=some x.x∧zuw xs ds
 |_,_=>False
theorem zs2 {r:Reach} {b0:Nat}: ∀ (slots:List Sh) (Ts:List TypeId) (args:List Value) (ds:List (DataW H)) (ps:List MemPlace),jH P slots Ts=true→
  (∀ (j:Nat) t v,Ts[j]? =some t→args[j]? =some v→Value.okWide P W r b0 t v)→DataW.TrodAll enc P W 0 (fun _=>true) true Ts args ds ps→
  ∃ xs:List DV,qh xs=z9 slots∧SV.satL ⟨zmh W,L⟩ (bL [] slots xs).1 args∧(∀ d∈xs,d.t.wf d.x)∧zuw xs ds
 | [], [],args,ds,ps,_,_,h=>by
  obtain⟨rfl,rfl,_⟩:=trodAll_nil h
  exact⟨[],rfl,by simp[bL,SV.satL],by simp,trivial⟩
 | .hole t::ss,T::Ts,args,ds,ps,hm,hv,h=>by
  simp only[jH,Bool.and_eq_true] at hm
  obtain⟨v,vs,d,ds',p,q,rfl,rfl,rfl,h1,h2⟩:=trodAll_cons h
  obtain⟨y,k1,k2,k6⟩:=z04 (L:=L) hm.1 (hv 0 T v rfl rfl) h1
  obtain⟨xs,k3,k4,k5,k7⟩:=zs2 ss Ts vs ds' q hm.2 (fun j t u ht hu=>hv (j+1) t u (by simpa using ht) (by simpa using hu)) h2
  refine⟨⟨t,y⟩::xs,by simp[qh,z9] at k3 ⊢;exact k3, ?_, ?_,k6,k7⟩
  ·simp only[bL,SV.satL]
   exact⟨v,vs,rfl,k1,k4⟩
  ·intro d hd
   rcases List.mem_cons.1 hd with rfl|hd
   ·exact k2
   ·exact k5 d hd
 | [],_::_,_,_,_,hm,_,_=>by simp[jH] at hm
 | .hole _::_, [],_,_,_,hm,_,_=>by simp[jH] at hm
 | .own _::_,_,_,_,_,hm,_,_=>by simp[jH] at hm
 | .ptr _ _::_,_,_,_,_,hm,_,_=>by simp[jH] at hm
 | .nilp::_,_,_,_,_,hm,_,_=>by simp[jH] at hm
 | .und::_,_,_,_,_,hm,_,_=>by simp[jH] at hm
 | .ro _::_,_,_,_,_,hm,_,_=>by simp[jH] at hm
 | .fnc _ _::_,_,_,_,_,hm,_,_=>by simp[jH] at hm
 | .agn _::_,_,_,_,_,hm,_,_=>by simp[jH] at hm
theorem zer (hl:laidOutB P=true) {W':World} (hb:Below W.heap.size W W'): ∀ {ts:List TypeId} {vs:List Value} {ds:List (DataW H)} {ps:List MemPlace},
  (ts.all fun t=>P.readableRec t&&decide (t<P.types.size))=true→DataW.TrodAll enc P W 0 (fun _=>true) true ts vs ds ps→(∀ x∈ps,x.block<W.heap.size)→
  DataW.TrodAll enc P W' 0 (fun b=>decide (b<W.heap.size)) true ts vs ds ps
 | [],vs,ds,ps,_,h,_=>by
  obtain⟨rfl,rfl,rfl⟩:=trodAll_nil h
  rfl
 |t::ts,vs,ds,ps,hr,h,hlt=>by
  obtain⟨v,vs',d,ds',p,q,rfl,rfl,rfl,h1,h2⟩:=trodAll_cons h
  simp only[List.all_cons,Bool.and_eq_true,decide_eq_true_eq] at hr
  exact⟨p,q,Below.trod hl hr.1.1 hr.1.2 h1 hb (fun x hx=>hlt x (by simp[hx])),zer hl hb (by simpa using hr.2) h2 (fun x hx=>hlt x (by simp[hx])),rfl⟩
theorem zix: ∀ {ts:List TypeId} {vs:List Value} {ds:List (DataW H)} {ps:List MemPlace},DataW.TrodAll enc P W 0 (fun _=>true) true ts vs ds ps→ds.length=ts.length
 | [],vs,ds,ps,h=>by obtain⟨_,rfl,_⟩:=trodAll_nil h;rfl
 |t::ts,vs,ds,ps,h=>by
  obtain⟨v,vs',d,ds',p,q,rfl,rfl,rfl,h1,h2⟩:=trodAll_cons h
  simp[zix h2]
theorem zud {C:Ctx} {f:FuncId} {slots:List Sh} {F:Tup (Skel.tys ⟨slots, []⟩)→Option (Tup (Skel.tys ⟨[.hole .bool], []⟩))}
  (hok:Con.Ok P C ⟨f,⟨⟨slots, []⟩,⟨[.hole .bool], []⟩⟩,F⟩) (hg:C.globsOk (zmh W)) {xs:List DV} (hx:qh xs=z9 slots) {args:List Value} (hs:SV.satL ⟨zmh W, []⟩ (bL [] slots xs).1 args)
  (pure: ∀ x:Tup (Skel.tys ⟨slots, []⟩),qE _ x=xs→F x=some true):
  Calls P f args.toArray W fun e W'=>e= .returned (.bool true)∧Below W.heap.size W W':=by
 have hty:Skel.tys ⟨slots, []⟩=z9 slots:=by simp[Skel.tys,qL,qa]
 obtain⟨x,rfl⟩:=zxx (Skel.tys ⟨slots, []⟩) xs (hx.trans hty.symm)
 have h:=hok.calls ⟨zmh W, []⟩ W args x true (fun _=>False) hg hs
  {ag:=zpo W,base:=Mem.le_refl _,fresh:=fun b c h=> .inl h,ok:=⟨rfl,rfl,rfl,Nat.le_refl _,fun _ _ _=>rfl⟩,len:=rfl
   free:=fun i o e b h=>by simp[Con.inO,bO] at h,dist:=fun i j o o' e e' b h=>by simp[Con.inO,bO] at h,ob:=fun i o e h=>by simp[Con.inO,bO] at h,tok:=fun i o e h=>by simp[Con.inO,bO] at h,tdist:=fun i j o o' e e' b h=>by simp[Con.inO,bO] at h}
  (pure x rfl)
 refine h.mono ?_
 rintro e w' ⟨E',vs,rfl,h1,h2,_⟩
 simp only[Con.outL,bL,SV.satL] at h1
 obtain⟨v,ws,rfl,hv,rfl⟩:=h1
 simp only[SV.sat] at hv
 obtain⟨cs,hc,rfl⟩:=hv
 refine⟨?_,h2.ok.os,h2.ok.tape,h2.ok.output,h2.ok.size,fun k hk=>h2.ok.block k hk (fun h=>h)⟩
 have:cs= [.bool true]:=hc
 rw[this]
 rfl
theorem zo8 {C:Ctx} {f:FuncId} {fn:Func} {slots:List Sh} {F:Tup (Skel.tys ⟨slots, []⟩)→Option (Tup (Skel.tys ⟨[.hole .bool], []⟩))} {s:ChangeSpec} {tb:TypeId}
  (hok:Con.Ok P C ⟨f,⟨⟨slots, []⟩,⟨[.hole .bool], []⟩⟩,F⟩) (hm:jH P slots fn.params.toList=true) (hres:fn.resultTypes= #[tb]) (hub:P.underlying tb=some .bool)
  (hread:(fn.params.toList.all fun t=>P.readableRec t&&decide (t<P.types.size))=true) (hl:laidOutB P=true) (hvars:s.vars= [])
  (hspec: ∀ ds:List (DataW H),ds.length=fn.params.toList.length→s.fn H ds={ results:= [.lit (.bool true)],args:=ds})
  (hg:C.globsOk (zmh W)) {base:Nat} {args:Array Value} {ds gs:List (DataW H)} {before:List MemPlace}
  (pure: ∀ x:Tup (Skel.tys ⟨slots, []⟩),zvl _ x→zuw (qE _ x) ds→F x=some true) (hval: ∀ (j:Nat) t v,fn.params[j]? =some t→args[j]? =some v→Value.okWide P W .any base t v) (hW:DataW.Whole enc P fn.params.toList s.vars false W args.toList ds gs before):
  Calls P f args W fun e W'=> ∃ v,e= .returned v∧s.post enc P fn false true false false W args v W':=by
 have hW':=hW
 have hlt:=hW.lt
 obtain⟨p,q,hA,hV,rfl,hfz,hnd⟩:=hW
 rw[hvars] at hV
 obtain⟨rfl,rfl⟩:=trodVars_none hV
 obtain⟨xs,k1,k2,k3,k4⟩:=zs2 (L:= []) slots fn.params.toList args.toList ds p hm (fun j t v ht hv=>hval j t v (by simpa using ht) (by simpa using hv)) hA
 have hc:=zud hok hg k1 k2 fun x hx=>pure x (zxz _ x (hx▸k3)) (hx▸k4)
 rw[Array.toArray_toList] at hc
 refine hc.mono ?_
 rintro e W' ⟨rfl,bel⟩
 have hd:=hspec ds (zix hA)
 refine⟨_,rfl,ds, [],p++ [], [],p, [],hW', ?_, ?_, ?_,bel.frame _,fun h=>by cases h⟩
 ·rw[hres,List.append_nil,hd]
  exact trodAll_mk1 (shut_bool hub _)
 ·rw[List.append_nil,hd]
  exact zer hl bel hread hA (fun x hx=>hlt x (by simp[hx]))
 ·rw[List.append_nil,hd,hvars]
  rfl
theorem zwo {C:Ctx} {f:FuncId} {fn:Func} {slots:List Sh} {F:Tup (Skel.tys ⟨slots, []⟩)→Option (Tup (Skel.tys ⟨[.hole .bool], []⟩))} {s:ChangeSpec} {tb:TypeId}
  (hok:Con.Ok P C ⟨f,⟨⟨slots, []⟩,⟨[.hole .bool], []⟩⟩,F⟩) (hm:jH P slots fn.params.toList=true) (hres:fn.resultTypes= #[tb]) (hub:P.underlying tb=some .bool)
  (hread:(fn.params.toList.all fun t=>P.readableRec t&&decide (t<P.types.size))=true) (hl:laidOutB P=true) (hvars:s.vars= [])
  (hspec: ∀ ds:List (DataW H),ds.length=fn.params.toList.length→s.fn H ds={ results:= [.lit (.bool true)],args:=ds})
  (pure: ∀ x:Tup (Skel.tys ⟨slots, []⟩),zvl _ x→F x=some true) (hg:C.globsOk (zmh W)) {base:Nat} {args:Array Value} {ds gs:List (DataW H)} {before:List MemPlace}
  (hval: ∀ (j:Nat) t v,fn.params[j]? =some t→args[j]? =some v→Value.okWide P W .any base t v) (hW:DataW.Whole enc P fn.params.toList s.vars false W args.toList ds gs before):
  Calls P f args W fun e W'=> ∃ v,e= .returned v∧s.post enc P fn false true false false W args v W':=
 zo8 hok hm hres hub hread hl hvars hspec hg (fun x h _=>pure x h) hval hW
end
theorem zql {P:Program} {W:World}: ∀ {laid:List (String×DataW Unit)} {ps:List MemPlace} {nd:String×DataW Unit},DataW.LaidVars P W laid ps→nd∈laid→
  ∃ g t cs fuel p,P.globalNamed nd.1=some g∧(P.globals[g]?).map (·.type)=some t∧W.var? P nd.1=some cs∧DataW.trod (fun _=>()) P W 0 (fun _=>true) false fuel t cs.toList=some (nd.2,p)
 | [],_,_,_,hm=>by simp at hm
 |(n,d)::r,ps,nd,h,hm=>by
  obtain⟨g,t,cs,fuel,p,q,h1,h2,h3,h4,h5,_⟩:=h
  rcases List.mem_cons.1 hm with rfl|hm
  ·exact⟨g,t,cs,fuel,p,h1,h2,h3,h4⟩
  ·exact zql h5 hm
structure GlobIs (P:Program) (nd:String×DataW Unit) (g:Nat) (d:DV):Prop where
 named:P.globalNamed nd.1=some g
 reads: ∃ T,(P.globals[g]?).map (·.type)=some T∧tyM P d.t T=true
 data:readD d.t nd.2=some d.x
theorem zlk {P:Program} {W:World} {C:Ctx} {laid:List (String×DataW Unit)} (h:laidMetH P laid W) (hp:(laid.all fun x=>x.2.handleName?.isNone)=true)
  (hall: ∀ g d,(g,d)∈C.globs→ ∃ nd∈laid,GlobIs P nd g d):C.globsOk (zmh W):=by
 rw[MakeChecks.laidMetH_plain _ _ _ hp] at h
 obtain⟨ps,h,_,_⟩:=h
 intro g d hgd
 obtain⟨nd,hm,hn,⟨T,hT,hM⟩,hd⟩:=hall g d hgd
 obtain⟨g',t,cs,fuel,p,h1,h2,h3,h4⟩:=zql h hm
 obtain rfl:g=g':=Option.some.inj (hn.symm.trans h1)
 obtain rfl:T=t:=Option.some.inj (hT.symm.trans h2)
 obtain⟨y,k1,_,k3⟩:=z7 d.t T fuel _ _ hM h4
 obtain rfl:d.x=y:=Option.some.inj (hd.symm.trans k3)
 refine⟨cs.toList, ?_,k1⟩
 unfold World.var? at h3
 rw[h1] at h3
 simp only[Option.bind_some] at h3
 split at h3
 ·rename_i c T' fr hh
  cases h3
  exact⟨_, [], [],by unfold zmh;rw[hh],by simp,rfl⟩
 ·cases h3
end Go.Sx
