import Derived.Test.YtlppdabhaipbkaaDoorSxP
import Derived.Test.YtlppdabhaipbkaaDoorSxO
import Derived.Test.YtlppdabhaipbkaaDoorSxS
import Derived.Test.YtlppdabhaipbkaaDoorProg
import Derived.KernelRfl
set_option maxRecDepth 100000
set_option maxHeartbeats 0
set_option linter.unusedVariables false
set_option linter.unusedSimpArgs false
namespace Go.Sx
open Go.Proofs
def Ld.words:List ByteArray:= [⟨#[76]⟩,⟨#[82]⟩,⟨#[65,76]⟩,⟨#[69,78]⟩,⟨#[69,83]⟩,⟨#[69,84]⟩,⟨#[65,78]⟩,⟨#[67,83]⟩,⟨#[78,83,77]⟩,⟨#[66,78]⟩,⟨#[66]⟩,⟨#[83]⟩,⟨#[87,83]⟩,⟨#[79,78]⟩,⟨#[76,82,69]⟩,⟨#[76,82,79]⟩,
 ⟨#[82,76,69]⟩,⟨#[82,76,79]⟩,⟨#[80,68,70]⟩,⟨#[76,82,73]⟩,⟨#[82,76,73]⟩,⟨#[70,83,73]⟩,⟨#[80,68,73]⟩]
def Ld.brk:List (Int×Int):= [(0x28,0x29),(0x5b,0x5d),(0x7b,0x7d),(0x2329,0x232a),(0x3008,0x3009),(0x300a,0x300b),(0x300c,0x300d),(0x300e,0x300f),(0x3010,0x3011)]
def Ld.otherF (c:Int):Option (Int×Bool×Bool):=some (match Ld.brk.find? (fun p=>p.1==c) with|some p=>(p.2,true,true)|none=>match Ld.brk.find? (fun p=>p.2==c) with|some p=>(p.1,false,true)|none=>(0,
 false,false))
def Ld.other:Con:=⟨68,⟨⟨[.hole (.int .i64)], []⟩,⟨[.hole (.int .i64), .hole .bool, .hole .bool], []⟩⟩,Ld.otherF⟩
def Ld.TT:List (TypeId×TI):= [ (3,⟨(.int .i64),1,8,some (.int .i64), [.val (.int .i64) (0:Int)]⟩),(4,⟨.bool,1,1,some .bool, [.bit false]⟩),(5,⟨(.int .u8),1,1,some (.int .u8), [.val (.int .u8) (0:Int)]⟩),(9,⟨.str,1,
 16,some .str, [.val .str ByteArray.empty]⟩),(20,⟨.other,1,16,none, [.und]⟩),(22,⟨(.slice 5),1,24,some (.sl (.int .u8)), [.nils]⟩),(24,⟨(.slice 3),1,24,some (.sl (.int .i64)), [.nils]⟩),(25,⟨.other,1,0,none, [.und]⟩),
 (32,⟨(.ptr 35),1,8,none, [.nilp]⟩),(35,⟨(.struct [(24,0,1,false),(24,1,1,false),(24,2,1,false),(24,3,1,false),(3,4,1,false)]),5,104,some (.st (.pair (.sl (.int .i64)) (.pair (.sl (.int .i64)) (.pair (.sl (.int
 .i64)) (.pair (.sl (.int .i64)) (.int .i64)))))), [.nils, .nils, .nils, .nils, .val (.int .i64) (0:Int)]⟩),(38,⟨.other,1,0,none, [.und]⟩),(40,⟨(.slice 43),1,24,some (.sl (.st (.pair (.sl (.int .i64)) (.pair (.int .i64) (.pair
 (.int .i64) (.int .i64)))))), [.nils]⟩),(43,⟨(.struct [(24,0,1,false),(3,1,1,false),(3,2,1,false),(3,3,1,false)]),4,48,some (.st (.pair (.sl (.int .i64)) (.pair (.int .i64) (.pair (.int .i64) (.int .i64))))), [.nils,
 .val (.int .i64) (0:Int), .val (.int .i64) (0:Int), .val (.int .i64) (0:Int)]⟩),(45,⟨(.slice 67),1,24,some (.sl (.st (.pair (.int .i64) (.pair (.int .i64) (.int .i64))))), [.nils]⟩),(49,⟨(.ptr 53),1,8,none, [.nilp]⟩),(51,
 ⟨(.slice 92),1,24,some (.sl (.st (.pair (.int .i64) (.pair (.int .i64) .bool)))), [.nils]⟩),(53,⟨(.struct [(3,0,1,false),(51,1,1,false),(3,2,1,false),(3,3,1,false),(3,4,1,false),(3,5,1,false),(24,6,1,false),
 (24,7,1,false)]),8,112,some (.st (.pair (.int .i64) (.pair (.sl (.st (.pair (.int .i64) (.pair (.int .i64) .bool)))) (.pair (.int .i64) (.pair (.int .i64) (.pair (.int .i64) (.pair (.int .i64) (.pair (.sl (.int .i64)) (.sl (.int
 .i64)))))))))), [.val (.int .i64) (0:Int), .nils, .val (.int .i64) (0:Int), .val (.int .i64) (0:Int), .val (.int .i64) (0:Int), .val (.int .i64) (0:Int), .nils, .nils]⟩),(54,⟨(.ptr 73),1,8,none, [.nilp]⟩),(56,⟨(.map 3 3),
 1,8,none, [.und]⟩),(57,⟨(.slice 24),1,24,some (.sl (.sl (.int .i64))), [.nils]⟩),(59,⟨.other,1,0,none, [.und]⟩),(60,⟨.other,1,8,none, [.und]⟩),(67,⟨(.struct [(3,0,1,false),(3,1,1,false),(3,2,1,false)]),3,24,
 some (.st (.pair (.int .i64) (.pair (.int .i64) (.int .i64)))), [.val (.int .i64) (0:Int), .val (.int .i64) (0:Int), .val (.int .i64) (0:Int)]⟩),(69,⟨.other,1,8,none, [.und]⟩),(73,⟨(.struct [(24,0,1,false),(24,1,1,
 false),(24,2,1,false),(24,3,1,false)]),4,96,some (.st (.pair (.sl (.int .i64)) (.pair (.sl (.int .i64)) (.pair (.sl (.int .i64)) (.sl (.int .i64)))))), [.nils, .nils, .nils, .nils]⟩),(75,⟨(.int .u64),1,8,some (.int .u64),
 [.val (.int .u64) (0:Int)]⟩),(80,⟨(.ptr 82),1,8,none, [.nilp]⟩),(82,⟨(.struct [(24,0,1,false),(24,1,1,false),(3,2,1,false),(3,3,1,false)]),4,64,some (.st (.pair (.sl (.int .i64)) (.pair (.sl (.int .i64)) (.pair
 (.int .i64) (.int .i64))))), [.nils, .nils, .val (.int .i64) (0:Int), .val (.int .i64) (0:Int)]⟩),(83,⟨(.slice 85),1,24,some (.sl (.arr 2 (.int .i64))), [.nils]⟩),(85,⟨(.array 2 3),2,16,some (.arr 2 (.int .i64)), [.val (.int
 .i64) (0:Int), .val (.int .i64) (0:Int)]⟩),(87,⟨.other,1,8,none, [.und]⟩),(92,⟨(.struct [(3,0,1,false),(3,1,1,false),(4,2,1,false)]),3,24,some (.st (.pair (.int .i64) (.pair (.int .i64) .bool))), [.val (.int .i64)
 (0:Int), .val (.int .i64) (0:Int), .bit false]⟩),(99,⟨(.slice 103),1,24,some (.sl (.st (.pair (.int .i64) (.int .i64)))), [.nils]⟩),(100,⟨.other,1,0,none, [.und]⟩),(103,⟨(.struct [(3,0,1,false),(3,1,1,false)]),2,16,
 some (.st (.pair (.int .i64) (.int .i64))), [.val (.int .i64) (0:Int), .val (.int .i64) (0:Int)]⟩),(106,⟨.other,1,8,none, [.und]⟩),(107,⟨.other,1,0,none, [.und]⟩),(110,⟨(.array 23 9),23,368,some (.arr 23 .str), [.val .str
 ByteArray.empty, .val .str ByteArray.empty, .val .str ByteArray.empty, .val .str ByteArray.empty, .val .str ByteArray.empty, .val .str ByteArray.empty, .val .str ByteArray.empty, .val .str ByteArray.empty, .val .str ByteArray.empty, .val
 .str ByteArray.empty, .val .str ByteArray.empty, .val .str ByteArray.empty, .val .str ByteArray.empty, .val .str ByteArray.empty, .val .str ByteArray.empty, .val .str ByteArray.empty, .val .str ByteArray.empty, .val .str ByteArray.empty,
 .val .str ByteArray.empty, .val .str ByteArray.empty, .val .str ByteArray.empty, .val .str ByteArray.empty, .val .str ByteArray.empty]⟩),(116,⟨(.int .i64),1,8,some (.int .i64), [.val (.int .i64) (0:Int)]⟩),(117,⟨.other,1,0,none,
 [.und]⟩),(123,⟨(.int .u32),1,4,some (.int .u32), [.val (.int .u32) (0:Int)]⟩),(125,⟨(.int .u64),1,8,some (.int .u64), [.val (.int .u64) (0:Int)]⟩),(126,⟨(.int .u64),1,8,some (.int .u64), [.val (.int .u64) (0:Int)]⟩),
 (130,⟨(.ptr 3),1,8,none, [.nilp]⟩),(132,⟨(.ptr 126),1,8,none, [.nilp]⟩),(133,⟨.other,1,0,none, [.und]⟩)]
noncomputable def Ld.C:Ctx:=⟨Ld.TT, [(0,⟨.arr 23 .str,Ld.words⟩)], [(24,(.osl (.int .i64)))], [24], []⟩
theorem Ld.Cok:Ld.C.ok Go.Proofs.Tryd.prog:=zq5 (by kernel_rfl)
theorem Ld.mixed:Go.Proofs.Tryd.prog.follows .mixedOrders=true:=by kernel_rfl
def Ld.fuel:Nat:=1000000000
def Ld.f82sig:Sig:=⟨⟨[], []⟩,⟨[.mp 0], [.map (.int .i64) (.int .i64)]⟩⟩
def Ld.f82F:Unit→Option (List (Int×Int)):=fun _=>some Ld.brk
def Ld.f82ann:Ann:= .seq .leaf (.seq .leaf .leaf)
theorem Ld.f82eq: ∀ x,zl Ld.C [] Ld.f82sig Ld.f82ann Go.Proofs.Tryd.f82 x=Ld.f82F x:=by
 intro x
 kernel_rfl
def Ld.f82con:Con:=⟨82,Ld.f82sig,Ld.f82F⟩
theorem Ld.f82ok:Con.Ok Go.Proofs.Tryd.prog Ld.C Ld.f82con:=
 zb (Γ:= []) (an:=Ld.f82ann) ⟨Ld.Cok,(fun _ h=>nomatch h),Ld.mixed⟩ Go.Proofs.Tryd.func82 rfl rfl (fun x y h=>(Ld.f82eq x).trans h) (by decide)
section other
open Go.ChangeMaps (setBlock)
open Go.RowKit
def Ld.oK:Ks (Bool×List SV×List HO):={ n:=fun fr hp=>some (false,fr,hp),e:=fun _ _ _=>none,r:=fun fr hp=>some (true,fr,hp)}
theorem Ld.oK_at {lv:Lv} {fr fr':List SV} {hp hp':List HO} {b:Bool} (h:Ld.oK.at lv fr hp=some (b,fr',hp')):fr=fr'∧hp=hp'∧((b=false∧lv= .normal)∨(b=true∧lv= .ret)):=by
 cases lv<;>simp[Ld.oK,Ks.at] at h<;>obtain⟨h1,h2,h3⟩:=h<;>simp[h1.symm,h2,h3]
theorem Ld.otherF_hit {c:Int} {x:Int} (h:zd5 (K:= .int .i64) (V:= .int .i64) Ld.brk c=some x):Ld.otherF c=some (x,true,true):=by
 have key: ∀ es:List (Int×Int),zd5 (K:= .int .i64) (V:= .int .i64) es c=some x→ ∃ p,es.find? (fun p=>p.1==c)=some p∧p.2=x:=by
  intro es
  induction es with
  |nil=>intro h;simp[zd5] at h
  |cons p es ih=>
   intro h
   simp only[zd5,Ty.eqb] at h
   rw[List.find?_cons]
   by_cases hc:c=p.1
   ·subst hc
    simp at h
    exact⟨p,by simp,h⟩
   ·have h1:(c==p.1)=false:=by simpa using hc
    have h2:(p.1==c)=false:=by simpa using fun e=>hc e.symm
    rw[h1] at h
    rw[h2]
    exact ih h
 obtain⟨p,h1,h2⟩:=key _ h
 simp only[Ld.otherF,h1,h2]
theorem Ld.mget_none {c:Int} (es:List (Int×Int)) (h:zd5 (K:= .int .i64) (V:= .int .i64) es c=none):es.find? (fun p=>p.1==c)=none:=by
 induction es with
 |nil=>rfl
 |cons p es ih=>
  simp only[zd5,Ty.eqb] at h
  rw[List.find?_cons]
  by_cases hc:c=p.1
  ·subst hc;simp at h
  ·have h1:(c==p.1)=false:=by simpa using hc
   have h2:(p.1==c)=false:=by simpa using fun e=>hc e.symm
   rw[h1] at h
   rw[h2]
   exact ih h
theorem Ld.otherF_miss {c:Int} (h:zd5 (K:= .int .i64) (V:= .int .i64) Ld.brk c=none) (h2: ∀ p∈Ld.brk,p.2≠c):Ld.otherF c=some (0,false,false):=by
 have h3:Ld.brk.find? (fun p=>p.2==c)=none:=by
  rw[List.find?_eq_none]
  intro p hp;simpa using h2 p hp
 simp only[Ld.otherF,Ld.mget_none _ h,h3]
theorem Ld.otherF_back {c:Int} (h:zd5 (K:= .int .i64) (V:= .int .i64) Ld.brk c=none) {p:Int×Int} (hp:p∈Ld.brk) (h2:p.2=c):Ld.otherF c=some (p.1,false,true):=by
 have h3:Ld.brk.find? (fun q=>q.2==c)=some p:=by
  subst h2
  simp only[Ld.brk,List.mem_cons,List.not_mem_nil,or_false] at hp
  rcases hp with rfl|rfl|rfl|rfl|rfl|rfl|rfl|rfl|rfl<;>rfl
 simp only[Ld.otherF,Ld.mget_none _ h,h3]
def Ld.fr2 (c:Int):List SV:=((((((.val (.int .i64) c::List.replicate 27 .skip:List SV).set 2 (.val (.int .i64) (0:Int))).set 3 (.bit false)).set 4 (.bit false)).set 8 (.mp 0)).set 5 (.mp 0))
def Ld.fr3 (c:Int) (m:Option Int):List SV:=((((((((Ld.fr2 c).set 10 (.mp 0)).set 11 (.val (.int .i64) c)).set 12 (.tup [.val (.int .i64) (m.getD 0), .val .bool m.isSome])).set 9 (.tup [.val (.int .i64) (m.getD 0), .val .bool
 m.isSome])).set 13 (.val (.int .i64) (m.getD 0))).set 14 (.val .bool m.isSome)).set 2 (.val (.int .i64) (m.getD 0))).set 4 (.val .bool m.isSome)
def Ld.frN (c:Int) (m:Option Int):List SV:=(Ld.fr3 c m).set 15 (.bit false)
def Ld.frR (c:Int) (m:Option Int):List SV:=(((((Ld.fr3 c m).set 15 (.bit true)).set 16 (.val (.int .i64) (m.getD 0))).set 2 (.val (.int .i64) (m.getD 0))).set 3 (.bit true)).set 4 (.bit true)
theorem Ld.at3 {E:Env} {fr:List SV} {a:Act} (hf:SV.satL E fr a.tmps.toList) {i:Nat} {s:SV} (hs:fr[i]? =some s) {p:Value→Prop} (hp: ∀ v,s.sat E v→p v):p (a.eval (.tmp i)):=by
 obtain⟨v,hv,hsv⟩:=jr hf hs
 have hev:a.eval (.tmp i)=v:=by simp[Act.eval,Array.getD_eq_getD_getElem?,hv]
 rw[hev];exact hp v hsv
theorem Ld.otherok:Ld.other.Ok Go.Proofs.Tryd.prog Ld.C where
 there:=⟨_,Go.Proofs.Tryd.func68,rfl,rfl⟩
 calls:=by
  intro E w args (c:Int) (y:Int×Bool×Bool) W hg hs hh hxy
  have hargs: ∃ v,args= [v]∧(SV.val (.int .i64) c).sat E v:=by
   obtain⟨v,ws,e,h1,h2⟩:=(show SV.satL E [.val (.int .i64) c] args from hs)
   simp only[SV.satL] at h2
   subst h2
   exact⟨v,e,h1⟩
  obtain⟨v0,rfl,hv0⟩:=hargs
  have hG:Given Go.Proofs.Tryd.prog Ld.C [Ld.f82con]:=⟨Ld.Cok,(List.forall_mem_cons.2 ⟨Ld.f82ok,(fun _ h=>nomatch h)⟩),Ld.mixed⟩
  have hh0:Hp ⟨w,W,E.M⟩ E [] w:=hh
  have ev0:v0= .int .i64 c:=xl (by simpa only[SV.sat] using hv0)
  refine calls_of_wp Go.Proofs.Tryd.func68 (c:=_) rfl ?_
  have hfr:SV.satL E (.val (.int .i64) c::List.replicate 27 .skip) (#[v0]++Array.replicate (Go.Proofs.Tryd.f68.ntmps - #[v0].size) undef).toList:=by
   have hsk: ∀ n,SV.satL E (List.replicate n SV.skip) (List.replicate n undef):=by
    intro n
    induction n with
    |zero=>simp[SV.satL]
    |succ n ih=>rw[List.replicate_succ,List.replicate_succ];simp only[SV.satL];exact⟨_,_,rfl,by simp[SV.sat],ih⟩
   rw[show Go.Proofs.Tryd.f68.ntmps - #[v0].size=27 by kernel_rfl,Array.toList_append,Array.toList_replicate]
   show SV.satL E _ (v0::List.replicate 27 undef)
   simp only[SV.satL]
   exact⟨_,_,rfl,by simpa only[SV.sat] using hv0,hsk 27⟩
  generalize hQ:bodyPost Go.Proofs.Tryd.prog Go.Proofs.Tryd.f68 _=Q
  have fin: ∀ (a':Act) (w':World) (E':Env) (hp':List HO),a'.defers= []→Hp ⟨w,W,E.M⟩ E' hp' w'→a'.eval (.tmp 2)= .int .i64 y.1→a'.eval (.tmp 3)= .bool y.2.1→a'.eval (.tmp 4)= .bool y.2.2→Q .ret a' w':=by
   intro a' w' E' hp' h1 h2 h3 h4 h5
   subst hQ
   refine⟨h1,retVal [.int .i64 y.1, .bool y.2.1, .bool y.2.2], ?_,⟨E'.M, []⟩,_,rfl, ?_,h2.nil,fun j e hj=>by simp[Ld.other] at hj⟩
   ·simp only[Act.eval] at h3 h4 h5
    refine zh4 (vs:= [.int .i64 y.1, .bool y.2.1, .bool y.2.2]) ?_
    rw[show Go.Proofs.Tryd.f68.results= #[.tmp 2, .tmp 3, .tmp 4] from rfl]
    rw[Array.getD_eq_getD_getElem?] at h3 h4 h5
    simp[h3,h4,h5]
   ·show SV.satL _ [.val (.int .i64) y.1, .val .bool y.2.1, .val .bool y.2.2] _
    simp only[SV.satL]
    exact⟨_,_,rfl,qr _,_,_,rfl,qs _,_,_,rfl,qs _,rfl⟩
  refine wp_seq ?_
  refine z4 (an:= .leaf) (r:=(false,((((.val (.int .i64) c::List.replicate 27 .skip:List SV).set 2 (.val (.int .i64) (0:Int))).set 3 (.bit false)).set 4 (.bit false)), [])) (K:=Ld.oK) hG hh0 hfr hg (by kernel_rfl) ?_
  intro lv E1 fr1 hp1 a1 w1 le1 hh1 hf1 kp1 hk1
  obtain⟨rfl,rfl,⟨_,rfl⟩|⟨h,_⟩⟩:=Ld.oK_at hk1
  case inr=>cases h
  show Code.wp _ _ _ _ _
  refine wp_seq ?_
  refine z4 (an:= .leaf) (r:=(false,((((((.val (.int .i64) c::List.replicate 27 .skip:List SV).set 2 (.val (.int .i64) (0:Int))).set 3 (.bit false)).set 4 (.bit false)).set 8 (.mp 0)).set 5 (.mp 0)), [.map (.int .i64) (.int .i64) Ld.brk])) (K:=Ld.oK) hG hh1 hf1 (Ld.C.globsOk_mono le1.1 hg) (by kernel_rfl) ?_
  intro lv E2 fr2 hp2 a2 w2 le2 hh2 hf2 kp2 hk2
  obtain⟨rfl,rfl,⟨_,rfl⟩|⟨h,_⟩⟩:=Ld.oK_at hk2
  case inr=>cases h
  have hg2:=Ld.C.globsOk_mono le2.1 (Ld.C.globsOk_mono le1.1 hg)
  show Code.wp _ _ _ _ _
  refine wp_seq ?_
  generalize hm:zd5 (K:= .int .i64) (V:= .int .i64) Ld.brk c=m
  have hX: ∀ (X:Code),X=X→True:=fun _ _=>trivial
  clear hX
  refine z4 (an:= .seq .leaf (.seq .leaf (.cond (.seq .leaf .leaf) .leaf))) (r:=if m.isSome=true then(true,Ld.frR c m, [.map (.int .i64) (.int .i64) Ld.brk]) else(false,Ld.frN c m, [.map (.int .i64) (.int .i64) Ld.brk])) (K:=Ld.oK) hG hh2 hf2 hg2 ?_ ?_
  ·subst hm
   refine Eq.trans (b:=if(zd5 (K:= .int .i64) (V:= .int .i64) Ld.brk c).isSome=true then some (true,Ld.frR c (zd5 (K:= .int .i64) (V:= .int .i64) Ld.brk c), [.map (.int .i64) (.int .i64) Ld.brk]) else some (false,Ld.frN c (zd5 (K:= .int .i64) (V:= .int .i64) Ld.brk c), [.map (.int .i64) (.int .i64) Ld.brk])) (by kernel_rfl) ?_
   split<;>rfl
  intro lv E3 fr3 hp3 a3 w3 le3 hh3 hf3 kp3 hk3
  have hdef:a3.defers= []:=by rw[kp3.defers,kp2.defers,kp1.defers]
  cases m with
  |some x=>
   obtain⟨rfl,rfl,⟨h,_⟩|⟨_,rfl⟩⟩:=Ld.oK_at (b:=true) hk3
   ·cases h
   have hy:y=(x,true,true):=by
    have:=Ld.otherF_hit hm
    have h2:Ld.otherF c=some y:=hxy
    rw[this] at h2
    exact(Option.some.inj h2).symm
   subst hy
   refine fin a3 w3 E3 _ hdef hh3 ?_ ?_ ?_
   ·exact Ld.at3 hf3 (i:=2) (s:= .val (.int .i64) x) (p:=fun v=>v= .int .i64 x) rfl fun v hv=>xl (by simpa only[SV.sat] using hv)
   ·exact Ld.at3 hf3 (i:=3) (s:= .bit true) rfl fun v hv=>by simpa only[SV.sat] using hv
   ·exact Ld.at3 hf3 (i:=4) (s:= .bit true) rfl fun v hv=>by simpa only[SV.sat] using hv
  |none=>
   obtain⟨rfl,rfl,⟨_,rfl⟩|⟨h,_⟩⟩:=Ld.oK_at (b:=false) hk3
   case inr=>cases h
   have hc0:a3.eval (.tmp 0)= .int .i64 c:=Ld.at3 hf3 (i:=0) (s:= .val (.int .i64) c) (p:=fun v=>v= .int .i64 c) rfl fun v hv=>xl (by simpa only[SV.sat] using hv)
   have h5: ∃ e b,E3.L[0]? =some e∧e.blk=some b∧a3.eval (.tmp 5)= .map (some b):=Ld.at3 hf3 (i:=5) (s:= .mp 0) (p:=fun v=> ∃ e b,E3.L[0]? =some e∧e.blk=some b∧v= .map (some b)) rfl fun v hv=>by simpa only[SV.sat] using hv
   obtain⟨le,b,he5,hb5,hv5⟩:=h5
   obtain⟨b',arr,clock,g1,g2,g3,gst⟩:=hh3.ob 0 _ _ rfl he5
   rw[hb5] at g1
   cases g1
   obtain⟨rm1,rm2⟩:=zqs g3
   have hbl:b<w3.heap.size:=(Array.getElem?_eq_some_iff.1 g2).1
   have hs3:a3.tmps.size=28:=by
    have:=SV.satL_length hf3
    simpa [Ld.frN,Ld.fr3,Ld.fr2] using this
   show Code.wp _ _ _ _ _
   refine wp_seq (wp_seq (wp_region_list ?_))
   refine zC rfl (v:= .map (some b)) (w':=w3) (by simp[execOp,hv5]) ?_
   refine zC rfl (v:= .pointer (some ⟨w3.heap.size,0,none⟩)) (w':=w3.alloc (.mapIter (some b) clock #[] clock)) ?_ ?_
   ·simp only[execOp]
    rw[zi (by omega)]
    have:=run_range_map (P:=Go.Proofs.Tryd.prog) w3 56 3 3 b arr clock (by kernel_rfl) g2
    simp[this]
   refine wpList_nil ?_
   show Code.wp _ _ _ _ _
   refine wp_block (wp_loop_rounds (arr.size+1) ?_)
   refine zj5 (I:=fun n a' w'=> ∃ seen,(leftOf arr seen).size<n∧a'.eval (.tmp 0)= .int .i64 c∧a'.eval (.tmp 18)= .pointer (some ⟨w3.heap.size,0,none⟩)∧a'.tmps.size=28∧a'.defers= []∧Below w3.heap.size w3 w'∧
     w'.heap[w3.heap.size]? =some (.mapIter (some b) clock seen clock)∧(∀ e∈arr.toList,seen.contains e.born=true→e.val≠ .int .i64 c)) ?_ ?_ (arr.size+1) _ _ ?_
   ·rintro a w ⟨seen,h,_⟩;omega
   ·rintro n a' w' Kx hKx ⟨seen,hlt,k0,k18,ksz,kdef,kbel,khp,kseen⟩
    have hb':w'.heap[b]? =some (.map arr clock):=by rw[kbel.block b hbl];exact g2
    refine wp_seq (wp_region_list ?_)
    rcases run_next_at (P:=Go.Proofs.Tryd.prog) w' 0 w3.heap.size b clock clock seen arr clock khp hb' gst.1 (Nat.le_refl _) with ⟨q1,q2⟩|⟨e,q1,w1,q2,q3⟩
    ·refine zC rfl (v:= .tuple #[.bool false]) (w':=w') (by simp[execOp,k18,q2]) ?_
     refine zC rfl (v:= .bool false) (w':=w') ?_ ?_
     ·simp only[execOp]
      rw[zi (by omega)]
      simp[Instr.extract]
     refine wpList_nil ?_
     show Code.wp _ _ _ _ _
     refine wp_seq (wp_cond_false ?_ (wp_exit ?_))
     ·exact zi (by rw[zT];omega)
     show Code.wp _ _ _ _ _
     have hmiss:Ld.otherF c=some (0,false,false):=by
      refine Ld.otherF_miss hm fun p hp e=> ?_
      obtain⟨m',hm',_,cv,hcv,hval⟩:=rm2 p hp
      have hsn:=all_seen arr seen q1 m' hm'
      refine kseen m' hm' hsn ?_
      simp only[Rep] at hcv
      rw[hval,hcv, ← e];rfl
     have hy:y=(0,false,false):=by
      have h2:Ld.otherF c=some y:=hxy
      rw[hmiss] at h2
      exact(Option.some.inj h2).symm
     subst hy
     refine wp_seq (wp_region_list ?_)
     refine zC rfl (v:= .int .i64 0) (w':=w') (by simp[execOp,jY]) ?_
     refine zC rfl (v:= .bool false) (w':=w') (by simp[execOp,jY]) ?_
     refine zC rfl (v:= .bool false) (w':=w') (by simp[execOp,jY]) ?_
     refine wpList_nil ?_
     show Code.wp _ _ _ _ _
     refine wp_ret (fin _ w' E3 _ ?_ (hh3.grow kbel) ?_ ?_ ?_)
     ·simp only[jV];exact kdef
     ·rw[zt (by decide),zt (by decide)];exact zi (by simp only[zT];omega)
     ·rw[zt (by decide)];exact zi (by simp only[zT];omega)
     ·exact zi (by simp only[zT];omega)
    ·have kbel1:Below w3.heap.size w3 w1:=by
      rcases q2 with rfl|rfl
      ·exact kbel
      ·exact kbel.drew
     have khp1:w1.heap[w3.heap.size]? =some (.mapIter (some b) clock seen clock):=by
      rcases q2 with rfl|rfl<;>exact khp
     obtain⟨hmem,hns⟩:=mem_left q1
     have khp2:=zfy khp1 (.mapIter (some b) clock (seen.push e.born) clock)
     have kbel2:=zim kbel1 (Nat.le_refl _) khp1 (.mapIter (some b) clock (seen.push e.born) clock)
     generalize hw2:setBlock w1 w3.heap.size (.mapIter (some b) clock (seen.push e.born) clock)=w2 at q3 khp2 kbel2
     have hb2:w2.heap[b]? =some (.map arr clock):=by rw[kbel2.block b hbl];exact g2
     have hen:=run_entry_at (P:=Go.Proofs.Tryd.prog) w2 w3.heap.size b clock seen arr clock e khp2 hb2 hmem gst.2
     obtain⟨p,hp,⟨ck,hck,hkey⟩,cv,hcv,hval⟩:=rm1 e hmem
     have hkey':e.key= .int .i64 p.1:=by rw[hkey];simp only[Rep] at hck;rw[hck];rfl
     have hval':e.val= .int .i64 p.2:=by rw[hval];simp only[Rep] at hcv;rw[hcv];rfl
     rw[hkey',hval'] at q3 hen
     refine zC rfl (v:= .tuple #[.bool true, .int .i64 p.1, .int .i64 p.2]) (w':=w2) (by simp[execOp,k18,q3]) ?_
     refine zC rfl (v:= .bool true) (w':=w2) ?_ ?_
     ·simp only[execOp]
      rw[zi (by omega)]
      simp[Instr.extract]
     refine wpList_nil ?_
     show Code.wp _ _ _ _ _
     refine wp_seq (wp_cond_true ?_ (wp_skip ?_))
     ·exact zi (by rw[zT];omega)
     show Code.wp _ _ _ _ _
     refine wp_block (wp_seq (wp_region_list ?_))
     refine zC rfl (v:= .tuple #[.int .i64 p.1, .int .i64 p.2]) (w':=w2) ?_ ?_
     ·simp only[execOp]
      rw[zt (by decide),zt (by decide),k18]
      simp[hen]
     refine zC rfl (v:= .int .i64 p.1) (w':=w2) ?_ ?_
     ·simp only[execOp]
      rw[zi (by simp only[zT];omega)]
      simp[Instr.extract]
     refine zC rfl (v:= .int .i64 p.2) (w':=w2) ?_ ?_
     ·simp only[execOp]
      rw[zt (by decide),zi (by simp only[zT];omega)]
      simp[Instr.extract]
     refine zC rfl (v:= .int .i64 p.1) (w':=w2) ?_ ?_
     ·simp only[execOp]
      rw[zt (by decide),zi (by simp only[zT];omega)]
      simp
     refine zC rfl (v:= .int .i64 p.2) (w':=w2) ?_ ?_
     ·simp only[execOp]
      rw[zt (by decide),zi (by simp only[zT];omega)]
      simp
     refine wpList_nil ?_
     show Code.wp _ _ _ _ _
     generalize hA:Act.put _ (some 7) (Value.int .i64 p.2)=A
     have A0:A.eval (.tmp 0)= .int .i64 c:=by
      subst hA
      iterate 7 rw[zt (by decide)]
      exact k0
     have A18:A.eval (.tmp 18)= .pointer (some ⟨w3.heap.size,0,none⟩):=by
      subst hA
      iterate 7 rw[zt (by decide)]
      exact k18
     have A6:A.eval (.tmp 6)= .int .i64 p.1:=by
      subst hA
      rw[zt (by decide)]
      exact zi (by simp only[zT];omega)
     have A7:A.eval (.tmp 7)= .int .i64 p.2:=by
      subst hA
      exact zi (by simp only[zT];omega)
     have As:A.tmps.size=28:=by subst hA;simp only[zT];exact ksz
     have Ad:A.defers= []:=by subst hA;simp only[jV];exact kdef
     clear hA
     refine wp_seq (wp_region_list ?_)
     refine zC rfl (v:= .int .i64 p.2) (w':=w2) (by simp[execOp,A7]) ?_
     refine zC rfl (v:= .int .i64 c) (w':=w2) ?_ ?_
     ·simp only[execOp]
      rw[zt (by decide),A0]
      simp
     refine zC rfl (v:= .bool (p.2==c)) (w':=w2) ?_ ?_
     ·simp only[execOp]
      rw[zt (by decide),zi (by omega),zi (by simp only[zT];omega)]
      simp[eqGuard,binOp,Op.intCmp]
     refine wpList_nil ?_
     show Code.wp _ _ _ _ _
     generalize hA2:Act.put _ (some 26) (Value.bool (p.2==c))=A2
     have B0:A2.eval (.tmp 0)= .int .i64 c:=by
      subst hA2
      iterate 3 rw[zt (by decide)]
      exact A0
     have B18:A2.eval (.tmp 18)= .pointer (some ⟨w3.heap.size,0,none⟩):=by
      subst hA2
      iterate 3 rw[zt (by decide)]
      exact A18
     have B6:A2.eval (.tmp 6)= .int .i64 p.1:=by
      subst hA2
      iterate 3 rw[zt (by decide)]
      exact A6
     have B26:A2.eval (.tmp 26)= .bool (p.2==c):=by
      subst hA2
      exact zi (by simp only[zT];omega)
     have Bs:A2.tmps.size=28:=by subst hA2;simp only[zT];exact As
     have Bd:A2.defers= []:=by subst hA2;simp only[jV];exact Ad
     clear hA2
     by_cases hpc:p.2=c
     ·have hback:=Ld.otherF_back hm hp hpc
      have hy:y=(p.1,false,true):=by
       have h2:Ld.otherF c=some y:=hxy
       rw[hback] at h2
       exact(Option.some.inj h2).symm
      subst hy
      refine wp_cond_true (by rw[B26];simp[hpc]) (wp_seq (wp_region_list ?_))
      refine zC rfl (v:= .int .i64 p.1) (w':=w2) (by simp[execOp,B6]) ?_
      refine zC rfl (v:= .int .i64 p.1) (w':=w2) ?_ ?_
      ·simp only[execOp]
       rw[zi (by omega)]
       simp
      refine zC rfl (v:= .bool false) (w':=w2) (by simp[execOp,jY]) ?_
      refine zC rfl (v:= .bool true) (w':=w2) (by simp[execOp,jY]) ?_
      refine wpList_nil ?_
      show Code.wp _ _ _ _ _
      refine wp_ret (fin _ w2 E3 _ ?_ (hh3.grow kbel2) ?_ ?_ ?_)
      ·simp only[jV];exact Bd
      ·rw[zt (by decide),zt (by decide)];exact zi (by simp only[zT];omega)
      ·rw[zt (by decide)];exact zi (by simp only[zT];omega)
      ·exact zi (by simp only[zT];omega)
     ·refine wp_cond_false (by rw[B26];simp[hpc]) (wp_skip ?_)
      refine hKx _ _ ⟨seen.push e.born, ?_,B0,B18,Bs,Bd,kbel2,khp2,fun x hx hs=> ?_⟩
      ·have:=left_shrinks arr seen e q1;omega
      ·rw[Array.contains_eq_mem] at hs
       simp only[Array.mem_push,decide_eq_true_eq] at hs
       rcases hs with hs|hs
       ·exact kseen x hx (by rw[Array.contains_eq_mem];simpa using hs)
       ·have:x=e:=by
         have hnd:=gst.2
         have f1:=find_born x _ hnd hx
         have f2:=find_born e _ hnd hmem
         rw[hs,f2] at f1
         exact(Option.some.inj f1).symm
        subst this
        rw[hval']
        intro e;cases e;exact hpc rfl
   ·refine⟨#[], ?_, ?_, ?_, ?_, ?_,(Below.refl _ _).alloc (Nat.le_refl _) _,heap_alloc_new w3 _,fun e _ h=>by simp at h⟩
    ·have:(leftOf arr #[]).size≤arr.size:=by unfold leftOf;exact Array.size_filter_le
     omega
    ·rw[zt (by decide),zt (by decide)];exact hc0
    ·exact zi (by simp only[zT];omega)
    ·simp only[zT];exact hs3
    ·simp only[jV];exact hdef
end other
def Ld.f20sig:Sig:=⟨⟨[], []⟩,⟨[.hole (.sl (.st (.pair (.int .i64) (.pair (.int .i64) (.int .i64)))))], []⟩⟩
noncomputable def Ld.f20Γ:List Con:= []
def Ld.f20ann:Ann:=(.seq .leaf (.seq .leaf .leaf))
noncomputable def Ld.f20F:PUnit→Option (List (Int×Int×Int)):=fun(x:PUnit)=>some [((0:Int),(8:Int),(9:Int)),((9:Int),(9:Int),(11:Int)),((10:Int),(10:Int),(10:Int)),((11:Int),(11:Int),(11:
 Int)),((12:Int),(12:Int),(12:Int)),((13:Int),(13:Int),(10:Int)),((14:Int),(27:Int),(9:Int)),((28:Int),(30:Int),(10:Int)),((31:Int),(31:Int),(11:Int)),((32:Int),(32:Int),(12:Int)),((33:
 Int),(34:Int),(13:Int)),((35:Int),(37:Int),(5:Int)),((38:Int),(42:Int),(13:Int)),((43:Int),(43:Int),(4:Int)),((44:Int),(44:Int),(7:Int)),((45:Int),(45:Int),(4:Int)),((46:Int),(47:
 Int),(7:Int)),((48:Int),(57:Int),(3:Int)),((58:Int),(58:Int),(7:Int)),((59:Int),(64:Int),(13:Int)),((91:Int),(96:Int),(13:Int)),((123:Int),(126:Int),(13:Int)),((127:Int),(132:Int),(9:
 Int)),((133:Int),(133:Int),(10:Int)),((134:Int),(159:Int),(9:Int)),((160:Int),(160:Int),(7:Int)),((161:Int),(161:Int),(13:Int)),((162:Int),(165:Int),(5:Int)),((166:Int),(169:Int),(13:
 Int)),((171:Int),(172:Int),(13:Int)),((173:Int),(173:Int),(9:Int)),((174:Int),(175:Int),(13:Int)),((176:Int),(177:Int),(5:Int)),((178:Int),(179:Int),(3:Int)),((180:Int),(180:Int),(13:
 Int)),((182:Int),(184:Int),(13:Int)),((185:Int),(185:Int),(3:Int)),((187:Int),(191:Int),(13:Int)),((215:Int),(215:Int),(13:Int)),((247:Int),(247:Int),(13:Int)),((768:Int),(879:Int),(8:
 Int)),((1425:Int),(1469:Int),(8:Int)),((1470:Int),(1470:Int),(1:Int)),((1471:Int),(1471:Int),(8:Int)),((1472:Int),(1472:Int),(1:Int)),((1473:Int),(1474:Int),(8:Int)),((1488:Int),(1524:Int),
 (1:Int)),((1536:Int),(1541:Int),(6:Int)),((1542:Int),(1543:Int),(13:Int)),((1544:Int),(1544:Int),(2:Int)),((1545:Int),(1546:Int),(5:Int)),((1547:Int),(1547:Int),(2:Int)),((1548:Int),(1548:
 Int),(7:Int)),((1549:Int),(1549:Int),(2:Int)),((1552:Int),(1562:Int),(8:Int)),((1563:Int),(1610:Int),(2:Int)),((1611:Int),(1631:Int),(8:Int)),((1632:Int),(1641:Int),(6:Int)),((1642:Int),
 (1642:Int),(5:Int)),((1643:Int),(1644:Int),(6:Int)),((1645:Int),(1647:Int),(2:Int)),((1648:Int),(1648:Int),(8:Int)),((1649:Int),(1749:Int),(2:Int)),((8203:Int),(8205:Int),(9:Int)),((8207:
 Int),(8207:Int),(1:Int)),((8208:Int),(8231:Int),(13:Int)),((8232:Int),(8232:Int),(12:Int)),((8233:Int),(8233:Int),(10:Int)),((8234:Int),(8234:Int),(14:Int)),((8235:Int),(8235:Int),(16:
 Int)),((8236:Int),(8236:Int),(18:Int)),((8237:Int),(8237:Int),(15:Int)),((8238:Int),(8238:Int),(17:Int)),((8239:Int),(8239:Int),(7:Int)),((8240:Int),(8244:Int),(5:Int)),((8245:Int),(8259:
 Int),(13:Int)),((8294:Int),(8294:Int),(19:Int)),((8295:Int),(8295:Int),(20:Int)),((8296:Int),(8296:Int),(21:Int)),((8297:Int),(8297:Int),(22:Int)),((8304:Int),(8304:Int),(3:Int)),((8308:
 Int),(8313:Int),(3:Int)),((8352:Int),(8384:Int),(5:Int)),((8592:Int),(8721:Int),(13:Int)),((8722:Int),(8722:Int),(4:Int)),((8723:Int),(8723:Int),(5:Int)),((8724:Int),(9013:Int),(13:Int)),
 ((12296:Int),(12305:Int),(13:Int)),((65279:Int),(65279:Int),(9:Int)),((128512:Int),(128591:Int),(13:Int))]
theorem Ld.f20eq: ∀ x,zl Ld.C Ld.f20Γ Ld.f20sig Ld.f20ann Go.Proofs.Tryd.f20 x=Ld.f20F x:=by
 intro x
 kernel_rfl
noncomputable def Ld.f20con:Con:=⟨20,Ld.f20sig,Ld.f20F⟩
theorem Ld.f20ok:Con.Ok Go.Proofs.Tryd.prog Ld.C Ld.f20con:=
 zb (Γ:=Ld.f20Γ) (an:=Ld.f20ann) ⟨Ld.Cok,(fun _ h=>nomatch h),Ld.mixed⟩ Go.Proofs.Tryd.func20 rfl rfl (fun x y h=>(Ld.f20eq x).trans h) (by decide)
def Ld.f36sig:Sig:=⟨⟨[.hole (.st (.pair (.int .i64) (.pair (.int .i64) (.int .i64)))), .hole (.int .i64)], []⟩,⟨[.hole (.int .i64)], []⟩⟩
noncomputable def Ld.f36Γ:List Con:= []
def Ld.f36ann:Ann:=(.seq .leaf (.seq (.block (.seq .leaf (.cond (.seq .leaf .leaf) (.seq .leaf (.cond (.seq .leaf .leaf) .leaf))))) (.seq .leaf .leaf)))
noncomputable def Ld.f36F:(Int×Int×Int)×Int→Option (Int):=fun(x:(Int×Int×Int)×Int)=>if decide (x.1.2.1<x.2)=true then some (-1:Int) else if decide (x.1.1 > x.2)=true then some (1:Int) else some (0:Int)
theorem Ld.f36eq: ∀ x,zl Ld.C Ld.f36Γ Ld.f36sig Ld.f36ann Go.Proofs.Tryd.f36 x=Ld.f36F x:=by
 intro x
 kernel_rfl
noncomputable def Ld.f36con:Con:=⟨36,Ld.f36sig,Ld.f36F⟩
theorem Ld.f36ok:Con.Ok Go.Proofs.Tryd.prog Ld.C Ld.f36con:=
 zb (Γ:=Ld.f36Γ) (an:=Ld.f36ann) ⟨Ld.Cok,(fun _ h=>nomatch h),Ld.mixed⟩ Go.Proofs.Tryd.func36 rfl rfl (fun x y h=>(Ld.f36eq x).trans h) (by decide)
def Ld.f35sig:Sig:=⟨⟨[.hole (.sl (.st (.pair (.int .i64) (.pair (.int .i64) (.int .i64))))), .hole (.int .i64), .fnc 36 0], []⟩,⟨[.hole (.int .i64), .hole .bool], []⟩⟩
noncomputable def Ld.f35Γ:List Con:= [Ld.f36con]
def Ld.f35ann:Ann:=(.seq .leaf (.seq .leaf (.seq .leaf (.seq (.block (.loop ⟨.normal, [(9, .hole (.int .i64)),(10, .hole (.int .i64))], []⟩ [⟨(.exit 0), [(9, .hole (.int .i64))], []⟩] (.seq (.seq .leaf (.cond .leaf .leaf)) (.block
 (.seq .leaf (.seq .leaf (.cond .leaf .leaf))))))) (.seq .leaf .leaf)))))
noncomputable def Ld.f35F:List (Int×Int×Int)×Int→Option (Int×Bool):=fun(x:List (Int×Int×Int)×Int)=>Option.bind (iter (fun(s1:Int×Int)=>if decide (s1.1<s1.2)=true then if(0:Int)≤IntKind.i64.wrap
 (Int.fdiv (IntKind.wrap IntKind.u64 (IntKind.i64.wrap (s1.1+s1.2))) ((2:Int) ^ Min.min (Int.toNat (1:Int)) (IntKind.bits IntKind.u64)))∧IntKind.i64.wrap (Int.fdiv (IntKind.wrap IntKind.u64 (IntKind.i64.wrap (s1.1+s1.2))) ((2:
 Int) ^ Min.min (Int.toNat (1:Int)) (IntKind.bits IntKind.u64)))<(x.1.length:Int) then Option.bind (Ld.f36F (List.getD x.1 (Int.toNat (IntKind.i64.wrap (Int.fdiv (IntKind.wrap IntKind.u64 (IntKind.i64.wrap (s1.1+s1.2))) ((2:Int) ^
 Min.min (Int.toNat (1:Int)) (IntKind.bits IntKind.u64))))) ((0:Int),(0:Int),(0:Int)),x.2)) fun v2=>if decide (v2<(0:Int))=true then some (Sum.inl (IntKind.i64.wrap (IntKind.i64.wrap (Int.fdiv (IntKind.wrap IntKind.u64
 (IntKind.i64.wrap (s1.1+s1.2))) ((2:Int) ^ Min.min (Int.toNat (1:Int)) (IntKind.bits IntKind.u64)))+(1:Int)),s1.2)) else some (Sum.inl (s1.1,IntKind.i64.wrap (Int.fdiv (IntKind.wrap IntKind.u64 (IntKind.i64.wrap (s1.1+s1.2)))
 ((2:Int) ^ Min.min (Int.toNat (1:Int)) (IntKind.bits IntKind.u64))))) else none else some (Sum.inr s1.1)) ((0:Int),(x.1.length:Int))) fun v1=>if decide (v1<(x.1.length:Int))=true then if(0:Int)≤v1∧v1<(x.1.length:
 Int) then Option.bind (Ld.f36F (List.getD x.1 (Int.toNat v1) ((0:Int),(0:Int),(0:Int)),x.2)) fun v2=>some (v1,v2==(0:Int)) else none else some (v1,false)
theorem Ld.f35eq: ∀ x,zl Ld.C Ld.f35Γ Ld.f35sig Ld.f35ann Go.Proofs.Tryd.f35 x=Ld.f35F x:=by
 intro x
 kernel_rfl
noncomputable def Ld.f35con:Con:=⟨35,Ld.f35sig,Ld.f35F⟩
theorem Ld.f35ok:Con.Ok Go.Proofs.Tryd.prog Ld.C Ld.f35con:=
 zb (Γ:=Ld.f35Γ) (an:=Ld.f35ann) ⟨Ld.Cok,(List.forall_mem_cons.2 ⟨Ld.f36ok,(fun _ h=>nomatch h)⟩),Ld.mixed⟩ Go.Proofs.Tryd.func35 rfl rfl (fun x y h=>(Ld.f35eq x).trans h) (by decide)
def Ld.f21sig:Sig:=⟨⟨[.hole (.sl (.st (.pair (.int .i64) (.pair (.int .i64) (.int .i64))))), .hole (.int .i64)], []⟩,⟨[.hole (.int .i64)], []⟩⟩
noncomputable def Ld.f21Γ:List Con:= [Ld.f35con,Ld.f36con]
def Ld.f21ann:Ann:=(.seq .leaf (.seq .leaf (.seq (.seq .leaf (.cond (.seq .leaf .leaf) .leaf)) (.seq .leaf .leaf))))
noncomputable def Ld.f21F:List (Int×Int×Int)×Int→Option (Int):=fun(x:List (Int×Int×Int)×Int)=>Option.bind (Ld.f35F (x.1,x.2)) fun v1=>if(!v1.2)=true then some (0:Int) else if(0:Int)≤v1.1∧v1.1<
 (x.1.length:Int) then some (List.getD x.1 (Int.toNat v1.1) ((0:Int),(0:Int),(0:Int))).2.2 else none
theorem Ld.f21eq: ∀ x,zl Ld.C Ld.f21Γ Ld.f21sig Ld.f21ann Go.Proofs.Tryd.f21 x=Ld.f21F x:=by
 intro x
 kernel_rfl
noncomputable def Ld.f21con:Con:=⟨21,Ld.f21sig,Ld.f21F⟩
theorem Ld.f21ok:Con.Ok Go.Proofs.Tryd.prog Ld.C Ld.f21con:=
 zb (Γ:=Ld.f21Γ) (an:=Ld.f21ann) ⟨Ld.Cok,(List.forall_mem_cons.2 ⟨Ld.f35ok,(List.forall_mem_cons.2 ⟨Ld.f36ok,(fun _ h=>nomatch h)⟩)⟩),Ld.mixed⟩ Go.Proofs.Tryd.func21 rfl rfl (fun x y h=>(Ld.f21eq x).trans h) (by decide)
def Ld.f14sig:Sig:=⟨⟨[.hole (.sl (.int .i64))], []⟩,⟨[.hole (.sl (.int .i64))], []⟩⟩
noncomputable def Ld.f14Γ:List Con:= [Ld.f20con,Ld.f21con]
def Ld.f14ann:Ann:=(.seq .leaf (.seq .leaf (.seq .leaf (.seq (.seq .leaf (.block (.loop ⟨.normal, [(4, .own 0),(10, .hole (.int .i64))], [.arr 3 (.int .i64)]⟩ [⟨(.exit 0), [(4, .own 0)], [.arr 3 (.int .i64)]⟩] (.seq .leaf (.seq (.cond
 .leaf .leaf) (.seq (.block (.seq .leaf .leaf)) .leaf)))))) (.seq .leaf .leaf)))))
noncomputable def Ld.f14F:List Int→Option (List Int):=fun(x:List Int)=>Option.bind (Ld.f20F ()) fun(v1:List (Int×Int×Int))=>Option.bind (iter (fun(s2:Int×List Int)=>if decide (s2.1<(x.length:Int))=true then
 if(0:Int)≤s2.1∧s2.1<(x.length:Int) then Option.bind (Ld.f21F (v1,List.getD x (Int.toNat s2.1) (0:Int))) fun v3=>if zk (List.length s2.2+(1:Nat)) (8:Nat) then some (Sum.inl (IntKind.i64.wrap (s2.1+(1:Int)),s2.2
 ++ [v3])) else none else none else some (Sum.inr s2.2)) ((0:Int), [])) fun(v2:List Int)=>some v2
theorem Ld.f14eq: ∀ x,zl Ld.C Ld.f14Γ Ld.f14sig Ld.f14ann Go.Proofs.Tryd.f14 x=Ld.f14F x:=by
 intro x
 kernel_rfl
noncomputable def Ld.f14con:Con:=⟨14,Ld.f14sig,Ld.f14F⟩
theorem Ld.f14ok:Con.Ok Go.Proofs.Tryd.prog Ld.C Ld.f14con:=
 zb (Γ:=Ld.f14Γ) (an:=Ld.f14ann) ⟨Ld.Cok,(List.forall_mem_cons.2 ⟨Ld.f20ok,(List.forall_mem_cons.2 ⟨Ld.f21ok,(fun _ h=>nomatch h)⟩)⟩),Ld.mixed⟩ Go.Proofs.Tryd.func14 rfl rfl (fun x y h=>(Ld.f14eq x).trans h) (by decide)
def Ld.f41sig:Sig:=⟨⟨[.hole (.sl (.int .i64))], []⟩,⟨[.hole (.int .u64)], []⟩⟩
noncomputable def Ld.f41Γ:List Con:= []
def Ld.f41ann:Ann:=(.seq .leaf (.seq (.seq .leaf (.block (.loop ⟨.normal, [(2, .hole (.int .u64)),(7, .hole (.int .i64))], []⟩ [⟨(.exit 0), [(2, .hole (.int .u64))], []⟩] (.seq .leaf (.seq (.cond .leaf .leaf) (.seq (.block (.seq .leaf
 .leaf)) .leaf)))))) (.seq .leaf .leaf)))
noncomputable def Ld.f41F:List Int→Option (Int):=fun(x:List Int)=>Option.bind (iter (fun(s1:Int×Int)=>if decide (s1.2<(x.length:Int))=true then if(0:Int)≤s1.2∧s1.2<(x.length:Int) then if List.getD x
 (Int.toNat s1.2) (0:Int)<(0:Int) then none else some (Sum.inl (IntKind.wrap IntKind.u64 (↑(BitVec.toNat (BitVec.ofInt (IntKind.bits IntKind.u64) s1.1 ||| BitVec.ofInt (IntKind.bits IntKind.u64) (IntKind.wrap IntKind.u64 ((1:Int)*
 (2:Int) ^ Min.min (Int.toNat (List.getD x (Int.toNat s1.2) (0:Int))) (IntKind.bits IntKind.u64))))):Int),IntKind.i64.wrap (s1.2+(1:Int)))) else none else some (Sum.inr s1.1)) ((0:Int),(0:Int))) fun v1=>some v1
theorem Ld.f41eq: ∀ x,zl Ld.C Ld.f41Γ Ld.f41sig Ld.f41ann Go.Proofs.Tryd.f41 x=Ld.f41F x:=by
 intro x
 kernel_rfl
noncomputable def Ld.f41con:Con:=⟨41,Ld.f41sig,Ld.f41F⟩
theorem Ld.f41ok:Con.Ok Go.Proofs.Tryd.prog Ld.C Ld.f41con:=
 zb (Γ:=Ld.f41Γ) (an:=Ld.f41ann) ⟨Ld.Cok,(fun _ h=>nomatch h),Ld.mixed⟩ Go.Proofs.Tryd.func41 rfl rfl (fun x y h=>(Ld.f41eq x).trans h) (by decide)
def Ld.f40sig:Sig:=⟨⟨[.hole (.int .i64), .hole (.int .u64)], []⟩,⟨[.hole .bool], []⟩⟩
noncomputable def Ld.f40Γ:List Con:= []
def Ld.f40ann:Ann:=(.seq .leaf (.seq .leaf .leaf))
noncomputable def Ld.f40F:Int×Int→Option (Bool):=fun(x:Int×Int)=>if decide (x.1≥(0:Int))=true then if decide (x.1≤(22:Int))=true then if x.1<(0:Int) then none else some (IntKind.wrap IntKind.u64
 (↑(BitVec.toNat (BitVec.ofInt (IntKind.bits IntKind.u64) (Int.fdiv x.2 ((2:Int) ^ Min.min (Int.toNat x.1) (IntKind.bits IntKind.u64))) &&& BitVec.ofInt (IntKind.bits IntKind.u64) (1:Int))):Int)==(1:Int)) else some false else some
 false
theorem Ld.f40eq: ∀ x,zl Ld.C Ld.f40Γ Ld.f40sig Ld.f40ann Go.Proofs.Tryd.f40 x=Ld.f40F x:=by
 intro x
 kernel_rfl
noncomputable def Ld.f40con:Con:=⟨40,Ld.f40sig,Ld.f40F⟩
theorem Ld.f40ok:Con.Ok Go.Proofs.Tryd.prog Ld.C Ld.f40con:=
 zb (Γ:=Ld.f40Γ) (an:=Ld.f40ann) ⟨Ld.Cok,(fun _ h=>nomatch h),Ld.mixed⟩ Go.Proofs.Tryd.func40 rfl rfl (fun x y h=>(Ld.f40eq x).trans h) (by decide)
def Ld.f27sig:Sig:=⟨⟨[.hole (.int .i64)], []⟩,⟨[.hole .bool], []⟩⟩
noncomputable def Ld.f27Γ:List Con:= [Ld.f41con,Ld.f40con]
def Ld.f27ann:Ann:=(.seq .leaf (.seq .leaf .leaf))
noncomputable def Ld.f27F:Int→Option (Bool):=fun(x:Int)=>Option.bind (Ld.f41F [(19:Int),(20:Int),(21:Int)]) fun v1=>Option.bind (Ld.f40F (x,v1)) fun v2=>some v2
theorem Ld.f27eq: ∀ x,zl Ld.C Ld.f27Γ Ld.f27sig Ld.f27ann Go.Proofs.Tryd.f27 x=Ld.f27F x:=by
 intro x
 kernel_rfl
noncomputable def Ld.f27con:Con:=⟨27,Ld.f27sig,Ld.f27F⟩
theorem Ld.f27ok:Con.Ok Go.Proofs.Tryd.prog Ld.C Ld.f27con:=
 zb (Γ:=Ld.f27Γ) (an:=Ld.f27ann) ⟨Ld.Cok,(List.forall_mem_cons.2 ⟨Ld.f41ok,(List.forall_mem_cons.2 ⟨Ld.f40ok,(fun _ h=>nomatch h)⟩)⟩),Ld.mixed⟩ Go.Proofs.Tryd.func27 rfl rfl (fun x y h=>(Ld.f27eq x).trans h) (by decide)
def Ld.f25sig:Sig:=⟨⟨[.hole (.sl (.int .i64))], []⟩,⟨[.hole (.sl (.int .i64))], []⟩⟩
noncomputable def Ld.f25Γ:List Con:= [Ld.f27con]
def Ld.f25ann:Ann:=(.seq .leaf (.seq .leaf (.seq .leaf (.seq (.seq .leaf (.block (.loop ⟨.normal, [(4, .own 1),(13, .hole (.int .i64))], [.arr 3 (.int .i64), .arr 3 (.int .i64)]⟩ [⟨(.exit 0), [], [.arr 3 (.int .i64)]⟩] (.seq .leaf
 (.seq (.cond .leaf .leaf) (.seq (.block (.seq .leaf (.seq .leaf (.block (.seq .leaf (.cond .leaf (.seq .leaf (.cond .leaf (.seq (.join [⟨.normal, [(31, .hole .bool)], [.arr 3 (.int .i64), .arr 3 (.int .i64)]⟩] .leaf) (.cond (.seq .leaf
 (.seq .leaf .leaf)) .leaf)))))))))) .leaf)))))) (.seq .leaf .leaf)))))
noncomputable def Ld.f25F:List Int→Option (List Int):=fun(x:List Int)=>if(0:Int)≤(x.length:Int)∧(x.length:Int)≤(x.length:Int)∧zk (Int.toNat (x.length:Int)) (8:Nat) then Option.bind (iter (fun(s1:Int×
 List Int×List Int)=>if decide (s1.1<(x.length:Int))=true then if(0:Int)≤s1.1∧s1.1<(x.length:Int) then if(0:Int)≤s1.1∧s1.1<(s1.2.1.length:Int) then if(List.getD x (Int.toNat s1.1) (0:Int)==(10:Int))=
 true then some (Sum.inl (IntKind.i64.wrap (s1.1+(1:Int)),List.set s1.2.1 (Int.toNat s1.1) (-1:Int), [])) else Option.bind (Ld.f27F (List.getD x (Int.toNat s1.1) (0:Int))) fun v2=>if v2=true then if zk (List.length s1.2.2+
 (1:Nat)) (8:Nat) then some (Sum.inl (IntKind.i64.wrap (s1.1+(1:Int)),List.set s1.2.1 (Int.toNat s1.1) (-1:Int),s1.2.2++ [s1.1])) else none else Option.bind (if(List.getD x (Int.toNat s1.1) (0:Int)==(22:Int))=true then
 some (decide ((s1.2.2.length:Int) > (0:Int)),List.set s1.2.1 (Int.toNat s1.1) (-1:Int),s1.2.2) else some (false,List.set s1.2.1 (Int.toNat s1.1) (-1:Int),s1.2.2)) fun(v3:Bool×List Int×List Int)=>if v3.1=true then if
 (0:Int)≤IntKind.i64.wrap ((v3.2.2.length:Int) - (1:Int))∧IntKind.i64.wrap ((v3.2.2.length:Int) - (1:Int))<(v3.2.2.length:Int) then if(0:Int)≤IntKind.i64.wrap ((v3.2.2.length:Int) - (1:Int))∧IntKind.i64.wrap
 ((v3.2.2.length:Int) - (1:Int))≤(v3.2.2.length:Int) then if(0:Int)≤s1.1∧s1.1<(v3.2.1.length:Int) then if(0:Int)≤List.getD v3.2.2 (Int.toNat (IntKind.i64.wrap ((v3.2.2.length:Int) - (1:Int)))) (0:Int)∧
 List.getD v3.2.2 (Int.toNat (IntKind.i64.wrap ((v3.2.2.length:Int) - (1:Int)))) (0:Int)<(↑(List.length (List.set v3.2.1 (Int.toNat s1.1) (List.getD v3.2.2 (Int.toNat (IntKind.i64.wrap ((v3.2.2.length:Int) - (1:Int)))) (0:
 Int)))):Int) then some (Sum.inl (IntKind.i64.wrap (s1.1+(1:Int)),List.set (List.set v3.2.1 (Int.toNat s1.1) (List.getD v3.2.2 (Int.toNat (IntKind.i64.wrap ((v3.2.2.length:Int) - (1:Int)))) (0:Int))) (Int.toNat (List.getD v3.2.2
 (Int.toNat (IntKind.i64.wrap ((v3.2.2.length:Int) - (1:Int)))) (0:Int))) s1.1,List.take (Int.toNat (IntKind.i64.wrap ((v3.2.2.length:Int) - (1:Int)))) v3.2.2)) else none else none else none else none else some (Sum.inl
 (IntKind.i64.wrap (s1.1+(1:Int)),v3.2.1,v3.2.2)) else none else none else some (Sum.inr s1.2.1)) ((0:Int),List.replicate (Int.toNat (x.length:Int)) (0:Int), [])) fun(v1:List Int)=>some v1 else none
theorem Ld.f25eq: ∀ x,zl Ld.C Ld.f25Γ Ld.f25sig Ld.f25ann Go.Proofs.Tryd.f25 x=Ld.f25F x:=by
 intro x
 kernel_rfl
noncomputable def Ld.f25con:Con:=⟨25,Ld.f25sig,Ld.f25F⟩
theorem Ld.f25ok:Con.Ok Go.Proofs.Tryd.prog Ld.C Ld.f25con:=
 zb (Γ:=Ld.f25Γ) (an:=Ld.f25ann) ⟨Ld.Cok,(List.forall_mem_cons.2 ⟨Ld.f27ok,(fun _ h=>nomatch h)⟩),Ld.mixed⟩ Go.Proofs.Tryd.func25 rfl rfl (fun x y h=>(Ld.f25eq x).trans h) (by decide)
def Ld.f62sig:Sig:=⟨⟨[.hole (.int .i64)], []⟩,⟨[.hole .str], []⟩⟩
noncomputable def Ld.f62Γ:List Con:= []
def Ld.f62ann:Ann:=(.seq .leaf (.seq (.seq (.join [⟨.normal, [(8, .hole .bool)], []⟩] .leaf) (.cond (.seq .leaf .leaf) .leaf)) (.seq .leaf .leaf)))
noncomputable def Ld.f62F:Int→Option (ByteArray):=fun(x:Int)=>Option.bind (if decide (x<(0:Int))=true then some true else some (decide (x≥(23:Int)))) fun v1=>if v1=true then some { data:= #[]:ByteArray} else if
 (0:Int)≤x∧x<(↑(23:Nat):Int) then some (List.getD Ld.words (Int.toNat x) ByteArray.empty) else none
theorem Ld.f62eq: ∀ x,zl Ld.C Ld.f62Γ Ld.f62sig Ld.f62ann Go.Proofs.Tryd.f62 x=Ld.f62F x:=by
 intro x
 kernel_rfl
noncomputable def Ld.f62con:Con:=⟨62,Ld.f62sig,Ld.f62F⟩
theorem Ld.f62ok:Con.Ok Go.Proofs.Tryd.prog Ld.C Ld.f62con:=
 zb (Γ:=Ld.f62Γ) (an:=Ld.f62ann) ⟨Ld.Cok,(fun _ h=>nomatch h),Ld.mixed⟩ Go.Proofs.Tryd.func62 rfl rfl (fun x y h=>(Ld.f62eq x).trans h) (by decide)
def Ld.f53sig:Sig:=⟨⟨[.hole (.int .i64)], []⟩,⟨[.hole (.int .i64)], []⟩⟩
noncomputable def Ld.f53Γ:List Con:= [Ld.f62con]
def Ld.f53ann:Ann:=(.seq .leaf (.seq (.block (.seq (.join [⟨.normal, [(3, .hole .bool)], []⟩] .leaf) (.cond (.seq .leaf .leaf) (.seq (.join [⟨.normal, [(10, .hole .bool)], []⟩] .leaf) (.cond (.seq .leaf .leaf) .leaf))))) (.seq .leaf
 .leaf)))
noncomputable def Ld.f53F:Int→Option (Int):=fun(x:Int)=>Option.bind (if(x==(1:Int))=true then some true else some (x==(2:Int))) fun v1=>if v1=true then some (1:Int) else Option.bind (if(x==(0:Int))=true
 then some true else Option.bind (Ld.f62F x) fun v2=>some (ByteArray.toList v2==ByteArray.toList { data:= #[]:ByteArray})) fun v2=>if v2=true then some (0:Int) else some (-1:Int)
theorem Ld.f53eq: ∀ x,zl Ld.C Ld.f53Γ Ld.f53sig Ld.f53ann Go.Proofs.Tryd.f53 x=Ld.f53F x:=by
 intro x
 kernel_rfl
noncomputable def Ld.f53con:Con:=⟨53,Ld.f53sig,Ld.f53F⟩
theorem Ld.f53ok:Con.Ok Go.Proofs.Tryd.prog Ld.C Ld.f53con:=
 zb (Γ:=Ld.f53Γ) (an:=Ld.f53ann) ⟨Ld.Cok,(List.forall_mem_cons.2 ⟨Ld.f62ok,(fun _ h=>nomatch h)⟩),Ld.mixed⟩ Go.Proofs.Tryd.func53 rfl rfl (fun x y h=>(Ld.f53eq x).trans h) (by decide)
def Ld.f37sig:Sig:=⟨⟨[.hole (.sl (.int .i64)), .hole (.sl (.int .i64)), .hole (.int .i64), .hole (.int .i64)], []⟩,⟨[.hole (.int .i64)], []⟩⟩
noncomputable def Ld.f37Γ:List Con:= [Ld.f27con,Ld.f53con]
def Ld.f37ann:Ann:=(.seq .leaf (.seq .leaf (.seq (.seq .leaf (.block (.loop ⟨.normal, [(9, .hole (.int .i64))], []⟩ [⟨(.exit 0), [], []⟩,⟨.ret, [(8, .hole (.int .i64))], []⟩] (.seq (.seq (.join [⟨.normal, [(26, .hole .bool)], []⟩]
 .leaf) (.cond .leaf .leaf)) (.seq (.block (.seq (.seq .leaf (.cond (.seq (.seq .leaf (.seq .leaf (.cond (.seq .leaf .leaf) .leaf))) .leaf) .leaf)) (.seq .leaf (.seq .leaf (.cond (.seq .leaf .leaf) .leaf))))) .leaf))))) (.seq .leaf
 .leaf))))
noncomputable def Ld.f37F:List Int×List Int×Int×Int→Option (Int):=fun(x:List Int×List Int×Int×Int)=>Option.bind (iter (fun(s1:Int)=>Option.bind (if decide (s1<zgf x.2.2.2 (x.1.length:Int))=true then if(0
 :Int)≤s1∧s1<(x.1.length:Int) then some (List.getD x.1 (Int.toNat s1) (0:Int)!=(10:Int)) else none else some false) fun v2=>if v2=true then if(0:Int)≤s1∧s1<(x.1.length:Int) then Option.bind (Ld.f27F (List.getD
 x.1 (Int.toNat s1) (0:Int))) fun v3=>if v3=true then if(0:Int)≤s1∧s1<(x.2.1.length:Int) then if(List.getD x.2.1 (Int.toNat s1) (0:Int)==(-1:Int))=true then some (Sum.inr (Sum.inr (-1:Int))) else some (Sum.inl
 (IntKind.i64.wrap (List.getD x.2.1 (Int.toNat s1) (0:Int)+(1:Int)))) else none else if(0:Int)≤s1∧s1<(x.1.length:Int) then Option.bind (Ld.f53F (List.getD x.1 (Int.toNat s1) (0:Int))) fun v4=>if(v4 !=(-1:Int))=true
 then some (Sum.inr (Sum.inr v4)) else some (Sum.inl (IntKind.i64.wrap (s1+(1:Int)))) else none else none else some (Sum.inr (Sum.inl ()))) (zll (0:Int) x.2.2.1)) fun v1=>Sum.elim (fun(p2:PUnit)=>some (-1:Int)) (fun(q2:
 Int)=>some q2) v1
theorem Ld.f37eq: ∀ x,zl Ld.C Ld.f37Γ Ld.f37sig Ld.f37ann Go.Proofs.Tryd.f37 x=Ld.f37F x:=by
 intro x
 kernel_rfl
noncomputable def Ld.f37con:Con:=⟨37,Ld.f37sig,Ld.f37F⟩
theorem Ld.f37ok:Con.Ok Go.Proofs.Tryd.prog Ld.C Ld.f37con:=
 zb (Γ:=Ld.f37Γ) (an:=Ld.f37ann) ⟨Ld.Cok,(List.forall_mem_cons.2 ⟨Ld.f27ok,(List.forall_mem_cons.2 ⟨Ld.f53ok,(fun _ h=>nomatch h)⟩)⟩),Ld.mixed⟩ Go.Proofs.Tryd.func37 rfl rfl (fun x y h=>(Ld.f37eq x).trans h) (by decide)
def Ld.f22sig:Sig:=⟨⟨[.hole (.sl (.int .i64)), .hole (.int .i64), .hole (.int .i64)], []⟩,⟨[.hole (.int .i64)], []⟩⟩
noncomputable def Ld.f22Γ:List Con:= [Ld.f25con,Ld.f37con]
def Ld.f22ann:Ann:=(.seq .leaf (.seq .leaf .leaf))
noncomputable def Ld.f22F:List Int×Int×Int→Option (Int):=fun(x:List Int×Int×Int)=>Option.bind (Ld.f25F x.1) fun(v1:List Int)=>Option.bind (Ld.f37F (x.1,v1,x.2.1,x.2.2)) fun v2=>some v2
theorem Ld.f22eq: ∀ x,zl Ld.C Ld.f22Γ Ld.f22sig Ld.f22ann Go.Proofs.Tryd.f22 x=Ld.f22F x:=by
 intro x
 kernel_rfl
noncomputable def Ld.f22con:Con:=⟨22,Ld.f22sig,Ld.f22F⟩
theorem Ld.f22ok:Con.Ok Go.Proofs.Tryd.prog Ld.C Ld.f22con:=
 zb (Γ:=Ld.f22Γ) (an:=Ld.f22ann) ⟨Ld.Cok,(List.forall_mem_cons.2 ⟨Ld.f25ok,(List.forall_mem_cons.2 ⟨Ld.f37ok,(fun _ h=>nomatch h)⟩)⟩),Ld.mixed⟩ Go.Proofs.Tryd.func22 rfl rfl (fun x y h=>(Ld.f22eq x).trans h) (by decide)
def Ld.f15sig:Sig:=⟨⟨[.hole (.sl (.int .i64)), .hole (.int .i64)], []⟩,⟨[.hole (.int .i64)], []⟩⟩
noncomputable def Ld.f15Γ:List Con:= [Ld.f22con]
def Ld.f15ann:Ann:=(.seq .leaf (.seq (.seq (.join [⟨.normal, [(10, .hole .bool)], []⟩] .leaf) (.cond (.seq .leaf .leaf) .leaf)) (.seq .leaf .leaf)))
noncomputable def Ld.f15F:List Int×Int→Option (Int):=fun(x:List Int×Int)=>Option.bind (if(x.2==(1:Int))=true then some true else some (x.2==(2:Int))) fun v1=>if v1=true then some (IntKind.i64.wrap (x.2 - (1:
 Int))) else Option.bind (Ld.f22F (x.1,(0:Int),(x.1.length:Int))) fun v2=>some (zll (0:Int) v2)
theorem Ld.f15eq: ∀ x,zl Ld.C Ld.f15Γ Ld.f15sig Ld.f15ann Go.Proofs.Tryd.f15 x=Ld.f15F x:=by
 intro x
 kernel_rfl
noncomputable def Ld.f15con:Con:=⟨15,Ld.f15sig,Ld.f15F⟩
theorem Ld.f15ok:Con.Ok Go.Proofs.Tryd.prog Ld.C Ld.f15con:=
 zb (Γ:=Ld.f15Γ) (an:=Ld.f15ann) ⟨Ld.Cok,(List.forall_mem_cons.2 ⟨Ld.f22ok,(fun _ h=>nomatch h)⟩),Ld.mixed⟩ Go.Proofs.Tryd.func15 rfl rfl (fun x y h=>(Ld.f15eq x).trans h) (by decide)
def Ld.f38sig:Sig:=⟨⟨[.ptr 0 0], [.cells [.hole (.int .i64), .own 1, .hole (.int .i64), .hole (.int .i64), .hole (.int .i64), .hole (.int .i64), .own 2, .own 3], .arr 92 (.st (.pair (.int .i64) (.pair (.int .i64) .bool))), .arr 3 (.int
 .i64), .arr 3 (.int .i64)]⟩,⟨[], [.cells [.hole (.int .i64), .own 4, .hole (.int .i64), .hole (.int .i64), .hole (.int .i64), .hole (.int .i64), .own 5, .own 6], .gone, .gone, .gone, .arr 92 (.st (.pair (.int .i64) (.pair (.int .i64)
 .bool))), .arr 3 (.int .i64), .arr 3 (.int .i64)]⟩⟩
noncomputable def Ld.f38Γ:List Con:= []
def Ld.f38ann:Ann:=(.seq (.eff 6 [] [0,0,2,6,14,30,0,64,192,448,960,1984,4094,8191,16383,32767]) (.seq .leaf .leaf))
noncomputable def Ld.f38F:Int×Int×Int×Int×Int×List (Int×Int×Bool)×List Int×List Int→Option (Int×Int×Int×Int×Int×List (Int×Int×Bool)×List Int×List Int):=fun(x:Int×Int×Int×Int×Int×List
 (Int×Int×Bool)×List Int×List Int)=>if(0:Int)≤(0:Int)∧(0:Int)≤(x.2.2.2.2.2.1.length:Int) then if zk (Int.toNat (0:Int)+(1:Nat)) (24:Nat) then some (x.1,(0:Int),(0:Int),(0:Int),zll x.2.2.2.2.1
 (1:Int),List.take (Int.toNat (0:Int)) x.2.2.2.2.2.1++ [(x.1,(-1:Int),false)],x.2.2.2.2.2.2.1,x.2.2.2.2.2.2.2) else none else none
theorem Ld.f38eq: ∀ x,zl Ld.C Ld.f38Γ Ld.f38sig Ld.f38ann Go.Proofs.Tryd.f38 x=Ld.f38F x:=by
 intro x
 kernel_rfl
noncomputable def Ld.f38con:Con:=⟨38,Ld.f38sig,Ld.f38F⟩
theorem Ld.f38ok:Con.Ok Go.Proofs.Tryd.prog Ld.C Ld.f38con:=
 zb (Γ:=Ld.f38Γ) (an:=Ld.f38ann) ⟨Ld.Cok,(fun _ h=>nomatch h),Ld.mixed⟩ Go.Proofs.Tryd.func38 rfl rfl (fun x y h=>(Ld.f38eq x).trans h) (by decide)
def Ld.f55sig:Sig:=⟨⟨[.ro (.st (.pair (.int .i64) (.pair (.sl (.st (.pair (.int .i64) (.pair (.int .i64) .bool)))) (.pair (.int .i64) (.pair (.int .i64) (.pair (.int .i64) (.pair (.int .i64) (.pair (.sl (.int .i64)) (.sl (.int
 .i64))))))))))], []⟩,⟨[.hole (.st (.pair (.int .i64) (.pair (.int .i64) .bool)))], []⟩⟩
noncomputable def Ld.f55Γ:List Con:= []
def Ld.f55ann:Ann:=(.seq .leaf (.seq (.tail 12) .leaf))
noncomputable def Ld.f55F:Int×List (Int×Int×Bool)×Int×Int×Int×Int×List Int×List Int→Option (Int×Int×Bool):=fun(x:Int×List (Int×Int×Bool)×Int×Int×Int×Int×List Int×List Int)=>if(0:Int)≤
 IntKind.i64.wrap ((x.2.1.length:Int) - (1:Int))∧IntKind.i64.wrap ((x.2.1.length:Int) - (1:Int))<(x.2.1.length:Int) then some ((List.getD x.2.1 (Int.toNat (IntKind.i64.wrap ((x.2.1.length:Int) - (1:Int)))) ((0:Int),(0:
 Int),false)).1,(List.getD x.2.1 (Int.toNat (IntKind.i64.wrap ((x.2.1.length:Int) - (1:Int)))) ((0:Int),(0:Int),false)).2.1,(List.getD x.2.1 (Int.toNat (IntKind.i64.wrap ((x.2.1.length:Int) - (1:Int)))) ((0:Int),(0:
 Int),false)).2.2) else none
theorem Ld.f55eq: ∀ x,zl Ld.C Ld.f55Γ Ld.f55sig Ld.f55ann Go.Proofs.Tryd.f55 x=Ld.f55F x:=by
 intro x
 kernel_rfl
noncomputable def Ld.f55con:Con:=⟨55,Ld.f55sig,Ld.f55F⟩
theorem Ld.f55ok:Con.Ok Go.Proofs.Tryd.prog Ld.C Ld.f55con:=
 zb (Γ:=Ld.f55Γ) (an:=Ld.f55ann) ⟨Ld.Cok,(fun _ h=>nomatch h),Ld.mixed⟩ Go.Proofs.Tryd.func55 rfl rfl (fun x y h=>(Ld.f55eq x).trans h) (by decide)
def Ld.f54sig:Sig:=⟨⟨[.ptr 0 0, .hole (.int .i64), .hole (.int .i64)], [.cells [.hole (.int .i64), .own 1, .hole (.int .i64), .hole (.int .i64), .hole (.int .i64), .hole (.int .i64), .own 2, .own 3], .arr 92 (.st (.pair (.int .i64)
 (.pair (.int .i64) .bool))), .arr 3 (.int .i64), .arr 3 (.int .i64)]⟩,⟨[], [.cells [.hole (.int .i64), .own 4, .hole (.int .i64), .hole (.int .i64), .hole (.int .i64), .hole (.int .i64), .own 5, .own 6], .gone, .gone, .gone, .arr 92 (.st
 (.pair (.int .i64) (.pair (.int .i64) .bool))), .arr 3 (.int .i64), .arr 3 (.int .i64)]⟩⟩
noncomputable def Ld.f54Γ:List Con:= []
def Ld.f54ann:Ann:=(.eff 7 [14] [0,0,0,4,12,28,0,64,252,0,512,1536,3584,0,8192,32764,65533,131069,262141,524287,1048575,2097151])
noncomputable def Ld.f54F:Int×Int×Int×Int×Int×Int×Int×List (Int×Int×Bool)×List Int×List Int→Option (Int×Int×Int×Int×Int×List (Int×Int×Bool)×List Int×List Int):=fun(x:Int×Int×Int×Int×
 Int×Int×Int×List (Int×Int×Bool)×List Int×List Int)=>if zk (List.length x.2.2.2.2.2.2.2.2.1+(1:Nat)) (8:Nat) then if zk (List.length x.2.2.2.2.2.2.2.2.2+(1:Nat)) (8:Nat) then some (x.2.2.1,x.2.2.2.1,
 x.2.2.2.2.1,x.2.2.2.2.2.1,x.2.2.2.2.2.2.1,x.2.2.2.2.2.2.2.1,x.2.2.2.2.2.2.2.2.1++ [x.1],x.2.2.2.2.2.2.2.2.2++ [x.2.1]) else none else none
theorem Ld.f54eq: ∀ x,zl Ld.C Ld.f54Γ Ld.f54sig Ld.f54ann Go.Proofs.Tryd.f54 x=Ld.f54F x:=by
 intro x
 kernel_rfl
noncomputable def Ld.f54con:Con:=⟨54,Ld.f54sig,Ld.f54F⟩
theorem Ld.f54ok:Con.Ok Go.Proofs.Tryd.prog Ld.C Ld.f54con:=
 zb (Γ:=Ld.f54Γ) (an:=Ld.f54ann) ⟨Ld.Cok,(fun _ h=>nomatch h),Ld.mixed⟩ Go.Proofs.Tryd.func54 rfl rfl (fun x y h=>(Ld.f54eq x).trans h) (by decide)
def Ld.f77sig:Sig:=⟨⟨[.hole (.int .i64), .hole (.int .i64)], []⟩,⟨[.hole (.int .i64)], []⟩⟩
noncomputable def Ld.f77Γ:List Con:= []
def Ld.f77ann:Ann:=(.seq .leaf (.seq (.seq (.join [⟨.normal, [(10, .hole .bool)], []⟩] .leaf) (.cond (.seq .leaf .leaf) .leaf)) (.seq (.seq .leaf (.cond (.seq .leaf .leaf) .leaf)) (.seq .leaf .leaf))))
noncomputable def Ld.f77F:Int×Int→Option (Int):=fun(x:Int×Int)=>Option.bind (if decide (x.1<(0:Int))=true then some true else some (decide (x.1 > (125:Int)))) fun v1=>if v1=true then some (-1:Int) else if(x.2
 ==(1:Int))=true then some (IntKind.i64.wrap (↑(BitVec.toNat (BitVec.ofInt (IntKind.bits IntKind.i64) (IntKind.i64.wrap (x.1+(1:Int))) ||| BitVec.ofInt (IntKind.bits IntKind.i64) (1:Int))):Int)) else some (IntKind.i64.wrap
 (↑(BitVec.toNat (BitVec.ofInt (IntKind.bits IntKind.i64) (IntKind.i64.wrap (x.1+(2:Int))) &&& ~~~BitVec.ofInt (IntKind.bits IntKind.i64) (1:Int))):Int))
theorem Ld.f77eq: ∀ x,zl Ld.C Ld.f77Γ Ld.f77sig Ld.f77ann Go.Proofs.Tryd.f77 x=Ld.f77F x:=by
 intro x
 kernel_rfl
noncomputable def Ld.f77con:Con:=⟨77,Ld.f77sig,Ld.f77F⟩
theorem Ld.f77ok:Con.Ok Go.Proofs.Tryd.prog Ld.C Ld.f77con:=
 zb (Γ:=Ld.f77Γ) (an:=Ld.f77ann) ⟨Ld.Cok,(fun _ h=>nomatch h),Ld.mixed⟩ Go.Proofs.Tryd.func77 rfl rfl (fun x y h=>(Ld.f77eq x).trans h) (by decide)
def Ld.f76sig:Sig:=⟨⟨[.ptr 0 0, .hole (.st (.pair (.int .i64) (.pair (.int .i64) .bool)))], [.cells [.hole (.int .i64), .own 1, .hole (.int .i64), .hole (.int .i64), .hole (.int .i64), .hole (.int .i64), .own 2, .own 3], .arr 92 (.st
 (.pair (.int .i64) (.pair (.int .i64) .bool))), .arr 3 (.int .i64), .arr 3 (.int .i64)]⟩,⟨[.hole .bool], [.cells [.hole (.int .i64), .own 4, .hole (.int .i64), .hole (.int .i64), .hole (.int .i64), .hole (.int .i64), .own 5, .own 6],
 .gone, .gone, .gone, .arr 92 (.st (.pair (.int .i64) (.pair (.int .i64) .bool))), .arr 3 (.int .i64), .arr 3 (.int .i64)]⟩⟩
noncomputable def Ld.f76Γ:List Con:= []
def Ld.f76ann:Ann:=(.seq .leaf (.seq (.seq (.join [⟨.normal, [(21, .hole .bool)], [.cells [.hole (.int .i64), .own 1, .hole (.int .i64), .hole (.int .i64), .hole (.int .i64), .hole (.int .i64), .own 2, .own 3], .arr 92 (.st (.pair (.int
 .i64) (.pair (.int .i64) .bool))), .arr 3 (.int .i64), .arr 3 (.int .i64), .cells [.hole (.int .i64), .hole (.int .i64), .hole .bool]]⟩] .leaf) (.cond (.seq .leaf .leaf) .leaf)) (.seq (.eff 7 [] [0,0,2,6,14,0,32,126,255,511,1023])
 (.seq (.tail 13) (.seq .leaf .leaf)))))
noncomputable def Ld.f76F:(Int×Int×Bool)×Int×Int×Int×Int×Int×List (Int×Int×Bool)×List Int×List Int→Option (Bool×Int×Int×Int×Int×Int×List (Int×Int×Bool)×List Int×List Int):=fun(x:(Int×
 Int×Bool)×Int×Int×Int×Int×Int×List (Int×Int×Bool)×List Int×List Int)=>Option.bind (if decide (x.1.1 > (125:Int))=true then some (true,x.2.1,x.2.2.1,x.2.2.2.1,x.2.2.2.2.1,x.2.2.2.2.2.1,x.2.2.2.2.2.2.1,
 x.2.2.2.2.2.2.2.1,x.2.2.2.2.2.2.2.2,x.1.1,x.1.2.1,x.1.2.2) else if decide (x.2.2.1 > (0:Int))=true then some (true,x.2.1,x.2.2.1,x.2.2.2.1,x.2.2.2.2.1,x.2.2.2.2.2.1,x.2.2.2.2.2.2.1,x.2.2.2.2.2.2.2.1,x.2.2.2.2.2.2.2.2,x.1.1,
 x.1.2.1,x.1.2.2) else some (decide (x.2.2.2.1 > (0:Int)),x.2.1,x.2.2.1,x.2.2.2.1,x.2.2.2.2.1,x.2.2.2.2.2.1,x.2.2.2.2.2.2.1,x.2.2.2.2.2.2.2.1,x.2.2.2.2.2.2.2.2,x.1.1,x.1.2.1,x.1.2.2)) fun(v1:Bool×Int×Int×Int×Int×
 Int×List (Int×Int×Bool)×List Int×List Int×Int×Int×Bool)=>if v1.1=true then some (false,v1.2.1,v1.2.2.1,v1.2.2.2.1,v1.2.2.2.2.1,v1.2.2.2.2.2.1,v1.2.2.2.2.2.2.1,v1.2.2.2.2.2.2.2.1,v1.2.2.2.2.2.2.2.2.1) else if
 zk (List.length v1.2.2.2.2.2.2.1+(1:Nat)) (24:Nat) then some (true,v1.2.1,v1.2.2.1,v1.2.2.2.1,v1.2.2.2.2.1,zll v1.2.2.2.2.2.1 (↑(List.length (v1.2.2.2.2.2.2.1++ [(v1.2.2.2.2.2.2.2.2.2.1,v1.2.2.2.2.2.2.2.2.2.2.1,
 v1.2.2.2.2.2.2.2.2.2.2.2)])):Int),v1.2.2.2.2.2.2.1++ [(v1.2.2.2.2.2.2.2.2.2.1,v1.2.2.2.2.2.2.2.2.2.2.1,v1.2.2.2.2.2.2.2.2.2.2.2)],v1.2.2.2.2.2.2.2.1,v1.2.2.2.2.2.2.2.2.1) else none
theorem Ld.f76eq: ∀ x,zl Ld.C Ld.f76Γ Ld.f76sig Ld.f76ann Go.Proofs.Tryd.f76 x=Ld.f76F x:=by
 intro x
 kernel_rfl
noncomputable def Ld.f76con:Con:=⟨76,Ld.f76sig,Ld.f76F⟩
theorem Ld.f76ok:Con.Ok Go.Proofs.Tryd.prog Ld.C Ld.f76con:=
 zb (Γ:=Ld.f76Γ) (an:=Ld.f76ann) ⟨Ld.Cok,(fun _ h=>nomatch h),Ld.mixed⟩ Go.Proofs.Tryd.func76 rfl rfl (fun x y h=>(Ld.f76eq x).trans h) (by decide)
def Ld.f56sig:Sig:=⟨⟨[.ptr 0 0, .hole (.int .i64), .hole (.int .i64)], [.cells [.hole (.int .i64), .own 1, .hole (.int .i64), .hole (.int .i64), .hole (.int .i64), .hole (.int .i64), .own 2, .own 3], .arr 92 (.st (.pair (.int .i64)
 (.pair (.int .i64) .bool))), .arr 3 (.int .i64), .arr 3 (.int .i64)]⟩,⟨[], [.cells [.hole (.int .i64), .own 4, .hole (.int .i64), .hole (.int .i64), .hole (.int .i64), .hole (.int .i64), .own 5, .own 6], .gone, .gone, .gone, .arr 92 (.st
 (.pair (.int .i64) (.pair (.int .i64) .bool))), .arr 3 (.int .i64), .arr 3 (.int .i64)]⟩⟩
noncomputable def Ld.f56Γ:List Con:= [Ld.f55con,Ld.f77con,Ld.f76con]
def Ld.f56ann:Ann:=(.seq (.join [⟨.normal, [(22, .hole .bool)], [.cells [.hole (.int .i64), .own 4, .hole (.int .i64), .hole (.int .i64), .hole (.int .i64), .hole (.int .i64), .own 5, .own 6], .gone, .gone, .gone, .arr 92 (.st (.pair
 (.int .i64) (.pair (.int .i64) .bool))), .arr 3 (.int .i64), .arr 3 (.int .i64)]⟩] .leaf) (.cond .leaf .leaf))
noncomputable def Ld.f56F:Int×Int×Int×Int×Int×Int×Int×List (Int×Int×Bool)×List Int×List Int→Option (Int×Int×Int×Int×Int×List (Int×Int×Bool)×List Int×List Int):=fun(x:Int×Int×Int×Int×
 Int×Int×Int×List (Int×Int×Bool)×List Int×List Int)=>Option.bind (Option.bind (Ld.f55F (x.2.2.1,x.2.2.2.2.2.2.2.1,x.2.2.2.1,x.2.2.2.2.1,x.2.2.2.2.2.1,x.2.2.2.2.2.2.1,x.2.2.2.2.2.2.2.2.1,x.2.2.2.2.2.2.2.2.2)) fun v1=>
 Option.bind (Ld.f77F (v1.1,x.1)) fun v2=>Option.bind (Ld.f76F ((v2,x.2.1,false),x.2.2.1,x.2.2.2.1,x.2.2.2.2.1,x.2.2.2.2.2.1,x.2.2.2.2.2.2.1,x.2.2.2.2.2.2.2.1,x.2.2.2.2.2.2.2.2.1,x.2.2.2.2.2.2.2.2.2)) fun(v3:Bool×Int×Int
 ×Int×Int×Int×List (Int×Int×Bool)×List Int×List Int)=>if(!v3.1)=true then some (v3.2.2.1==(0:Int),v3.2.1,v3.2.2.1,v3.2.2.2.1,v3.2.2.2.2.1,v3.2.2.2.2.2.1,v3.2.2.2.2.2.2.1,v3.2.2.2.2.2.2.2.1,v3.2.2.2.2.2.2.2.2)
 else some (false,v3.2.1,v3.2.2.1,v3.2.2.2.1,v3.2.2.2.2.1,v3.2.2.2.2.2.1,v3.2.2.2.2.2.2.1,v3.2.2.2.2.2.2.2.1,v3.2.2.2.2.2.2.2.2)) fun(v1:Bool×Int×Int×Int×Int×Int×List (Int×Int×Bool)×List Int×List Int)=>if
 v1.1=true then some (v1.2.1,v1.2.2.1,IntKind.i64.wrap (v1.2.2.2.1+(1:Int)),v1.2.2.2.2.1,v1.2.2.2.2.2.1,v1.2.2.2.2.2.2.1,v1.2.2.2.2.2.2.2.1,v1.2.2.2.2.2.2.2.2) else some (v1.2.1,v1.2.2.1,v1.2.2.2.1,v1.2.2.2.2.1,
 v1.2.2.2.2.2.1,v1.2.2.2.2.2.2.1,v1.2.2.2.2.2.2.2.1,v1.2.2.2.2.2.2.2.2)
theorem Ld.f56eq: ∀ x,zl Ld.C Ld.f56Γ Ld.f56sig Ld.f56ann Go.Proofs.Tryd.f56 x=Ld.f56F x:=by
 intro x
 kernel_rfl
noncomputable def Ld.f56con:Con:=⟨56,Ld.f56sig,Ld.f56F⟩
theorem Ld.f56ok:Con.Ok Go.Proofs.Tryd.prog Ld.C Ld.f56con:=
 zb (Γ:=Ld.f56Γ) (an:=Ld.f56ann) ⟨Ld.Cok,(List.forall_mem_cons.2 ⟨Ld.f55ok,(List.forall_mem_cons.2 ⟨Ld.f77ok,(List.forall_mem_cons.2 ⟨Ld.f76ok,(fun _ h=>nomatch h)⟩)⟩)⟩),Ld.mixed⟩ Go.Proofs.Tryd.func56 rfl rfl (fun x y h=>(Ld.f56eq x).trans h) (by decide)
def Ld.f78sig:Sig:=⟨⟨[.ptr 0 0], [.cells [.hole (.int .i64), .own 1, .hole (.int .i64), .hole (.int .i64), .hole (.int .i64), .hole (.int .i64), .own 2, .own 3], .arr 92 (.st (.pair (.int .i64) (.pair (.int .i64) .bool))), .arr 3 (.int
 .i64), .arr 3 (.int .i64)]⟩,⟨[.hole (.st (.pair (.int .i64) (.pair (.int .i64) .bool)))], [.cells [.hole (.int .i64), .own 4, .hole (.int .i64), .hole (.int .i64), .hole (.int .i64), .hole (.int .i64), .own 5, .own 6], .gone, .gone, .gone,
 .arr 92 (.st (.pair (.int .i64) (.pair (.int .i64) .bool))), .arr 3 (.int .i64), .arr 3 (.int .i64)]⟩⟩
noncomputable def Ld.f78Γ:List Con:= [Ld.f55con]
def Ld.f78ann:Ann:=(.seq .leaf (.seq .leaf (.seq (.tail 14) (.seq .leaf .leaf))))
noncomputable def Ld.f78F:Int×Int×Int×Int×Int×List (Int×Int×Bool)×List Int×List Int→Option ((Int×Int×Bool)×Int×Int×Int×Int×Int×List (Int×Int×Bool)×List Int×List Int):=fun(x:Int×Int×Int
 ×Int×Int×List (Int×Int×Bool)×List Int×List Int)=>Option.bind (Ld.f55F (x.1,x.2.2.2.2.2.1,x.2.1,x.2.2.1,x.2.2.2.1,x.2.2.2.2.1,x.2.2.2.2.2.2.1,x.2.2.2.2.2.2.2)) fun v1=>if(0:Int)≤IntKind.i64.wrap
 ((x.2.2.2.2.2.1.length:Int) - (1:Int))∧IntKind.i64.wrap ((x.2.2.2.2.2.1.length:Int) - (1:Int))≤(x.2.2.2.2.2.1.length:Int) then some ((v1.1,v1.2.1,v1.2.2),x.1,x.2.1,x.2.2.1,x.2.2.2.1,x.2.2.2.2.1,List.take (Int.toNat
 (IntKind.i64.wrap ((x.2.2.2.2.2.1.length:Int) - (1:Int)))) x.2.2.2.2.2.1,x.2.2.2.2.2.2.1,x.2.2.2.2.2.2.2) else none
theorem Ld.f78eq: ∀ x,zl Ld.C Ld.f78Γ Ld.f78sig Ld.f78ann Go.Proofs.Tryd.f78 x=Ld.f78F x:=by
 intro x
 kernel_rfl
noncomputable def Ld.f78con:Con:=⟨78,Ld.f78sig,Ld.f78F⟩
theorem Ld.f78ok:Con.Ok Go.Proofs.Tryd.prog Ld.C Ld.f78con:=
 zb (Γ:=Ld.f78Γ) (an:=Ld.f78ann) ⟨Ld.Cok,(List.forall_mem_cons.2 ⟨Ld.f55ok,(fun _ h=>nomatch h)⟩),Ld.mixed⟩ Go.Proofs.Tryd.func78 rfl rfl (fun x y h=>(Ld.f78eq x).trans h) (by decide)
def Ld.f57sig:Sig:=⟨⟨[.ptr 0 0], [.cells [.hole (.int .i64), .own 1, .hole (.int .i64), .hole (.int .i64), .hole (.int .i64), .hole (.int .i64), .own 2, .own 3], .arr 92 (.st (.pair (.int .i64) (.pair (.int .i64) .bool))), .arr 3 (.int
 .i64), .arr 3 (.int .i64)]⟩,⟨[], [.cells [.hole (.int .i64), .own 4, .hole (.int .i64), .hole (.int .i64), .hole (.int .i64), .hole (.int .i64), .own 5, .own 6], .gone, .gone, .gone, .arr 92 (.st (.pair (.int .i64) (.pair (.int .i64)
 .bool))), .arr 3 (.int .i64), .arr 3 (.int .i64)]⟩⟩
noncomputable def Ld.f57Γ:List Con:= [Ld.f55con,Ld.f78con]
def Ld.f57ann:Ann:=(.block (.seq .leaf (.cond .leaf (.seq .leaf (.cond .leaf (.seq (.join [⟨.normal, [(21, .hole .bool)], [.cells [.hole (.int .i64), .own 1, .hole (.int .i64), .hole (.int .i64), .hole (.int .i64), .hole (.int .i64),
 .own 2, .own 3], .arr 92 (.st (.pair (.int .i64) (.pair (.int .i64) .bool))), .arr 3 (.int .i64), .arr 3 (.int .i64)]⟩] .leaf) (.cond .leaf .leaf)))))))
noncomputable def Ld.f57F:Int×Int×Int×Int×Int×List (Int×Int×Bool)×List Int×List Int→Option (Int×Int×Int×Int×Int×List (Int×Int×Bool)×List Int×List Int):=fun(x:Int×Int×Int×Int×Int×List
 (Int×Int×Bool)×List Int×List Int)=>if decide (x.2.1 > (0:Int))=true then some (x.1,x.2.1,x.2.2.1,x.2.2.2.1,x.2.2.2.2.1,x.2.2.2.2.2.1,x.2.2.2.2.2.2.1,x.2.2.2.2.2.2.2) else if decide (x.2.2.1 > (0:Int))=true then some
 (x.1,x.2.1,IntKind.i64.wrap (x.2.2.1 - (1:Int)),x.2.2.2.1,x.2.2.2.2.1,x.2.2.2.2.2.1,x.2.2.2.2.2.2.1,x.2.2.2.2.2.2.2) else Option.bind (if decide ((x.2.2.2.2.2.1.length:Int) > (1:Int))=true then Option.bind (Ld.f55F (x.1,
 x.2.2.2.2.2.1,x.2.1,x.2.2.1,x.2.2.2.1,x.2.2.2.2.1,x.2.2.2.2.2.2.1,x.2.2.2.2.2.2.2)) fun v1=>some (!v1.2.2,x.1,x.2.1,x.2.2.1,x.2.2.2.1,x.2.2.2.2.1,x.2.2.2.2.2.1,x.2.2.2.2.2.2.1,x.2.2.2.2.2.2.2) else some (false,x.1,x.2.1,
 x.2.2.1,x.2.2.2.1,x.2.2.2.2.1,x.2.2.2.2.2.1,x.2.2.2.2.2.2.1,x.2.2.2.2.2.2.2)) fun(v1:Bool×Int×Int×Int×Int×Int×List (Int×Int×Bool)×List Int×List Int)=>if v1.1=true then Option.bind (Ld.f78F (v1.2.1,v1.2.2.1,
 v1.2.2.2.1,v1.2.2.2.2.1,v1.2.2.2.2.2.1,v1.2.2.2.2.2.2.1,v1.2.2.2.2.2.2.2.1,v1.2.2.2.2.2.2.2.2)) fun(v2:(Int×Int×Bool)×Int×Int×Int×Int×Int×List (Int×Int×Bool)×List Int×List Int)=>some (v2.2.1,v2.2.2.1,
 v2.2.2.2.1,v2.2.2.2.2.1,v2.2.2.2.2.2.1,v2.2.2.2.2.2.2.1,v2.2.2.2.2.2.2.2.1,v2.2.2.2.2.2.2.2.2) else some (v1.2.1,v1.2.2.1,v1.2.2.2.1,v1.2.2.2.2.1,v1.2.2.2.2.2.1,v1.2.2.2.2.2.2.1,v1.2.2.2.2.2.2.2.1,v1.2.2.2.2.2.2.2.2)
theorem Ld.f57eq: ∀ x,zl Ld.C Ld.f57Γ Ld.f57sig Ld.f57ann Go.Proofs.Tryd.f57 x=Ld.f57F x:=by
 intro x
 kernel_rfl
noncomputable def Ld.f57con:Con:=⟨57,Ld.f57sig,Ld.f57F⟩
theorem Ld.f57ok:Con.Ok Go.Proofs.Tryd.prog Ld.C Ld.f57con:=
 zb (Γ:=Ld.f57Γ) (an:=Ld.f57ann) ⟨Ld.Cok,(List.forall_mem_cons.2 ⟨Ld.f55ok,(List.forall_mem_cons.2 ⟨Ld.f78ok,(fun _ h=>nomatch h)⟩)⟩),Ld.mixed⟩ Go.Proofs.Tryd.func57 rfl rfl (fun x y h=>(Ld.f57eq x).trans h) (by decide)
def Ld.f58sig:Sig:=⟨⟨[.ptr 0 0, .hole (.int .i64)], [.cells [.hole (.int .i64), .own 1, .hole (.int .i64), .hole (.int .i64), .hole (.int .i64), .hole (.int .i64), .own 2, .own 3], .arr 92 (.st (.pair (.int .i64) (.pair (.int .i64)
 .bool))), .arr 3 (.int .i64), .arr 3 (.int .i64)]⟩,⟨[], [.cells [.hole (.int .i64), .own 4, .hole (.int .i64), .hole (.int .i64), .hole (.int .i64), .hole (.int .i64), .own 5, .own 6], .gone, .gone, .gone, .arr 92 (.st (.pair (.int .i64)
 (.pair (.int .i64) .bool))), .arr 3 (.int .i64), .arr 3 (.int .i64)]⟩⟩
noncomputable def Ld.f58Γ:List Con:= [Ld.f55con,Ld.f54con]
def Ld.f58ann:Ann:=(.seq .leaf (.seq (.seq .leaf (.cond .leaf .leaf)) .leaf))
noncomputable def Ld.f58F:Int×Int×Int×Int×Int×Int×List (Int×Int×Bool)×List Int×List Int→Option (Int×Int×Int×Int×Int×List (Int×Int×Bool)×List Int×List Int):=fun(x:Int×Int×Int×Int×Int×
 Int×List (Int×Int×Bool)×List Int×List Int)=>Option.bind (Ld.f55F (x.2.1,x.2.2.2.2.2.2.1,x.2.2.1,x.2.2.2.1,x.2.2.2.2.1,x.2.2.2.2.2.1,x.2.2.2.2.2.2.2.1,x.2.2.2.2.2.2.2.2)) fun v1=>if(v1.2.1 !=(-1:Int))=true then
 Option.bind (Ld.f54F (v1.1,v1.2.1,x.2.1,x.2.2.1,x.2.2.2.1,x.2.2.2.2.1,x.2.2.2.2.2.1,x.2.2.2.2.2.2.1,x.2.2.2.2.2.2.2.1,x.2.2.2.2.2.2.2.2)) fun(v2:Int×Int×Int×Int×Int×List (Int×Int×Bool)×List Int×List Int)=>
 some (v2.1,v2.2.1,v2.2.2.1,v2.2.2.2.1,v2.2.2.2.2.1,v2.2.2.2.2.2.1,v2.2.2.2.2.2.2.1,v2.2.2.2.2.2.2.2) else Option.bind (Ld.f54F (v1.1,x.1,x.2.1,x.2.2.1,x.2.2.2.1,x.2.2.2.2.1,x.2.2.2.2.2.1,x.2.2.2.2.2.2.1,x.2.2.2.2.2.2.2.1,
 x.2.2.2.2.2.2.2.2)) fun(v2:Int×Int×Int×Int×Int×List (Int×Int×Bool)×List Int×List Int)=>some (v2.1,v2.2.1,v2.2.2.1,v2.2.2.2.1,v2.2.2.2.2.1,v2.2.2.2.2.2.1,v2.2.2.2.2.2.2.1,v2.2.2.2.2.2.2.2)
theorem Ld.f58eq: ∀ x,zl Ld.C Ld.f58Γ Ld.f58sig Ld.f58ann Go.Proofs.Tryd.f58 x=Ld.f58F x:=by
 intro x
 kernel_rfl
noncomputable def Ld.f58con:Con:=⟨58,Ld.f58sig,Ld.f58F⟩
theorem Ld.f58ok:Con.Ok Go.Proofs.Tryd.prog Ld.C Ld.f58con:=
 zb (Γ:=Ld.f58Γ) (an:=Ld.f58ann) ⟨Ld.Cok,(List.forall_mem_cons.2 ⟨Ld.f55ok,(List.forall_mem_cons.2 ⟨Ld.f54ok,(fun _ h=>nomatch h)⟩)⟩),Ld.mixed⟩ Go.Proofs.Tryd.func58 rfl rfl (fun x y h=>(Ld.f58eq x).trans h) (by decide)
def Ld.f60sig:Sig:=⟨⟨[.hole (.sl (.int .i64)), .hole (.int .i64)], []⟩,⟨[.hole (.int .i64)], []⟩⟩
noncomputable def Ld.f60Γ:List Con:= [Ld.f27con,Ld.f25con,Ld.f37con]
def Ld.f60ann:Ann:=(.seq .leaf (.seq (.seq (.join [⟨.normal, [(22, .hole .bool)], []⟩] .leaf) (.cond (.seq .leaf .leaf) .leaf)) (.seq (.seq .leaf (.cond (.seq .leaf .leaf) .leaf)) (.seq .leaf (.seq .leaf (.seq (.join [⟨.normal, [(6,
 .hole (.int .i64))], []⟩] (.seq .leaf (.cond .leaf .leaf))) (.seq .leaf .leaf)))))))
noncomputable def Ld.f60F:List Int×Int→Option (Int):=fun(x:List Int×Int)=>Option.bind (if decide (x.2<(0:Int))=true then some true else if decide (x.2≥(x.1.length:Int))=true then some true else if(0:Int)≤x.2
 ∧x.2<(x.1.length:Int) then Option.bind (Ld.f27F (List.getD x.1 (Int.toNat x.2) (0:Int))) fun v1=>some !v1 else none) fun v1=>if v1=true then some (-1:Int) else if(0:Int)≤x.2∧x.2<(x.1.length:Int) then if(List.getD
 x.1 (Int.toNat x.2) (0:Int)!=(21:Int))=true then if(0:Int)≤x.2∧x.2<(x.1.length:Int) then some (IntKind.i64.wrap (List.getD x.1 (Int.toNat x.2) (0:Int) - (19:Int))) else none else Option.bind (Ld.f25F x.1) fun(v2:
 List Int)=>if(0:Int)≤x.2∧x.2<(v2.length:Int) then Option.bind (if(List.getD v2 (Int.toNat x.2) (0:Int)==(-1:Int))=true then some (x.1.length:Int) else some (List.getD v2 (Int.toNat x.2) (0:Int))) fun v3=>
 Option.bind (Ld.f37F (x.1,v2,IntKind.i64.wrap (x.2+(1:Int)),v3)) fun v4=>some (zll (0:Int) v4) else none else none
theorem Ld.f60eq: ∀ x,zl Ld.C Ld.f60Γ Ld.f60sig Ld.f60ann Go.Proofs.Tryd.f60 x=Ld.f60F x:=by
 intro x
 kernel_rfl
noncomputable def Ld.f60con:Con:=⟨60,Ld.f60sig,Ld.f60F⟩
theorem Ld.f60ok:Con.Ok Go.Proofs.Tryd.prog Ld.C Ld.f60con:=
 zb (Γ:=Ld.f60Γ) (an:=Ld.f60ann) ⟨Ld.Cok,(List.forall_mem_cons.2 ⟨Ld.f27ok,(List.forall_mem_cons.2 ⟨Ld.f25ok,(List.forall_mem_cons.2 ⟨Ld.f37ok,(fun _ h=>nomatch h)⟩)⟩)⟩),Ld.mixed⟩ Go.Proofs.Tryd.func60 rfl rfl (fun x y h=>(Ld.f60eq x).trans h) (by decide)
def Ld.f59sig:Sig:=⟨⟨[.ptr 0 0, .hole (.int .i64)], [.cells [.hole (.int .i64), .own 1, .hole (.int .i64), .hole (.int .i64), .hole (.int .i64), .hole (.int .i64), .own 2, .own 3], .arr 92 (.st (.pair (.int .i64) (.pair (.int .i64)
 .bool))), .arr 3 (.int .i64), .arr 3 (.int .i64)]⟩,⟨[], [.cells [.hole (.int .i64), .own 4, .hole (.int .i64), .hole (.int .i64), .hole (.int .i64), .hole (.int .i64), .own 5, .own 6], .gone, .gone, .gone, .arr 92 (.st (.pair (.int .i64)
 (.pair (.int .i64) .bool))), .arr 3 (.int .i64), .arr 3 (.int .i64)]⟩⟩
noncomputable def Ld.f59Γ:List Con:= [Ld.f55con,Ld.f77con,Ld.f76con]
def Ld.f59ann:Ann:=(.seq .leaf (.cond .leaf .leaf))
noncomputable def Ld.f59F:Int×Int×Int×Int×Int×Int×List (Int×Int×Bool)×List Int×List Int→Option (Int×Int×Int×Int×Int×List (Int×Int×Bool)×List Int×List Int):=fun(x:Int×Int×Int×Int×Int×
 Int×List (Int×Int×Bool)×List Int×List Int)=>Option.bind (Ld.f55F (x.2.1,x.2.2.2.2.2.2.1,x.2.2.1,x.2.2.2.1,x.2.2.2.2.1,x.2.2.2.2.2.1,x.2.2.2.2.2.2.2.1,x.2.2.2.2.2.2.2.2)) fun v1=>Option.bind (Ld.f77F (v1.1,x.1)) fun v2
 =>Option.bind (Ld.f76F ((v2,(-1:Int),true),x.2.1,x.2.2.1,x.2.2.2.1,x.2.2.2.2.1,x.2.2.2.2.2.1,x.2.2.2.2.2.2.1,x.2.2.2.2.2.2.2.1,x.2.2.2.2.2.2.2.2)) fun(v3:Bool×Int×Int×Int×Int×Int×List (Int×Int×Bool)×List
 Int×List Int)=>if v3.1=true then some (v3.2.1,v3.2.2.1,v3.2.2.2.1,IntKind.i64.wrap (v3.2.2.2.2.1+(1:Int)),v3.2.2.2.2.2.1,v3.2.2.2.2.2.2.1,v3.2.2.2.2.2.2.2.1,v3.2.2.2.2.2.2.2.2) else some (v3.2.1,IntKind.i64.wrap (v3.2.2.1
 +(1:Int)),v3.2.2.2.1,v3.2.2.2.2.1,v3.2.2.2.2.2.1,v3.2.2.2.2.2.2.1,v3.2.2.2.2.2.2.2.1,v3.2.2.2.2.2.2.2.2)
theorem Ld.f59eq: ∀ x,zl Ld.C Ld.f59Γ Ld.f59sig Ld.f59ann Go.Proofs.Tryd.f59 x=Ld.f59F x:=by
 intro x
 kernel_rfl
noncomputable def Ld.f59con:Con:=⟨59,Ld.f59sig,Ld.f59F⟩
theorem Ld.f59ok:Con.Ok Go.Proofs.Tryd.prog Ld.C Ld.f59con:=
 zb (Γ:=Ld.f59Γ) (an:=Ld.f59ann) ⟨Ld.Cok,(List.forall_mem_cons.2 ⟨Ld.f55ok,(List.forall_mem_cons.2 ⟨Ld.f77ok,(List.forall_mem_cons.2 ⟨Ld.f76ok,(fun _ h=>nomatch h)⟩)⟩)⟩),Ld.mixed⟩ Go.Proofs.Tryd.func59 rfl rfl (fun x y h=>(Ld.f59eq x).trans h) (by decide)
def Ld.f61sig:Sig:=⟨⟨[.ptr 0 0], [.cells [.hole (.int .i64), .own 1, .hole (.int .i64), .hole (.int .i64), .hole (.int .i64), .hole (.int .i64), .own 2, .own 3], .arr 92 (.st (.pair (.int .i64) (.pair (.int .i64) .bool))), .arr 3 (.int
 .i64), .arr 3 (.int .i64)]⟩,⟨[], [.cells [.hole (.int .i64), .own 4, .hole (.int .i64), .hole (.int .i64), .hole (.int .i64), .hole (.int .i64), .own 5, .own 6], .gone, .gone, .gone, .arr 92 (.st (.pair (.int .i64) (.pair (.int .i64)
 .bool))), .arr 3 (.int .i64), .arr 3 (.int .i64)]⟩⟩
noncomputable def Ld.f61Γ:List Con:= [Ld.f78con]
def Ld.f61ann:Ann:=(.block (.seq .leaf (.cond .leaf (.seq .leaf (.cond (.seq .leaf (.seq .leaf (.block (.loop ⟨.normal, [], [.cells [.hole (.int .i64), .own 4, .hole (.int .i64), .hole (.int .i64), .hole (.int .i64), .hole (.int .i64),
 .own 5, .own 6], .gone, .gone, .gone, .arr 92 (.st (.pair (.int .i64) (.pair (.int .i64) .bool))), .arr 3 (.int .i64), .arr 3 (.int .i64)]⟩ [⟨(.exit 1), [], [.cells [.hole (.int .i64), .own 4, .hole (.int .i64), .hole (.int .i64), .hole
 (.int .i64), .hole (.int .i64), .own 5, .own 6], .gone, .gone, .gone, .arr 92 (.st (.pair (.int .i64) (.pair (.int .i64) .bool))), .arr 3 (.int .i64), .arr 3 (.int .i64)]⟩] (.seq (.seq .leaf (.cond .leaf .leaf)) (.block .leaf))))))
 .leaf)))))
noncomputable def Ld.f61F:Int×Int×Int×Int×Int×List (Int×Int×Bool)×List Int×List Int→Option (Int×Int×Int×Int×Int×List (Int×Int×Bool)×List Int×List Int):=fun(x:Int×Int×Int×Int×Int×List
 (Int×Int×Bool)×List Int×List Int)=>if decide (x.2.1 > (0:Int))=true then some (x.1,IntKind.i64.wrap (x.2.1 - (1:Int)),x.2.2.1,x.2.2.2.1,x.2.2.2.2.1,x.2.2.2.2.2.1,x.2.2.2.2.2.2.1,x.2.2.2.2.2.2.2) else if decide
 (x.2.2.2.1 > (0:Int))=true then Option.bind (iter (fun(s1:Int×Int×Int×Int×Int×List (Int×Int×Bool)×List Int×List Int)=>Option.bind (Ld.f78F (s1.1,s1.2.1,s1.2.2.1,s1.2.2.2.1,s1.2.2.2.2.1,s1.2.2.2.2.2.1,
 s1.2.2.2.2.2.2.1,s1.2.2.2.2.2.2.2)) fun(v2:(Int×Int×Bool)×Int×Int×Int×Int×Int×List (Int×Int×Bool)×List Int×List Int)=>if(!v2.1.2.2)=true then some (Sum.inl (v2.2.1,v2.2.2.1,v2.2.2.2.1,v2.2.2.2.2.1,
 v2.2.2.2.2.2.1,v2.2.2.2.2.2.2.1,v2.2.2.2.2.2.2.2.1,v2.2.2.2.2.2.2.2.2)) else some (Sum.inr (v2.2.1,v2.2.2.1,v2.2.2.2.1,v2.2.2.2.2.1,v2.2.2.2.2.2.1,v2.2.2.2.2.2.2.1,v2.2.2.2.2.2.2.2.1,v2.2.2.2.2.2.2.2.2))) (x.1,x.2.1,(0:Int),
 IntKind.i64.wrap (x.2.2.2.1 - (1:Int)),x.2.2.2.2.1,x.2.2.2.2.2.1,x.2.2.2.2.2.2.1,x.2.2.2.2.2.2.2)) fun(v1:Int×Int×Int×Int×Int×List (Int×Int×Bool)×List Int×List Int)=>some (v1.1,v1.2.1,v1.2.2.1,v1.2.2.2.1,
 v1.2.2.2.2.1,v1.2.2.2.2.2.1,v1.2.2.2.2.2.2.1,v1.2.2.2.2.2.2.2) else some (x.1,x.2.1,x.2.2.1,x.2.2.2.1,x.2.2.2.2.1,x.2.2.2.2.2.1,x.2.2.2.2.2.2.1,x.2.2.2.2.2.2.2)
theorem Ld.f61eq: ∀ x,zl Ld.C Ld.f61Γ Ld.f61sig Ld.f61ann Go.Proofs.Tryd.f61 x=Ld.f61F x:=by
 intro x
 kernel_rfl
noncomputable def Ld.f61con:Con:=⟨61,Ld.f61sig,Ld.f61F⟩
theorem Ld.f61ok:Con.Ok Go.Proofs.Tryd.prog Ld.C Ld.f61con:=
 zb (Γ:=Ld.f61Γ) (an:=Ld.f61ann) ⟨Ld.Cok,(List.forall_mem_cons.2 ⟨Ld.f78ok,(fun _ h=>nomatch h)⟩),Ld.mixed⟩ Go.Proofs.Tryd.func61 rfl rfl (fun x y h=>(Ld.f61eq x).trans h) (by decide)
def Ld.f39sig:Sig:=⟨⟨[.ptr 0 0, .hole (.sl (.int .i64)), .hole (.int .i64)], [.cells [.hole (.int .i64), .own 1, .hole (.int .i64), .hole (.int .i64), .hole (.int .i64), .hole (.int .i64), .own 2, .own 3], .arr 92 (.st (.pair (.int
 .i64) (.pair (.int .i64) .bool))), .arr 3 (.int .i64), .arr 3 (.int .i64)]⟩,⟨[], [.cells [.hole (.int .i64), .own 4, .hole (.int .i64), .hole (.int .i64), .hole (.int .i64), .hole (.int .i64), .own 5, .own 6], .gone, .gone, .gone, .arr 92
 (.st (.pair (.int .i64) (.pair (.int .i64) .bool))), .arr 3 (.int .i64), .arr 3 (.int .i64)]⟩⟩
noncomputable def Ld.f39Γ:List Con:= [Ld.f55con,Ld.f54con,Ld.f56con,Ld.f57con,Ld.f58con,Ld.f60con,Ld.f59con,Ld.f61con,Ld.f38con,Ld.f62con]
def Ld.f39ann:Ann:=(.seq .leaf (.seq (.join [⟨.normal, [], [.cells [.hole (.int .i64), .own 4, .hole (.int .i64), .hole (.int .i64), .hole (.int .i64), .hole (.int .i64), .own 5, .own 6], .gone, .gone, .gone, .arr 92 (.st (.pair (.int
 .i64) (.pair (.int .i64) .bool))), .arr 3 (.int .i64), .arr 3 (.int .i64)]⟩] (.seq .leaf (.block (.seq (.join [⟨.normal, [(12, .hole .bool)], [.cells [.hole (.int .i64), .own 1, .hole (.int .i64), .hole (.int .i64), .hole (.int .i64), .hole
 (.int .i64), .own 2, .own 3], .arr 92 (.st (.pair (.int .i64) (.pair (.int .i64) .bool))), .arr 3 (.int .i64), .arr 3 (.int .i64)]⟩] (.seq .leaf (.cond .leaf (.seq .leaf (.cond .leaf (.seq .leaf (.cond .leaf (.seq .leaf (.cond .leaf (.seq
 .leaf (.cond .leaf .leaf))))))))))) (.cond .leaf .leaf))))) (.seq .leaf (.block (.seq .leaf (.cond .leaf (.seq .leaf (.cond .leaf (.seq .leaf (.cond .leaf (.seq .leaf (.cond .leaf (.seq .leaf (.cond .leaf (.seq .leaf (.cond .leaf (.seq
 (.join [⟨.normal, [(54, .hole .bool)], [.cells [.hole (.int .i64), .own 4, .hole (.int .i64), .hole (.int .i64), .hole (.int .i64), .hole (.int .i64), .own 5, .own 6], .gone, .gone, .gone, .arr 92 (.st (.pair (.int .i64) (.pair (.int .i64)
 .bool))), .arr 3 (.int .i64), .arr 3 (.int .i64)]⟩] (.seq .leaf (.cond .leaf (.seq .leaf (.cond .leaf .leaf))))) (.cond (.seq .leaf .leaf) (.seq .leaf (.cond (.seq .leaf .leaf) (.seq .leaf (.cond (.seq .leaf .leaf) (.seq (.seq .leaf (.cond
 .leaf .leaf)) .leaf)))))))))))))))))))))))
noncomputable def Ld.f39F:List Int×Int×Int×Int×Int×Int×Int×List (Int×Int×Bool)×List Int×List Int→Option (Int×Int×Int×Int×Int×List (Int×Int×Bool)×List Int×List Int):=fun(x:List Int×Int×Int
 ×Int×Int×Int×Int×List (Int×Int×Bool)×List Int×List Int)=>if(0:Int)≤x.2.1∧x.2.1<(x.1.length:Int) then Option.bind (Option.bind (if(List.getD x.1 (Int.toNat x.2.1) (0:Int)==(14:Int))=true then some
 (true,x.2.2.1,x.2.2.2.1,x.2.2.2.2.1,x.2.2.2.2.2.1,x.2.2.2.2.2.2.1,x.2.2.2.2.2.2.2.1,x.2.2.2.2.2.2.2.2.1,x.2.2.2.2.2.2.2.2.2) else if(List.getD x.1 (Int.toNat x.2.1) (0:Int)==(16:Int))=true then some (true,x.2.2.1,
 x.2.2.2.1,x.2.2.2.2.1,x.2.2.2.2.2.1,x.2.2.2.2.2.2.1,x.2.2.2.2.2.2.2.1,x.2.2.2.2.2.2.2.2.1,x.2.2.2.2.2.2.2.2.2) else if(List.getD x.1 (Int.toNat x.2.1) (0:Int)==(15:Int))=true then some (true,x.2.2.1,x.2.2.2.1,x.2.2.2.2.1,
 x.2.2.2.2.2.1,x.2.2.2.2.2.2.1,x.2.2.2.2.2.2.2.1,x.2.2.2.2.2.2.2.2.1,x.2.2.2.2.2.2.2.2.2) else if(List.getD x.1 (Int.toNat x.2.1) (0:Int)==(17:Int))=true then some (true,x.2.2.1,x.2.2.2.1,x.2.2.2.2.1,x.2.2.2.2.2.1,
 x.2.2.2.2.2.2.1,x.2.2.2.2.2.2.2.1,x.2.2.2.2.2.2.2.2.1,x.2.2.2.2.2.2.2.2.2) else if(List.getD x.1 (Int.toNat x.2.1) (0:Int)==(18:Int))=true then some (true,x.2.2.1,x.2.2.2.1,x.2.2.2.2.1,x.2.2.2.2.2.1,x.2.2.2.2.2.2.1,
 x.2.2.2.2.2.2.2.1,x.2.2.2.2.2.2.2.2.1,x.2.2.2.2.2.2.2.2.2) else some (List.getD x.1 (Int.toNat x.2.1) (0:Int)==(9:Int),x.2.2.1,x.2.2.2.1,x.2.2.2.2.1,x.2.2.2.2.2.1,x.2.2.2.2.2.2.1,x.2.2.2.2.2.2.2.1,x.2.2.2.2.2.2.2.2.1,
 x.2.2.2.2.2.2.2.2.2)) fun(v1:Bool×Int×Int×Int×Int×Int×List (Int×Int×Bool)×List Int×List Int)=>if v1.1=true then Option.bind (Ld.f55F (v1.2.1,v1.2.2.2.2.2.2.1,v1.2.2.1,v1.2.2.2.1,v1.2.2.2.2.1,v1.2.2.2.2.2.1,
 v1.2.2.2.2.2.2.2.1,v1.2.2.2.2.2.2.2.2)) fun v2=>Option.bind (Ld.f54F (v2.1,List.getD x.1 (Int.toNat x.2.1) (0:Int),v1.2.1,v1.2.2.1,v1.2.2.2.1,v1.2.2.2.2.1,v1.2.2.2.2.2.1,v1.2.2.2.2.2.2.1,v1.2.2.2.2.2.2.2.1,v1.2.2.2.2.2.2.2.2))
 fun(v3:Int×Int×Int×Int×Int×List (Int×Int×Bool)×List Int×List Int)=>some (v3.1,v3.2.1,v3.2.2.1,v3.2.2.2.1,v3.2.2.2.2.1,v3.2.2.2.2.2.1,v3.2.2.2.2.2.2.1,v3.2.2.2.2.2.2.2) else some (v1.2.1,v1.2.2.1,v1.2.2.2.1,
 v1.2.2.2.2.1,v1.2.2.2.2.2.1,v1.2.2.2.2.2.2.1,v1.2.2.2.2.2.2.2.1,v1.2.2.2.2.2.2.2.2)) fun(v1:Int×Int×Int×Int×Int×List (Int×Int×Bool)×List Int×List Int)=>if(List.getD x.1 (Int.toNat x.2.1) (0:Int)==(14:Int))
 =true then Option.bind (Ld.f56F ((0:Int),(-1:Int),v1.1,v1.2.1,v1.2.2.1,v1.2.2.2.1,v1.2.2.2.2.1,v1.2.2.2.2.2.1,v1.2.2.2.2.2.2.1,v1.2.2.2.2.2.2.2)) fun(v2:Int×Int×Int×Int×Int×List (Int×Int×Bool)×List Int×
 List Int)=>some (v2.1,v2.2.1,v2.2.2.1,v2.2.2.2.1,v2.2.2.2.2.1,v2.2.2.2.2.2.1,v2.2.2.2.2.2.2.1,v2.2.2.2.2.2.2.2) else if(List.getD x.1 (Int.toNat x.2.1) (0:Int)==(16:Int))=true then Option.bind (Ld.f56F ((1:Int),(-1:
 Int),v1.1,v1.2.1,v1.2.2.1,v1.2.2.2.1,v1.2.2.2.2.1,v1.2.2.2.2.2.1,v1.2.2.2.2.2.2.1,v1.2.2.2.2.2.2.2)) fun(v2:Int×Int×Int×Int×Int×List (Int×Int×Bool)×List Int×List Int)=>some (v2.1,v2.2.1,v2.2.2.1,v2.2.2.2.1,
 v2.2.2.2.2.1,v2.2.2.2.2.2.1,v2.2.2.2.2.2.2.1,v2.2.2.2.2.2.2.2) else if(List.getD x.1 (Int.toNat x.2.1) (0:Int)==(15:Int))=true then Option.bind (Ld.f56F ((0:Int),(0:Int),v1.1,v1.2.1,v1.2.2.1,v1.2.2.2.1,v1.2.2.2.2.1,
 v1.2.2.2.2.2.1,v1.2.2.2.2.2.2.1,v1.2.2.2.2.2.2.2)) fun(v2:Int×Int×Int×Int×Int×List (Int×Int×Bool)×List Int×List Int)=>some (v2.1,v2.2.1,v2.2.2.1,v2.2.2.2.1,v2.2.2.2.2.1,v2.2.2.2.2.2.1,v2.2.2.2.2.2.2.1,
 v2.2.2.2.2.2.2.2) else if(List.getD x.1 (Int.toNat x.2.1) (0:Int)==(17:Int))=true then Option.bind (Ld.f56F ((1:Int),(1:Int),v1.1,v1.2.1,v1.2.2.1,v1.2.2.2.1,v1.2.2.2.2.1,v1.2.2.2.2.2.1,v1.2.2.2.2.2.2.1,
 v1.2.2.2.2.2.2.2)) fun(v2:Int×Int×Int×Int×Int×List (Int×Int×Bool)×List Int×List Int)=>some (v2.1,v2.2.1,v2.2.2.1,v2.2.2.2.1,v2.2.2.2.2.1,v2.2.2.2.2.2.1,v2.2.2.2.2.2.2.1,v2.2.2.2.2.2.2.2) else if(List.getD x.1
 (Int.toNat x.2.1) (0:Int)==(18:Int))=true then Option.bind (Ld.f57F (v1.1,v1.2.1,v1.2.2.1,v1.2.2.2.1,v1.2.2.2.2.1,v1.2.2.2.2.2.1,v1.2.2.2.2.2.2.1,v1.2.2.2.2.2.2.2)) fun(v2:Int×Int×Int×Int×Int×List (Int×Int×
 Bool)×List Int×List Int)=>some (v2.1,v2.2.1,v2.2.2.1,v2.2.2.2.1,v2.2.2.2.2.1,v2.2.2.2.2.2.1,v2.2.2.2.2.2.2.1,v2.2.2.2.2.2.2.2) else if(List.getD x.1 (Int.toNat x.2.1) (0:Int)==(9:Int))=true then some (v1.1,v1.2.1,
 v1.2.2.1,v1.2.2.2.1,v1.2.2.2.2.1,v1.2.2.2.2.2.1,v1.2.2.2.2.2.2.1,v1.2.2.2.2.2.2.2) else Option.bind (if(List.getD x.1 (Int.toNat x.2.1) (0:Int)==(19:Int))=true then some (true,v1.1,v1.2.1,v1.2.2.1,v1.2.2.2.1,v1.2.2.2.2.1,
 v1.2.2.2.2.2.1,v1.2.2.2.2.2.2.1,v1.2.2.2.2.2.2.2) else if(List.getD x.1 (Int.toNat x.2.1) (0:Int)==(20:Int))=true then some (true,v1.1,v1.2.1,v1.2.2.1,v1.2.2.2.1,v1.2.2.2.2.1,v1.2.2.2.2.2.1,v1.2.2.2.2.2.2.1,
 v1.2.2.2.2.2.2.2) else some (List.getD x.1 (Int.toNat x.2.1) (0:Int)==(21:Int),v1.1,v1.2.1,v1.2.2.1,v1.2.2.2.1,v1.2.2.2.2.1,v1.2.2.2.2.2.1,v1.2.2.2.2.2.2.1,v1.2.2.2.2.2.2.2)) fun(v2:Bool×Int×Int×Int×Int×Int×List
 (Int×Int×Bool)×List Int×List Int)=>if v2.1=true then Option.bind (Ld.f58F (List.getD x.1 (Int.toNat x.2.1) (0:Int),v2.2.1,v2.2.2.1,v2.2.2.2.1,v2.2.2.2.2.1,v2.2.2.2.2.2.1,v2.2.2.2.2.2.2.1,v2.2.2.2.2.2.2.2.1,
 v2.2.2.2.2.2.2.2.2)) fun(v3:Int×Int×Int×Int×Int×List (Int×Int×Bool)×List Int×List Int)=>Option.bind (Ld.f60F (x.1,x.2.1)) fun v4=>Option.bind (Ld.f59F (v4,v3.1,v3.2.1,v3.2.2.1,v3.2.2.2.1,v3.2.2.2.2.1,
 v3.2.2.2.2.2.1,v3.2.2.2.2.2.2.1,v3.2.2.2.2.2.2.2)) fun(v5:Int×Int×Int×Int×Int×List (Int×Int×Bool)×List Int×List Int)=>some (v5.1,v5.2.1,v5.2.2.1,v5.2.2.2.1,v5.2.2.2.2.1,v5.2.2.2.2.2.1,v5.2.2.2.2.2.2.1,
 v5.2.2.2.2.2.2.2) else if(List.getD x.1 (Int.toNat x.2.1) (0:Int)==(22:Int))=true then Option.bind (Ld.f61F (v2.2.1,v2.2.2.1,v2.2.2.2.1,v2.2.2.2.2.1,v2.2.2.2.2.2.1,v2.2.2.2.2.2.2.1,v2.2.2.2.2.2.2.2.1,v2.2.2.2.2.2.2.2.2)) fun
 (v3:Int×Int×Int×Int×Int×List (Int×Int×Bool)×List Int×List Int)=>Option.bind (Ld.f58F (List.getD x.1 (Int.toNat x.2.1) (0:Int),v3.1,v3.2.1,v3.2.2.1,v3.2.2.2.1,v3.2.2.2.2.1,v3.2.2.2.2.2.1,v3.2.2.2.2.2.2.1,
 v3.2.2.2.2.2.2.2)) fun(v4:Int×Int×Int×Int×Int×List (Int×Int×Bool)×List Int×List Int)=>some (v4.1,v4.2.1,v4.2.2.1,v4.2.2.2.1,v4.2.2.2.2.1,v4.2.2.2.2.2.1,v4.2.2.2.2.2.2.1,v4.2.2.2.2.2.2.2) else if(List.getD x.1
 (Int.toNat x.2.1) (0:Int)==(10:Int))=true then Option.bind (Ld.f38F (v2.2.1,v2.2.2.1,v2.2.2.2.1,v2.2.2.2.2.1,v2.2.2.2.2.2.1,v2.2.2.2.2.2.2.1,v2.2.2.2.2.2.2.2.1,v2.2.2.2.2.2.2.2.2)) fun(v3:Int×Int×Int×Int×Int×List
 (Int×Int×Bool)×List Int×List Int)=>Option.bind (Ld.f54F (v3.1,List.getD x.1 (Int.toNat x.2.1) (0:Int),v3.1,v3.2.1,v3.2.2.1,v3.2.2.2.1,v3.2.2.2.2.1,v3.2.2.2.2.2.1,v3.2.2.2.2.2.2.1,v3.2.2.2.2.2.2.2)) fun(v4:Int×Int×
 Int×Int×Int×List (Int×Int×Bool)×List Int×List Int)=>some (v4.1,v4.2.1,v4.2.2.1,v4.2.2.2.1,v4.2.2.2.2.1,v4.2.2.2.2.2.1,v4.2.2.2.2.2.2.1,v4.2.2.2.2.2.2.2) else Option.bind (Ld.f62F (List.getD x.1 (Int.toNat x.2.1) (0:
 Int))) fun v3=>if(ByteArray.toList v3==ByteArray.toList { data:= #[]:ByteArray})=true then Option.bind (Ld.f58F ((0:Int),v2.2.1,v2.2.2.1,v2.2.2.2.1,v2.2.2.2.2.1,v2.2.2.2.2.2.1,v2.2.2.2.2.2.2.1,v2.2.2.2.2.2.2.2.1,
 v2.2.2.2.2.2.2.2.2)) fun(v4:Int×Int×Int×Int×Int×List (Int×Int×Bool)×List Int×List Int)=>some (v4.1,v4.2.1,v4.2.2.1,v4.2.2.2.1,v4.2.2.2.2.1,v4.2.2.2.2.2.1,v4.2.2.2.2.2.2.1,v4.2.2.2.2.2.2.2) else Option.bind
 (Ld.f58F (List.getD x.1 (Int.toNat x.2.1) (0:Int),v2.2.1,v2.2.2.1,v2.2.2.2.1,v2.2.2.2.2.1,v2.2.2.2.2.2.1,v2.2.2.2.2.2.2.1,v2.2.2.2.2.2.2.2.1,v2.2.2.2.2.2.2.2.2)) fun(v4:Int×Int×Int×Int×Int×List (Int×Int×Bool)×
 List Int×List Int)=>some (v4.1,v4.2.1,v4.2.2.1,v4.2.2.2.1,v4.2.2.2.2.1,v4.2.2.2.2.2.1,v4.2.2.2.2.2.2.1,v4.2.2.2.2.2.2.2) else none
theorem Ld.f39eq: ∀ x,zl Ld.C Ld.f39Γ Ld.f39sig Ld.f39ann Go.Proofs.Tryd.f39 x=Ld.f39F x:=by
 intro x
 kernel_rfl
noncomputable def Ld.f39con:Con:=⟨39,Ld.f39sig,Ld.f39F⟩
theorem Ld.f39ok:Con.Ok Go.Proofs.Tryd.prog Ld.C Ld.f39con:=
 zb (Γ:=Ld.f39Γ) (an:=Ld.f39ann) ⟨Ld.Cok,(List.forall_mem_cons.2 ⟨Ld.f55ok,(List.forall_mem_cons.2 ⟨Ld.f54ok,(List.forall_mem_cons.2 ⟨Ld.f56ok,(List.forall_mem_cons.2 ⟨Ld.f57ok,(List.forall_mem_cons.2 ⟨Ld.f58ok,(List.forall_mem_cons.2 ⟨Ld.f60ok,(List.forall_mem_cons.2 ⟨Ld.f59ok,(List.forall_mem_cons.2 ⟨Ld.f61ok,(List.forall_mem_cons.2 ⟨Ld.f38ok,(List.forall_mem_cons.2 ⟨Ld.f62ok,(fun _ h=>nomatch h)⟩)⟩)⟩)⟩)⟩)⟩)⟩)⟩)⟩)⟩),Ld.mixed⟩ Go.Proofs.Tryd.func39 rfl rfl (fun x y h=>(Ld.f39eq x).trans h) (by decide)
def Ld.f23sig:Sig:=⟨⟨[.hole (.sl (.int .i64)), .hole (.int .i64)], []⟩,⟨[.ptr 0 0], [.cells [.hole (.int .i64), .own 1, .hole (.int .i64), .hole (.int .i64), .hole (.int .i64), .hole (.int .i64), .own 2, .own 3], .arr 92 (.st (.pair
 (.int .i64) (.pair (.int .i64) .bool))), .arr 3 (.int .i64), .arr 3 (.int .i64)]⟩⟩
noncomputable def Ld.f23Γ:List Con:= [Ld.f38con,Ld.f39con]
def Ld.f23ann:Ann:=(.seq .leaf (.seq .leaf (.seq (.join [⟨.normal, [], [.cells [.hole (.int .i64), .own 1, .hole (.int .i64), .hole (.int .i64), .hole (.int .i64), .hole (.int .i64), .own 2, .own 3], .arr 92 (.st (.pair (.int .i64)
 (.pair (.int .i64) .bool))), .arr 3 (.int .i64), .arr 3 (.int .i64)]⟩] (.seq .leaf (.cond .leaf .leaf))) (.seq .leaf (.seq (.seq .leaf (.block (.loop ⟨.normal, [(18, .hole (.int .i64))], [.cells [.hole (.int .i64), .own 7, .hole (.int
 .i64), .hole (.int .i64), .hole (.int .i64), .hole (.int .i64), .own 8, .own 9], .gone, .gone, .gone, .gone, .gone, .gone, .arr 92 (.st (.pair (.int .i64) (.pair (.int .i64) .bool))), .arr 3 (.int .i64), .arr 3 (.int .i64)]⟩ [⟨(.exit 0),
 [], [.cells [.hole (.int .i64), .own 7, .hole (.int .i64), .hole (.int .i64), .hole (.int .i64), .hole (.int .i64), .own 8, .own 9], .gone, .gone, .gone, .gone, .gone, .gone, .arr 92 (.st (.pair (.int .i64) (.pair (.int .i64) .bool))), .arr
 3 (.int .i64), .arr 3 (.int .i64)]⟩] (.seq .leaf (.seq (.cond .leaf .leaf) (.seq (.block (.seq .leaf .leaf)) .leaf)))))) (.seq .leaf .leaf))))))
noncomputable def Ld.f23F:List Int×Int→Option (Int×Int×Int×Int×Int×List (Int×Int×Bool)×List Int×List Int):=fun(x:List Int×Int)=>Option.bind (if(x.2 !=(0:Int))=true then some ((1:Int),(0:Int),(0:
 Int),(0:Int),(0:Int), [], [], []) else some ((0:Int),(0:Int),(0:Int),(0:Int),(0:Int), [], [], [])) fun(v1:Int×Int×Int×Int×Int×List (Int×Int×Bool)×List Int×List Int)=>Option.bind (Ld.f38F (v1.1,
 v1.2.1,v1.2.2.1,v1.2.2.2.1,v1.2.2.2.2.1,v1.2.2.2.2.2.1,v1.2.2.2.2.2.2.1,v1.2.2.2.2.2.2.2)) fun(v2:Int×Int×Int×Int×Int×List (Int×Int×Bool)×List Int×List Int)=>Option.bind (iter (fun(s3:Int×Int×Int×Int×
 Int×Int×List (Int×Int×Bool)×List Int×List Int)=>if decide (s3.1<(x.1.length:Int))=true then Option.bind (Ld.f39F (x.1,s3.1,s3.2.1,s3.2.2.1,s3.2.2.2.1,s3.2.2.2.2.1,s3.2.2.2.2.2.1,s3.2.2.2.2.2.2.1,
 s3.2.2.2.2.2.2.2.1,s3.2.2.2.2.2.2.2.2)) fun(v4:Int×Int×Int×Int×Int×List (Int×Int×Bool)×List Int×List Int)=>some (Sum.inl (IntKind.i64.wrap (s3.1+(1:Int)),v4.1,v4.2.1,v4.2.2.1,v4.2.2.2.1,v4.2.2.2.2.1,
 v4.2.2.2.2.2.1,v4.2.2.2.2.2.2.1,v4.2.2.2.2.2.2.2)) else some (Sum.inr (s3.2.1,s3.2.2.1,s3.2.2.2.1,s3.2.2.2.2.1,s3.2.2.2.2.2.1,s3.2.2.2.2.2.2.1,s3.2.2.2.2.2.2.2.1,s3.2.2.2.2.2.2.2.2))) ((0:Int),v2.1,v2.2.1,v2.2.2.1,v2.2.2.2.1,
 v2.2.2.2.2.1,v2.2.2.2.2.2.1,v2.2.2.2.2.2.2.1,v2.2.2.2.2.2.2.2)) fun(v3:Int×Int×Int×Int×Int×List (Int×Int×Bool)×List Int×List Int)=>some (v3.1,v3.2.1,v3.2.2.1,v3.2.2.2.1,v3.2.2.2.2.1,v3.2.2.2.2.2.1,
 v3.2.2.2.2.2.2.1,v3.2.2.2.2.2.2.2)
theorem Ld.f23eq: ∀ x,zl Ld.C Ld.f23Γ Ld.f23sig Ld.f23ann Go.Proofs.Tryd.f23 x=Ld.f23F x:=by
 intro x
 kernel_rfl
noncomputable def Ld.f23con:Con:=⟨23,Ld.f23sig,Ld.f23F⟩
theorem Ld.f23ok:Con.Ok Go.Proofs.Tryd.prog Ld.C Ld.f23con:=
 zb (Γ:=Ld.f23Γ) (an:=Ld.f23ann) ⟨Ld.Cok,(List.forall_mem_cons.2 ⟨Ld.f38ok,(List.forall_mem_cons.2 ⟨Ld.f39ok,(fun _ h=>nomatch h)⟩)⟩),Ld.mixed⟩ Go.Proofs.Tryd.func23 rfl rfl (fun x y h=>(Ld.f23eq x).trans h) (by decide)
def Ld.f16sig:Sig:=⟨⟨[.hole (.sl (.int .i64)), .hole (.int .i64)], []⟩,⟨[.own 0, .own 1], [.arr 3 (.int .i64), .arr 3 (.int .i64)]⟩⟩
noncomputable def Ld.f16Γ:List Con:= [Ld.f23con]
def Ld.f16ann:Ann:=(.seq .leaf (.seq .leaf (.seq .leaf .leaf)))
noncomputable def Ld.f16F:List Int×Int→Option (List Int×List Int):=fun(x:List Int×Int)=>Option.bind (Ld.f23F (x.1,x.2)) fun(v1:Int×Int×Int×Int×Int×List (Int×Int×Bool)×List Int×List Int)=>some
 (v1.2.2.2.2.2.2.1,v1.2.2.2.2.2.2.2)
theorem Ld.f16eq: ∀ x,zl Ld.C Ld.f16Γ Ld.f16sig Ld.f16ann Go.Proofs.Tryd.f16 x=Ld.f16F x:=by
 intro x
 kernel_rfl
noncomputable def Ld.f16con:Con:=⟨16,Ld.f16sig,Ld.f16F⟩
theorem Ld.f16ok:Con.Ok Go.Proofs.Tryd.prog Ld.C Ld.f16con:=
 zb (Γ:=Ld.f16Γ) (an:=Ld.f16ann) ⟨Ld.Cok,(List.forall_mem_cons.2 ⟨Ld.f23ok,(fun _ h=>nomatch h)⟩),Ld.mixed⟩ Go.Proofs.Tryd.func16 rfl rfl (fun x y h=>(Ld.f16eq x).trans h) (by decide)
def Ld.s0sig:Sig:=⟨⟨[.own 0], [.arr 3 (.int .i64)]⟩,⟨[.own 1], [.arr 3 (.int .i64), .arr 3 (.int .i64)]⟩⟩
noncomputable def Ld.s0Γ:List Con:= []
def Ld.s0ann:Ann:=(.seq .leaf (.seq (.seq .leaf (.cond (.seq .leaf .leaf) .leaf)) (.seq .leaf .leaf)))
noncomputable def Ld.s0F:List Int→Option (List Int×List Int):=fun(x:List Int)=>if Nat.beq (List.length x) (0:Nat)=true then agree (some (x, [])) (if zk ((0:Nat)+List.length x) (8:Nat) then some (x, []++x) else
 none) else if zk ((0:Nat)+List.length x) (8:Nat) then some (x, []++x) else none
theorem Ld.s0eq: ∀ x,zl Ld.C Ld.s0Γ Ld.s0sig Ld.s0ann Go.Proofs.Tryd.f12 x=Ld.s0F x:=by
 intro x
 kernel_rfl
noncomputable def Ld.s0con:Con:=⟨12,Ld.s0sig,Ld.s0F⟩
theorem Ld.s0ok:Con.Ok Go.Proofs.Tryd.prog Ld.C Ld.s0con:=
 zb (Γ:=Ld.s0Γ) (an:=Ld.s0ann) ⟨Ld.Cok,(fun _ h=>nomatch h),Ld.mixed⟩ Go.Proofs.Tryd.func12 rfl rfl (fun x y h=>(Ld.s0eq x).trans h) (by decide)
def Ld.f34sig:Sig:=⟨⟨[.hole (.int .i64)], []⟩,⟨[.hole .bool], []⟩⟩
noncomputable def Ld.f34Γ:List Con:= [Ld.f41con,Ld.f40con]
def Ld.f34ann:Ann:=(.seq .leaf (.seq .leaf .leaf))
noncomputable def Ld.f34F:Int→Option (Bool):=fun(x:Int)=>Option.bind (Ld.f41F [(14:Int),(15:Int),(16:Int),(17:Int),(18:Int),(9:Int)]) fun v1=>Option.bind (Ld.f40F (x,v1)) fun v2=>some v2
theorem Ld.f34eq: ∀ x,zl Ld.C Ld.f34Γ Ld.f34sig Ld.f34ann Go.Proofs.Tryd.f34 x=Ld.f34F x:=by
 intro x
 kernel_rfl
noncomputable def Ld.f34con:Con:=⟨34,Ld.f34sig,Ld.f34F⟩
theorem Ld.f34ok:Con.Ok Go.Proofs.Tryd.prog Ld.C Ld.f34con:=
 zb (Γ:=Ld.f34Γ) (an:=Ld.f34ann) ⟨Ld.Cok,(List.forall_mem_cons.2 ⟨Ld.f41ok,(List.forall_mem_cons.2 ⟨Ld.f40ok,(fun _ h=>nomatch h)⟩)⟩),Ld.mixed⟩ Go.Proofs.Tryd.func34 rfl rfl (fun x y h=>(Ld.f34eq x).trans h) (by decide)
def Ld.f24sig:Sig:=⟨⟨[.hole (.sl (.int .i64)), .hole (.sl (.int .i64))], []⟩,⟨[.ptr 0 0], [.cells [.hole (.sl (.int .i64)), .hole (.sl (.int .i64)), .own 1, .own 2], .arr 3 (.int .i64), .arr 3 (.int .i64)]⟩⟩
noncomputable def Ld.f24Γ:List Con:= [Ld.f34con]
def Ld.f24ann:Ann:=(.seq .leaf (.seq .leaf (.seq (.seq .leaf (.block (.loop ⟨.normal, [(17, .hole (.int .i64))], [.arr 3 (.int .i64), .cells [.hole (.sl (.int .i64)), .hole (.sl (.int .i64)), .own 2, .own 0], .arr 3 (.int .i64)]⟩
 [⟨(.exit 0), [], [.arr 3 (.int .i64), .cells [.hole (.sl (.int .i64)), .hole (.sl (.int .i64)), .own 2, .own 0], .arr 3 (.int .i64)]⟩] (.seq .leaf (.seq (.cond .leaf .leaf) (.seq (.block (.seq .leaf (.seq .leaf (.seq .leaf (.cond (.seq
 (.tail 11) .leaf) .leaf))))) .leaf)))))) (.seq .leaf .leaf))))
noncomputable def Ld.f24F:List Int×List Int→Option (List Int×List Int×List Int×List Int):=fun(x:List Int×List Int)=>if(0:Int)≤(x.1.length:Int)∧(x.1.length:Int)≤(x.1.length:Int)∧zk (Int.toNat
 (x.1.length:Int)) (8:Nat) then Option.bind (iter (fun(s1:Int×List Int×List Int×List Int×List Int)=>if decide (s1.1<(x.1.length:Int))=true then if(0:Int)≤s1.1∧s1.1<(x.1.length:Int) then if(0:Int)≤s1.1∧
 s1.1<(s1.2.1.length:Int) then Option.bind (Ld.f34F (List.getD x.1 (Int.toNat s1.1) (0:Int))) fun v2=>if(!v2)=true then if(0:Int)≤s1.1∧s1.1<(↑(List.length (List.set s1.2.1 (Int.toNat s1.1) (-1:Int))):Int) then if
 zk (List.length s1.2.2.2.2+(1:Nat)) (8:Nat) then some (Sum.inl (IntKind.i64.wrap (s1.1+(1:Int)),List.set (List.set s1.2.1 (Int.toNat s1.1) (-1:Int)) (Int.toNat s1.1) (s1.2.2.2.2.length:Int),s1.2.2.1,s1.2.2.2.1,
 s1.2.2.2.2++ [s1.1])) else none else none else some (Sum.inl (IntKind.i64.wrap (s1.1+(1:Int)),List.set s1.2.1 (Int.toNat s1.1) (-1:Int),s1.2.2.1,s1.2.2.2.1,s1.2.2.2.2)) else none else none else some (Sum.inr (s1.2.1,s1.2.2.1,
 s1.2.2.2.1,s1.2.2.2.2))) ((0:Int),List.replicate (Int.toNat (x.1.length:Int)) (0:Int),x.1,x.2, [])) fun(v1:List Int×List Int×List Int×List Int)=>some (v1.2.1,v1.2.2.1,v1.2.2.2,v1.1) else none
theorem Ld.f24eq: ∀ x,zl Ld.C Ld.f24Γ Ld.f24sig Ld.f24ann Go.Proofs.Tryd.f24 x=Ld.f24F x:=by
 intro x
 kernel_rfl
noncomputable def Ld.f24con:Con:=⟨24,Ld.f24sig,Ld.f24F⟩
theorem Ld.f24ok:Con.Ok Go.Proofs.Tryd.prog Ld.C Ld.f24con:=
 zb (Γ:=Ld.f24Γ) (an:=Ld.f24ann) ⟨Ld.Cok,(List.forall_mem_cons.2 ⟨Ld.f34ok,(fun _ h=>nomatch h)⟩),Ld.mixed⟩ Go.Proofs.Tryd.func24 rfl rfl (fun x y h=>(Ld.f24eq x).trans h) (by decide)
def Ld.f26sig:Sig:=⟨⟨[.ro (.st (.pair (.sl (.int .i64)) (.pair (.sl (.int .i64)) (.pair (.sl (.int .i64)) (.sl (.int .i64))))))], []⟩,⟨[.hole (.sl (.sl (.int .i64)))], []⟩⟩
noncomputable def Ld.f26Γ:List Con:= []
def Ld.f26ann:Ann:=(.seq .leaf (.seq .leaf (.seq .leaf (.seq (.seq .leaf (.block (.loop ⟨.normal, [(3, .own 0),(4, .hole (.int .i64)),(5, .hole (.int .i64))], [.arr 24 (.osl (.int .i64))]⟩ [⟨(.exit 0), [(3, .own 0)], [.arr 24 (.osl
 (.int .i64))]⟩] (.seq (.seq .leaf (.cond .leaf .leaf)) (.seq (.block (.seq .leaf (.seq (.seq (.join [⟨.normal, [(63, .hole .bool)], [.arr 24 (.osl (.int .i64))]⟩] .leaf) (.cond .leaf .leaf)) (.seq .leaf .leaf)))) .leaf))))) (.seq .leaf
 .leaf)))))
noncomputable def Ld.f26F:List Int×List Int×List Int×List Int→Option (List (List Int)):=fun(x:List Int×List Int×List Int×List Int)=>Option.bind (iter (fun(s1:Int×Int×List (Bool×List Int))=>if decide (s1.2.1
 ≤(x.2.2.1.length:Int))=true then if(0:Int)≤IntKind.i64.wrap (s1.2.1 - (1:Int))∧IntKind.i64.wrap (s1.2.1 - (1:Int))<(x.2.2.1.length:Int) then Option.bind (if decide (s1.2.1<(x.2.2.1.length:Int))=true then if(0:
 Int)≤s1.2.1∧s1.2.1<(x.2.2.1.length:Int) then if(0:Int)≤List.getD x.2.2.1 (Int.toNat s1.2.1) (0:Int)∧List.getD x.2.2.1 (Int.toNat s1.2.1) (0:Int)<(x.2.1.length:Int) then if(0:Int)≤List.getD x.2.2.1 (Int.toNat
 (IntKind.i64.wrap (s1.2.1 - (1:Int)))) (0:Int)∧List.getD x.2.2.1 (Int.toNat (IntKind.i64.wrap (s1.2.1 - (1:Int)))) (0:Int)<(x.2.1.length:Int) then if(List.getD x.2.1 (Int.toNat (List.getD x.2.2.1 (Int.toNat s1.2.1) (0:
 Int))) (0:Int)==List.getD x.2.1 (Int.toNat (List.getD x.2.2.1 (Int.toNat (IntKind.i64.wrap (s1.2.1 - (1:Int)))) (0:Int))) (0:Int))=true then if(0:Int)≤List.getD x.2.2.1 (Int.toNat (IntKind.i64.wrap (s1.2.1 - (1:Int)))) (0
 :Int)∧List.getD x.2.2.1 (Int.toNat (IntKind.i64.wrap (s1.2.1 - (1:Int)))) (0:Int)<(x.1.length:Int) then some (List.getD x.1 (Int.toNat (List.getD x.2.2.1 (Int.toNat (IntKind.i64.wrap (s1.2.1 - (1:Int)))) (0:Int))) (0:Int)
 !=(10:Int),s1.2.2) else none else some (false,s1.2.2) else none else none else none else some (false,s1.2.2)) fun(v2:Bool×List (Bool×List Int))=>if v2.1=true then some (Sum.inl (s1.1,IntKind.i64.wrap (s1.2.1+(1:Int)),
 v2.2)) else if(0:Int)≤s1.2.1∧s1.2.1≤(x.2.2.1.length:Int) then if(0:Int)≤s1.2.1∧s1.2.1≤s1.2.1 then if(0:Int)≤s1.1∧s1.1≤s1.2.1 then if zk (List.length v2.2+(1:Nat)) (24:Nat) then some (Sum.inl (s1.2.1,
 IntKind.i64.wrap (s1.2.1+(1:Int)),v2.2++ [Ty.lift (Ty.osl (Ty.int IntKind.i64)) (List.drop (Int.toNat s1.1) (List.take (Int.toNat s1.2.1) x.2.2.1))])) else none else none else none else none else none else some (Sum.inr s1.2.2)) ((0:
 Int),(1:Int), [])) fun(v1:List (Bool×List Int))=>some (List.map (Ty.erD (Ty.osl (Ty.int IntKind.i64))) v1)
theorem Ld.f26eq: ∀ x,zl Ld.C Ld.f26Γ Ld.f26sig Ld.f26ann Go.Proofs.Tryd.f26 x=Ld.f26F x:=by
 intro x
 kernel_rfl
noncomputable def Ld.f26con:Con:=⟨26,Ld.f26sig,Ld.f26F⟩
theorem Ld.f26ok:Con.Ok Go.Proofs.Tryd.prog Ld.C Ld.f26con:=
 zb (Γ:=Ld.f26Γ) (an:=Ld.f26ann) ⟨Ld.Cok,(fun _ h=>nomatch h),Ld.mixed⟩ Go.Proofs.Tryd.func26 rfl rfl (fun x y h=>(Ld.f26eq x).trans h) (by decide)
def Ld.f42sig:Sig:=⟨⟨[.ro (.st (.pair (.sl (.int .i64)) (.pair (.sl (.int .i64)) (.pair (.sl (.int .i64)) (.sl (.int .i64)))))), .hole (.int .i64), .hole (.int .i64), .hole (.int .i64)], []⟩,⟨[.hole (.int .i64)], []⟩⟩
noncomputable def Ld.f42Γ:List Con:= []
def Ld.f42ann:Ann:=(.seq .leaf (.seq .leaf (.seq (.seq (.join [⟨.normal, [(29, .hole .bool)], []⟩] .leaf) (.cond (.seq .leaf .leaf) .leaf)) (.seq .leaf .leaf))))
noncomputable def Ld.f42F:(List Int×List Int×List Int×List Int)×Int×Int×Int→Option (Int):=fun(x:(List Int×List Int×List Int×List Int)×Int×Int×Int)=>if(0:Int)≤x.2.1∧x.2.1<(x.1.2.2.2.length:Int)
 then Option.bind (if decide (IntKind.i64.wrap (List.getD x.1.2.2.2 (Int.toNat x.2.1) (0:Int)+x.2.2.1)<(0:Int))=true then some true else some (decide (IntKind.i64.wrap (List.getD x.1.2.2.2 (Int.toNat x.2.1) (0:Int)+x.2.2.1)≥
 (x.1.2.2.1.length:Int)))) fun v1=>if v1=true then some x.2.2.2 else if(0:Int)≤IntKind.i64.wrap (List.getD x.1.2.2.2 (Int.toNat x.2.1) (0:Int)+x.2.2.1)∧IntKind.i64.wrap (List.getD x.1.2.2.2 (Int.toNat x.2.1) (0:Int)+
 x.2.2.1)<(x.1.2.2.1.length:Int) then if(0:Int)≤List.getD x.1.2.2.1 (Int.toNat (IntKind.i64.wrap (List.getD x.1.2.2.2 (Int.toNat x.2.1) (0:Int)+x.2.2.1))) (0:Int)∧List.getD x.1.2.2.1 (Int.toNat (IntKind.i64.wrap (List.getD
 x.1.2.2.2 (Int.toNat x.2.1) (0:Int)+x.2.2.1))) (0:Int)<(x.1.2.1.length:Int) then some (List.getD x.1.2.1 (Int.toNat (List.getD x.1.2.2.1 (Int.toNat (IntKind.i64.wrap (List.getD x.1.2.2.2 (Int.toNat x.2.1) (0:Int)+x.2.2.1))) (0
 :Int))) (0:Int)) else none else none else none
theorem Ld.f42eq: ∀ x,zl Ld.C Ld.f42Γ Ld.f42sig Ld.f42ann Go.Proofs.Tryd.f42 x=Ld.f42F x:=by
 intro x
 kernel_rfl
noncomputable def Ld.f42con:Con:=⟨42,Ld.f42sig,Ld.f42F⟩
theorem Ld.f42ok:Con.Ok Go.Proofs.Tryd.prog Ld.C Ld.f42con:=
 zb (Γ:=Ld.f42Γ) (an:=Ld.f42ann) ⟨Ld.Cok,(fun _ h=>nomatch h),Ld.mixed⟩ Go.Proofs.Tryd.func42 rfl rfl (fun x y h=>(Ld.f42eq x).trans h) (by decide)
def Ld.f43sig:Sig:=⟨⟨[.hole (.int .i64)], []⟩,⟨[.hole (.int .i64)], []⟩⟩
noncomputable def Ld.f43Γ:List Con:= []
def Ld.f43ann:Ann:=(.seq .leaf (.seq (.seq .leaf (.cond (.seq .leaf .leaf) .leaf)) (.seq .leaf .leaf)))
noncomputable def Ld.f43F:Int→Option (Int):=fun(x:Int)=>if(IntKind.i64.wrap (↑(BitVec.toNat (BitVec.ofInt (IntKind.bits IntKind.i64) x &&& BitVec.ofInt (IntKind.bits IntKind.i64) (1:Int))):Int)==(1:Int))=true then some
 (1:Int) else some (0:Int)
theorem Ld.f43eq: ∀ x,zl Ld.C Ld.f43Γ Ld.f43sig Ld.f43ann Go.Proofs.Tryd.f43 x=Ld.f43F x:=by
 intro x
 kernel_rfl
noncomputable def Ld.f43con:Con:=⟨43,Ld.f43sig,Ld.f43F⟩
theorem Ld.f43ok:Con.Ok Go.Proofs.Tryd.prog Ld.C Ld.f43con:=
 zb (Γ:=Ld.f43Γ) (an:=Ld.f43ann) ⟨Ld.Cok,(fun _ h=>nomatch h),Ld.mixed⟩ Go.Proofs.Tryd.func43 rfl rfl (fun x y h=>(Ld.f43eq x).trans h) (by decide)
def Ld.f28sig:Sig:=⟨⟨[.ro (.st (.pair (.sl (.int .i64)) (.pair (.sl (.int .i64)) (.pair (.sl (.int .i64)) (.sl (.int .i64)))))), .hole (.sl (.int .i64)), .hole (.int .i64)], []⟩,⟨[.hole (.st (.pair (.sl (.int .i64)) (.pair (.int .i64)
 (.pair (.int .i64) (.int .i64)))))], []⟩⟩
noncomputable def Ld.f28Γ:List Con:= [Ld.f27con,Ld.f42con,Ld.f43con]
def Ld.f28ann:Ann:=(.seq .leaf (.seq .leaf (.seq .leaf (.seq .leaf (.seq (.join [⟨.normal, [(10, .hole (.int .i64))], [.cells [.own 2, .hole (.int .i64), .hole (.int .i64), .hole (.int .i64)], .cells [.hole (.sl (.int .i64)), .hole
 (.int .i64), .hole (.int .i64), .hole (.int .i64)], .arr 3 (.int .i64)]⟩] (.seq .leaf (.seq (.join [⟨.normal, [(44, .hole .bool)], [.cells [.own 2, .hole (.int .i64), .hole (.int .i64), .hole (.int .i64)], .cells [.hole (.sl (.int .i64)),
 .hole (.int .i64), .hole (.int .i64), .hole (.int .i64)], .arr 3 (.int .i64)]⟩] .leaf) (.cond .leaf .leaf)))) (.seq (.eff 3 [] [0,1,0,0,0,28,63,127,0,256,768,1792,0,7936,16128,0,65280,131071,255,524287,1048575,2097151])
 (.seq .leaf .leaf)))))))
noncomputable def Ld.f28F:(List Int×List Int×List Int×List Int)×List Int×Int→Option (List Int×Int×Int×Int):=fun(x:(List Int×List Int×List Int×List Int)×List Int×Int)=>if(0:Int)≤(0:Int)∧(0:Int)
 <(x.2.1.length:Int) then if(0:Int)≤IntKind.i64.wrap ((x.2.1.length:Int) - (1:Int))∧IntKind.i64.wrap ((x.2.1.length:Int) - (1:Int))<(x.2.1.length:Int) then if(0:Int)≤List.getD x.2.1 (Int.toNat (0:Int)) (0:Int)
 ∧List.getD x.2.1 (Int.toNat (0:Int)) (0:Int)<(x.1.2.1.length:Int) then Option.bind (if(0:Int)≤List.getD x.2.1 (Int.toNat (IntKind.i64.wrap ((x.2.1.length:Int) - (1:Int)))) (0:Int)∧List.getD x.2.1 (Int.toNat
 (IntKind.i64.wrap ((x.2.1.length:Int) - (1:Int)))) (0:Int)<(x.1.1.length:Int) then Option.bind (if(List.getD x.1.1 (Int.toNat (List.getD x.2.1 (Int.toNat (IntKind.i64.wrap ((x.2.1.length:Int) - (1:Int)))) (0:Int))) (0:
 Int)!=(10:Int))=true then Option.bind (Ld.f27F (List.getD x.1.1 (Int.toNat (List.getD x.2.1 (Int.toNat (IntKind.i64.wrap ((x.2.1.length:Int) - (1:Int)))) (0:Int))) (0:Int))) fun v1=>some (!v1,(0:Int),(0:Int),(0:
 Int),x.2.1,List.getD x.1.2.1 (Int.toNat (List.getD x.2.1 (Int.toNat (0:Int)) (0:Int))) (0:Int),(0:Int),(0:Int), []) else some (false,(0:Int),(0:Int),(0:Int),x.2.1,List.getD x.1.2.1 (Int.toNat (List.getD x.2.1
 (Int.toNat (0:Int)) (0:Int))) (0:Int),(0:Int),(0:Int), [])) fun(v1:Bool×Int×Int×Int×List Int×Int×Int×Int×List Int)=>if v1.1=true then Option.bind (Ld.f42F (x.1,List.getD x.2.1 (Int.toNat (IntKind.i64.wrap
 ((x.2.1.length:Int) - (1:Int)))) (0:Int),(1:Int),x.2.2)) fun v2=>some (v2,v1.2.1,v1.2.2.1,v1.2.2.2.1,v1.2.2.2.2.1,v1.2.2.2.2.2.1,v1.2.2.2.2.2.2.1,v1.2.2.2.2.2.2.2.1,v1.2.2.2.2.2.2.2.2) else some (x.2.2,v1.2.1,v1.2.2.1,
 v1.2.2.2.1,v1.2.2.2.2.1,v1.2.2.2.2.2.1,v1.2.2.2.2.2.2.1,v1.2.2.2.2.2.2.2.1,v1.2.2.2.2.2.2.2.2) else none) fun(v1:Int×Int×Int×Int×List Int×Int×Int×Int×List Int)=>Option.bind (Ld.f42F (x.1,List.getD x.2.1 (Int.toNat
 (0:Int)) (0:Int),(-1:Int),x.2.2)) fun v2=>Option.bind (Ld.f43F (zll v1.2.2.2.2.2.1 v2)) fun v3=>if(0:Int)≤List.getD x.2.1 (Int.toNat (IntKind.i64.wrap ((x.2.1.length:Int) - (1:Int)))) (0:Int)∧List.getD x.2.1
 (Int.toNat (IntKind.i64.wrap ((x.2.1.length:Int) - (1:Int)))) (0:Int)<(x.1.2.1.length:Int) then Option.bind (Ld.f43F (zll (List.getD x.1.2.1 (Int.toNat (List.getD x.2.1 (Int.toNat (IntKind.i64.wrap ((x.2.1.length:Int) - (1:
 Int)))) (0:Int))) (0:Int)) v1.1)) fun v4=>some (v1.2.2.2.2.1,v1.2.2.2.2.2.1,v3,v4) else none else none else none else none
theorem Ld.f28eq: ∀ x,zl Ld.C Ld.f28Γ Ld.f28sig Ld.f28ann Go.Proofs.Tryd.f28 x=Ld.f28F x:=by
 intro x
 kernel_rfl
noncomputable def Ld.f28con:Con:=⟨28,Ld.f28sig,Ld.f28F⟩
theorem Ld.f28ok:Con.Ok Go.Proofs.Tryd.prog Ld.C Ld.f28con:=
 zb (Γ:=Ld.f28Γ) (an:=Ld.f28ann) ⟨Ld.Cok,(List.forall_mem_cons.2 ⟨Ld.f27ok,(List.forall_mem_cons.2 ⟨Ld.f42ok,(List.forall_mem_cons.2 ⟨Ld.f43ok,(fun _ h=>nomatch h)⟩)⟩)⟩),Ld.mixed⟩ Go.Proofs.Tryd.func28 rfl rfl (fun x y h=>(Ld.f28eq x).trans h) (by decide)
def Ld.f17sig:Sig:=⟨⟨[.hole (.sl (.int .i64)), .hole (.sl (.int .i64)), .hole (.int .i64)], []⟩,⟨[.hole (.sl (.st (.pair (.sl (.int .i64)) (.pair (.int .i64) (.pair (.int .i64) (.int .i64))))))], []⟩⟩
noncomputable def Ld.f17Γ:List Con:= [Ld.f24con,Ld.f25con,Ld.f26con,Ld.f27con,Ld.f28con]
def Ld.f17ann:Ann:=(.seq .leaf (.seq (.seq .leaf (.cond (.seq .leaf .leaf) .leaf)) (.seq .leaf (.seq .leaf (.seq .leaf (.seq .leaf (.seq (.seq .leaf (.block (.loop ⟨.normal, [(10, .own 4),(33, .hole (.int .i64))], [.gone, .gone, .gone,
 .map (.int .i64) (.int .i64), .arr 24 (.osl (.int .i64))]⟩ [⟨(.exit 0), [(10, .own 4)], [.gone, .gone, .gone, .gone, .arr 24 (.osl (.int .i64))]⟩] (.seq .leaf (.seq (.cond .leaf .leaf) (.seq (.block (.seq .leaf (.seq .leaf (.seq (.join
 [⟨.normal, [(13, .hole (.int .i64)),(10, .own 5)], [.gone, .gone, .gone, .map (.int .i64) (.int .i64), .gone, .arr 24 (.osl (.int .i64))]⟩] (.seq .leaf (.cond (.seq .leaf .leaf) .leaf))) (.seq .leaf (.seq .leaf (.seq (.join [⟨.normal,
 [(78, .hole .bool)], [.gone, .gone, .gone, .map (.int .i64) (.int .i64), .gone, .arr 24 (.osl (.int .i64)), .gone, .gone]⟩] .leaf) (.cond .leaf .leaf)))))))) .leaf)))))) (.seq .leaf (.seq (.seq .leaf (.block (.loop ⟨.normal, [(16, .own 5),
 (88, .hole (.int .i64))], [.gone, .gone, .gone, .gone, .arr 24 (.osl (.int .i64)), .arr 43 (.st (.pair (.sl (.int .i64)) (.pair (.int .i64) (.pair (.int .i64) (.int .i64)))))]⟩ [⟨(.exit 2), [(16, .own 5)], [.gone, .gone, .gone, .gone,
 .gone, .arr 43 (.st (.pair (.sl (.int .i64)) (.pair (.int .i64) (.pair (.int .i64) (.int .i64)))))]⟩] (.seq .leaf (.seq (.cond .leaf .leaf) (.seq (.block (.seq .leaf .leaf)) .leaf)))))) (.seq .leaf .leaf))))))))))
noncomputable def Ld.f17F:List Int×List Int×Int→Option (List (List Int×Int×Int×Int)):=fun(x:List Int×List Int×Int)=>if((x.1.length:Int)!=(x.2.1.length:Int))=true then some [] else Option.bind (Ld.f24F (x.1,
 x.2.1)) fun(v1:List Int×List Int×List Int×List Int)=>Option.bind (Ld.f25F x.1) fun(v2:List Int)=>Option.bind (Ld.f26F (v1.1,v1.2.1,v1.2.2.1,v1.2.2.2)) fun(v3:List (List Int))=>Option.bind (iter (fun(s4:Int×List
 (Int×Int)×List (Bool×List Int))=>if decide (s4.1<(v3.length:Int))=true then if(0:Int)≤s4.1∧s4.1<(v3.length:Int) then if(0:Int)≤(0:Int)∧(0:Int)<(↑(List.length (List.getD v3 (Int.toNat s4.1) [])):Int)
 then Option.bind (if(!Option.isSome (zo4 (Ty.int IntKind.i64) (Ty.int IntKind.i64) s4.2.1 (List.getD (List.getD v3 (Int.toNat s4.1) []) (Int.toNat (0:Int)) (0:Int))))=true then if zk (List.length s4.2.2+(1:Nat)) (24:Nat)
 then some ((s4.2.2.length:Int),s4.2.1,s4.2.2++ [(true, [])]) else none else some (Option.getD (zo4 (Ty.int IntKind.i64) (Ty.int IntKind.i64) s4.2.1 (List.getD (List.getD v3 (Int.toNat s4.1) []) (Int.toNat (0:Int)) (0:Int))) (0:
 Int),s4.2.1,s4.2.2)) fun(v5:Int×List (Int×Int)×List (Bool×List Int))=>if(0:Int)≤v5.1∧v5.1<(v5.2.2.length:Int) then if zub (List.getD v5.2.2 (Int.toNat v5.1) (false, [])).1 then if zk (List.length (List.getD
 v5.2.2 (Int.toNat v5.1) (false, [])).2+List.length (List.getD v3 (Int.toNat s4.1) [])) (8:Nat) then if(0:Int)≤v5.1∧v5.1<(↑(List.length (List.set v5.2.2 (Int.toNat v5.1) (false,(List.getD v5.2.2 (Int.toNat v5.1) (false,
 [])).2))):Int) then if(0:Int)≤IntKind.i64.wrap ((↑(List.length (List.getD v3 (Int.toNat s4.1) [])):Int) - (1:Int))∧IntKind.i64.wrap ((↑(List.length (List.getD v3 (Int.toNat s4.1) [])):Int) - (1:Int))<(↑(List.length
 (List.getD v3 (Int.toNat s4.1) [])):Int) then Option.bind (if(0:Int)≤List.getD (List.getD v3 (Int.toNat s4.1) []) (Int.toNat (IntKind.i64.wrap ((↑(List.length (List.getD v3 (Int.toNat s4.1) [])):Int) - (1:Int)))) (0:Int)∧
 List.getD (List.getD v3 (Int.toNat s4.1) []) (Int.toNat (IntKind.i64.wrap ((↑(List.length (List.getD v3 (Int.toNat s4.1) [])):Int) - (1:Int)))) (0:Int)<(x.1.length:Int) then Option.bind (Ld.f27F (List.getD x.1 (Int.toNat
 (List.getD (List.getD v3 (Int.toNat s4.1) []) (Int.toNat (IntKind.i64.wrap ((↑(List.length (List.getD v3 (Int.toNat s4.1) [])):Int) - (1:Int)))) (0:Int))) (0:Int))) fun v6=>if v6=true then if(0:Int)≤List.getD (List.getD v3
 (Int.toNat s4.1) []) (Int.toNat (IntKind.i64.wrap ((↑(List.length (List.getD v3 (Int.toNat s4.1) [])):Int) - (1:Int)))) (0:Int)∧List.getD (List.getD v3 (Int.toNat s4.1) []) (Int.toNat (IntKind.i64.wrap ((↑(List.length (List.getD v3
 (Int.toNat s4.1) [])):Int) - (1:Int)))) (0:Int)<(v2.length:Int) then some (List.getD v2 (Int.toNat (List.getD (List.getD v3 (Int.toNat s4.1) []) (Int.toNat (IntKind.i64.wrap ((↑(List.length (List.getD v3 (Int.toNat s4.1) [])):
 Int) - (1:Int)))) (0:Int))) (0:Int)!=(-1:Int),v5.2.1,List.set (List.set v5.2.2 (Int.toNat v5.1) (false,(List.getD v5.2.2 (Int.toNat v5.1) (false, [])).2)) (Int.toNat v5.1) (true,(List.getD v5.2.2 (Int.toNat v5.1) (false,
 [])).2++List.getD v3 (Int.toNat s4.1) [])) else none else some (false,v5.2.1,List.set (List.set v5.2.2 (Int.toNat v5.1) (false,(List.getD v5.2.2 (Int.toNat v5.1) (false, [])).2)) (Int.toNat v5.1) (true,(List.getD v5.2.2 (Int.toNat
 v5.1) (false, [])).2++List.getD v3 (Int.toNat s4.1) [])) else none) fun(v6:Bool×List (Int×Int)×List (Bool×List Int))=>if v6.1=true then if(0:Int)≤List.getD (List.getD v3 (Int.toNat s4.1) []) (Int.toNat
 (IntKind.i64.wrap ((↑(List.length (List.getD v3 (Int.toNat s4.1) [])):Int) - (1:Int)))) (0:Int)∧List.getD (List.getD v3 (Int.toNat s4.1) []) (Int.toNat (IntKind.i64.wrap ((↑(List.length (List.getD v3 (Int.toNat s4.1) [])):Int) -
 (1:Int)))) (0:Int)<(v2.length:Int) then some (Sum.inl (IntKind.i64.wrap (s4.1+(1:Int)),z0d (Ty.int IntKind.i64) (Ty.int IntKind.i64) v6.2.1 (List.getD v2 (Int.toNat (List.getD (List.getD v3 (Int.toNat s4.1) []) (Int.toNat
 (IntKind.i64.wrap ((↑(List.length (List.getD v3 (Int.toNat s4.1) [])):Int) - (1:Int)))) (0:Int))) (0:Int)) v5.1,v6.2.2)) else none else some (Sum.inl (IntKind.i64.wrap (s4.1+(1:Int)),v6.2.1,v6.2.2)) else none else none else
 none else none else none else none else none else some (Sum.inr s4.2.2)) ((0:Int), [], [])) fun(v4:List (Bool×List Int))=>Option.bind (iter (fun(s5:Int×List (Bool×List Int)×List (List Int×Int×Int×Int))=>if decide
 (s5.1<(v4.length:Int))=true then if(0:Int)≤s5.1∧s5.1<(s5.2.1.length:Int) then Option.bind (Ld.f28F ((v1.1,v1.2.1,v1.2.2.1,v1.2.2.2),(List.getD s5.2.1 (Int.toNat s5.1) (false, [])).2,x.2.2)) fun(v6:List Int×Int×
 Int×Int)=>if zk (List.length s5.2.2+(1:Nat)) (48:Nat) then some (Sum.inl (IntKind.i64.wrap (s5.1+(1:Int)),s5.2.1,s5.2.2++ [v6])) else none else none else some (Sum.inr s5.2.2)) ((0:Int),v4, [])) fun(v5:List (List
 Int×Int×Int×Int))=>some v5
theorem Ld.f17eq: ∀ x,zl Ld.C Ld.f17Γ Ld.f17sig Ld.f17ann Go.Proofs.Tryd.f17 x=Ld.f17F x:=by
 intro x
 kernel_rfl
noncomputable def Ld.f17con:Con:=⟨17,Ld.f17sig,Ld.f17F⟩
theorem Ld.f17ok:Con.Ok Go.Proofs.Tryd.prog Ld.C Ld.f17con:=
 zb (Γ:=Ld.f17Γ) (an:=Ld.f17ann) ⟨Ld.Cok,(List.forall_mem_cons.2 ⟨Ld.f24ok,(List.forall_mem_cons.2 ⟨Ld.f25ok,(List.forall_mem_cons.2 ⟨Ld.f26ok,(List.forall_mem_cons.2 ⟨Ld.f27ok,(List.forall_mem_cons.2 ⟨Ld.f28ok,(fun _ h=>nomatch h)⟩)⟩)⟩)⟩)⟩),Ld.mixed⟩ Go.Proofs.Tryd.func17 rfl rfl (fun x y h=>(Ld.f17eq x).trans h) (by decide)
def Ld.s1sig:Sig:=⟨⟨[.own 0, .hole (.sl (.int .i64))], [.arr 3 (.int .i64)]⟩,⟨[.hole (.sl (.int .i64))], [.arr 3 (.int .i64)]⟩⟩
noncomputable def Ld.s1Γ:List Con:= []
def Ld.s1ann:Ann:=(.seq .leaf (.seq .leaf (.seq (.seq .leaf (.block (.loop ⟨.normal, [(13, .hole (.int .i64))], [.arr 3 (.int .i64), .arr 3 (.int .i64)]⟩ [⟨(.exit 0), [], [.arr 3 (.int .i64), .arr 3 (.int .i64)]⟩] (.seq .leaf (.seq
 (.cond .leaf .leaf) (.seq (.block (.seq .leaf .leaf)) .leaf)))))) (.seq .leaf .leaf))))
noncomputable def Ld.s1F:List Int×List Int→Option (List Int×List Int):=fun(x:List Int×List Int)=>if(0:Int)≤(x.1.length:Int)∧(x.1.length:Int)≤(x.1.length:Int)∧zk (Int.toNat (x.1.length:Int)) (8:Nat)
 then Option.bind (iter (fun(s1:Int×List Int×List Int)=>if decide (s1.1<(x.1.length:Int))=true then if(0:Int)≤s1.1∧s1.1<(x.1.length:Int) then if(0:Int)≤List.getD x.1 (Int.toNat s1.1) (0:Int)∧List.getD x.1
 (Int.toNat s1.1) (0:Int)<(s1.2.1.length:Int) then if(0:Int)≤s1.1∧s1.1<(s1.2.2.length:Int) then some (Sum.inl (IntKind.i64.wrap (s1.1+(1:Int)),s1.2.1,List.set s1.2.2 (Int.toNat s1.1) (List.getD s1.2.1 (Int.toNat
 (List.getD x.1 (Int.toNat s1.1) (0:Int))) (0:Int)))) else none else none else none else some (Sum.inr (s1.2.1,s1.2.2))) ((0:Int),x.2,List.replicate (Int.toNat (x.1.length:Int)) (0:Int))) fun(v1:List Int×List Int)=>some
 (v1.2,v1.1) else none
theorem Ld.s1eq: ∀ x,zl Ld.C Ld.s1Γ Ld.s1sig Ld.s1ann Go.Proofs.Tryd.f29 x=Ld.s1F x:=by
 intro x
 kernel_rfl
noncomputable def Ld.s1con:Con:=⟨29,Ld.s1sig,Ld.s1F⟩
theorem Ld.s1ok:Con.Ok Go.Proofs.Tryd.prog Ld.C Ld.s1con:=
 zb (Γ:=Ld.s1Γ) (an:=Ld.s1ann) ⟨Ld.Cok,(fun _ h=>nomatch h),Ld.mixed⟩ Go.Proofs.Tryd.func29 rfl rfl (fun x y h=>(Ld.s1eq x).trans h) (by decide)
def Ld.f29sig:Sig:=⟨⟨[.hole (.sl (.int .i64)), .hole (.sl (.int .i64))], []⟩,⟨[.hole (.sl (.int .i64))], []⟩⟩
noncomputable def Ld.f29Γ:List Con:= []
def Ld.f29ann:Ann:=(.seq .leaf (.seq .leaf (.seq (.seq .leaf (.block (.loop ⟨.normal, [(13, .hole (.int .i64))], [.arr 3 (.int .i64)]⟩ [⟨(.exit 0), [], [.arr 3 (.int .i64)]⟩] (.seq .leaf (.seq (.cond .leaf .leaf) (.seq (.block (.seq
 .leaf .leaf)) .leaf)))))) (.seq .leaf .leaf))))
noncomputable def Ld.f29F:List Int×List Int→Option (List Int):=fun(x:List Int×List Int)=>if(0:Int)≤(x.2.length:Int)∧(x.2.length:Int)≤(x.2.length:Int)∧zk (Int.toNat (x.2.length:Int)) (8:Nat) then
 Option.bind (iter (fun(s1:Int×List Int)=>if decide (s1.1<(x.2.length:Int))=true then if(0:Int)≤s1.1∧s1.1<(x.2.length:Int) then if(0:Int)≤List.getD x.2 (Int.toNat s1.1) (0:Int)∧List.getD x.2 (Int.toNat s1.1)
 (0:Int)<(x.1.length:Int) then if(0:Int)≤s1.1∧s1.1<(s1.2.length:Int) then some (Sum.inl (IntKind.i64.wrap (s1.1+(1:Int)),List.set s1.2 (Int.toNat s1.1) (List.getD x.1 (Int.toNat (List.getD x.2 (Int.toNat s1.1) (0:
 Int))) (0:Int)))) else none else none else none else some (Sum.inr s1.2)) ((0:Int),List.replicate (Int.toNat (x.2.length:Int)) (0:Int))) fun(v1:List Int)=>some v1 else none
theorem Ld.f29eq: ∀ x,zl Ld.C Ld.f29Γ Ld.f29sig Ld.f29ann Go.Proofs.Tryd.f29 x=Ld.f29F x:=by
 intro x
 kernel_rfl
noncomputable def Ld.f29con:Con:=⟨29,Ld.f29sig,Ld.f29F⟩
theorem Ld.f29ok:Con.Ok Go.Proofs.Tryd.prog Ld.C Ld.f29con:=
 zb (Γ:=Ld.f29Γ) (an:=Ld.f29ann) ⟨Ld.Cok,(fun _ h=>nomatch h),Ld.mixed⟩ Go.Proofs.Tryd.func29 rfl rfl (fun x y h=>(Ld.f29eq x).trans h) (by decide)
def Ld.f44sig:Sig:=⟨⟨[.hole (.sl (.int .i64))], []⟩,⟨[.own 0], [.arr 3 (.int .i64)]⟩⟩
noncomputable def Ld.f44Γ:List Con:= [Ld.f62con]
def Ld.f44ann:Ann:=(.seq .leaf (.seq .leaf (.seq (.seq .leaf (.block (.loop ⟨.normal, [(11, .hole (.int .i64))], [.arr 3 (.int .i64)]⟩ [⟨(.exit 0), [], [.arr 3 (.int .i64)]⟩] (.seq .leaf (.seq (.cond .leaf .leaf) (.seq (.block (.seq
 .leaf (.seq .leaf (.seq .leaf (.cond .leaf .leaf))))) .leaf)))))) (.seq .leaf .leaf))))
noncomputable def Ld.f44F:List Int→Option (List Int):=fun(x:List Int)=>if(0:Int)≤(x.length:Int)∧(x.length:Int)≤(x.length:Int)∧zk (Int.toNat (x.length:Int)) (8:Nat) then Option.bind (iter (fun(s1:Int×
 List Int)=>if decide (s1.1<(x.length:Int))=true then if(0:Int)≤s1.1∧s1.1<(x.length:Int) then if(0:Int)≤s1.1∧s1.1<(s1.2.length:Int) then Option.bind (Ld.f62F (List.getD x (Int.toNat s1.1) (0:Int))) fun v2=>
 if(ByteArray.toList v2==ByteArray.toList { data:= #[]:ByteArray})=true then if(0:Int)≤s1.1∧s1.1<(↑(List.length (List.set s1.2 (Int.toNat s1.1) (List.getD x (Int.toNat s1.1) (0:Int)))):Int) then some (Sum.inl
 (IntKind.i64.wrap (s1.1+(1:Int)),List.set (List.set s1.2 (Int.toNat s1.1) (List.getD x (Int.toNat s1.1) (0:Int))) (Int.toNat s1.1) (0:Int))) else none else some (Sum.inl (IntKind.i64.wrap (s1.1+(1:Int)),List.set s1.2
 (Int.toNat s1.1) (List.getD x (Int.toNat s1.1) (0:Int)))) else none else none else some (Sum.inr s1.2)) ((0:Int),List.replicate (Int.toNat (x.length:Int)) (0:Int))) fun(v1:List Int)=>some v1 else none
theorem Ld.f44eq: ∀ x,zl Ld.C Ld.f44Γ Ld.f44sig Ld.f44ann Go.Proofs.Tryd.f44 x=Ld.f44F x:=by
 intro x
 kernel_rfl
noncomputable def Ld.f44con:Con:=⟨44,Ld.f44sig,Ld.f44F⟩
theorem Ld.f44ok:Con.Ok Go.Proofs.Tryd.prog Ld.C Ld.f44con:=
 zb (Γ:=Ld.f44Γ) (an:=Ld.f44ann) ⟨Ld.Cok,(List.forall_mem_cons.2 ⟨Ld.f62ok,(fun _ h=>nomatch h)⟩),Ld.mixed⟩ Go.Proofs.Tryd.func44 rfl rfl (fun x y h=>(Ld.f44eq x).trans h) (by decide)
def Ld.f46sig:Sig:=⟨⟨[.hole (.int .i64)], []⟩,⟨[.hole (.int .i64)], []⟩⟩
noncomputable def Ld.f46Γ:List Con:= []
def Ld.f46ann:Ann:=(.seq .leaf (.seq (.seq .leaf (.cond (.seq .leaf .leaf) .leaf)) (.seq .leaf .leaf)))
noncomputable def Ld.f46F:Int→Option (Int):=fun(x:Int)=>if(x !=(1:Int))=true then some (0:Int) else some x
theorem Ld.f46eq: ∀ x,zl Ld.C Ld.f46Γ Ld.f46sig Ld.f46ann Go.Proofs.Tryd.f46 x=Ld.f46F x:=by
 intro x
 kernel_rfl
noncomputable def Ld.f46con:Con:=⟨46,Ld.f46sig,Ld.f46F⟩
theorem Ld.f46ok:Con.Ok Go.Proofs.Tryd.prog Ld.C Ld.f46con:=
 zb (Γ:=Ld.f46Γ) (an:=Ld.f46ann) ⟨Ld.Cok,(fun _ h=>nomatch h),Ld.mixed⟩ Go.Proofs.Tryd.func46 rfl rfl (fun x y h=>(Ld.f46eq x).trans h) (by decide)
def Ld.f63sig:Sig:=⟨⟨[.own 0, .hole (.int .i64)], [.arr 3 (.int .i64)]⟩,⟨[], [.arr 3 (.int .i64)]⟩⟩
noncomputable def Ld.f63Γ:List Con:= [Ld.f27con]
def Ld.f63ann:Ann:=(.seq .leaf (.seq .leaf (.block (.loop ⟨.normal, [(4, .hole (.int .i64)),(10, .hole (.int .i64))], [.arr 3 (.int .i64)]⟩ [⟨(.exit 0), [], [.arr 3 (.int .i64)]⟩] (.seq .leaf (.seq (.cond .leaf .leaf) (.seq (.block
 (.seq .leaf (.seq (.join [⟨.normal, [], [.arr 3 (.int .i64)]⟩] (.seq .leaf (.cond .leaf .leaf))) (.seq .leaf (.seq (.join [⟨.normal, [(30, .hole .bool)], [.arr 3 (.int .i64)]⟩] .leaf) (.cond .leaf .leaf)))))) .leaf)))))))
noncomputable def Ld.f63F:Int×List Int→Option (List Int):=fun(x:Int×List Int)=>Option.bind (iter (fun(s1:Int×Int×List Int)=>if decide (s1.2.1<(x.2.length:Int))=true then if(0:Int)≤s1.2.1∧s1.2.1<
 (s1.2.2.length:Int) then Option.bind (if(List.getD s1.2.2 (Int.toNat s1.2.1) (0:Int)==(8:Int))=true then if(0:Int)≤s1.2.1∧s1.2.1<(s1.2.2.length:Int) then some (List.set s1.2.2 (Int.toNat s1.2.1) s1.1) else none else
 some s1.2.2) fun(v2:List Int)=>if(0:Int)≤s1.2.1∧s1.2.1<(v2.length:Int) then Option.bind (Option.bind (Ld.f27F (List.getD v2 (Int.toNat s1.2.1) (0:Int))) fun v3=>if v3=true then some (true,v2) else some (List.getD v2
 (Int.toNat s1.2.1) (0:Int)==(22:Int),v2)) fun(v3:Bool×List Int)=>if v3.1=true then some (Sum.inl ((13:Int),IntKind.i64.wrap (s1.2.1+(1:Int)),v3.2)) else some (Sum.inl (List.getD v2 (Int.toNat s1.2.1) (0:Int),
 IntKind.i64.wrap (s1.2.1+(1:Int)),v3.2)) else none else none else some (Sum.inr s1.2.2)) (x.1,(0:Int),x.2)) fun(v1:List Int)=>some v1
theorem Ld.f63eq: ∀ x,zl Ld.C Ld.f63Γ Ld.f63sig Ld.f63ann Go.Proofs.Tryd.f63 x=Ld.f63F x:=by
 intro x
 kernel_rfl
noncomputable def Ld.f63con:Con:=⟨63,Ld.f63sig,Ld.f63F⟩
theorem Ld.f63ok:Con.Ok Go.Proofs.Tryd.prog Ld.C Ld.f63con:=
 zb (Γ:=Ld.f63Γ) (an:=Ld.f63ann) ⟨Ld.Cok,(List.forall_mem_cons.2 ⟨Ld.f27ok,(fun _ h=>nomatch h)⟩),Ld.mixed⟩ Go.Proofs.Tryd.func63 rfl rfl (fun x y h=>(Ld.f63eq x).trans h) (by decide)
def Ld.f80sig:Sig:=⟨⟨[.hole (.int .i64)], []⟩,⟨[.hole .bool], []⟩⟩
noncomputable def Ld.f80Γ:List Con:= [Ld.f41con,Ld.f40con]
def Ld.f80ann:Ann:=(.seq .leaf (.seq .leaf .leaf))
noncomputable def Ld.f80F:Int→Option (Bool):=fun(x:Int)=>Option.bind (Ld.f41F [(0:Int),(1:Int),(2:Int)]) fun v1=>Option.bind (Ld.f40F (x,v1)) fun v2=>some v2
theorem Ld.f80eq: ∀ x,zl Ld.C Ld.f80Γ Ld.f80sig Ld.f80ann Go.Proofs.Tryd.f80 x=Ld.f80F x:=by
 intro x
 kernel_rfl
noncomputable def Ld.f80con:Con:=⟨80,Ld.f80sig,Ld.f80F⟩
theorem Ld.f80ok:Con.Ok Go.Proofs.Tryd.prog Ld.C Ld.f80con:=
 zb (Γ:=Ld.f80Γ) (an:=Ld.f80ann) ⟨Ld.Cok,(List.forall_mem_cons.2 ⟨Ld.f41ok,(List.forall_mem_cons.2 ⟨Ld.f40ok,(fun _ h=>nomatch h)⟩)⟩),Ld.mixed⟩ Go.Proofs.Tryd.func80 rfl rfl (fun x y h=>(Ld.f80eq x).trans h) (by decide)
def Ld.f81sig:Sig:=⟨⟨[.hole (.int .i64), .hole (.int .i64), .ptr 0 0, .ptr 1 0, .ptr 2 0, .ptr 3 0], [.cells [.own 4], .cells [.hole (.int .i64)], .cells [.hole (.int .i64)], .cells [.hole (.int .i64)], .arr 3 (.int .i64)]⟩,⟨[],
 [.cells [.own 4], .cells [.hole (.int .i64)], .cells [.hole (.int .i64)], .cells [.hole (.int .i64)], .arr 3 (.int .i64)]⟩⟩
noncomputable def Ld.f81Γ:List Con:= []
def Ld.f81ann:Ann:=(.seq (.join [⟨.normal, [(18, .hole .bool)], [.cells [.own 4], .cells [.hole (.int .i64)], .cells [.hole (.int .i64)], .cells [.hole (.int .i64)], .arr 3 (.int .i64)]⟩] .leaf) (.cond .leaf .leaf))
noncomputable def Ld.f81F:Int×Int×Int×Int×Int×List Int→Option (Int×Int×Int×List Int):=fun(x:Int×Int×Int×Int×Int×List Int)=>Option.bind (if(0:Int)≤x.1∧x.1<(x.2.2.2.2.2.length:Int) then if
 (List.getD x.2.2.2.2.2 (Int.toNat x.1) (0:Int)==x.2.2.1)=true then some (x.2.1==x.2.2.2.1,x.2.2.1,x.2.2.2.1,x.2.2.2.2.1,x.2.2.2.2.2) else some (false,x.2.2.1,x.2.2.2.1,x.2.2.2.2.1,x.2.2.2.2.2) else none) fun(v1:Bool×Int
 ×Int×Int×List Int)=>if v1.1=true then if(0:Int)≤x.1∧x.1<(v1.2.2.2.2.length:Int) then some (v1.2.1,v1.2.2.1,v1.2.2.2.1,List.set v1.2.2.2.2 (Int.toNat x.1) v1.2.2.2.1) else none else some (v1.2.1,v1.2.2.1,v1.2.2.2.1,
 v1.2.2.2.2)
theorem Ld.f81eq: ∀ x,zl Ld.C Ld.f81Γ Ld.f81sig Ld.f81ann Go.Proofs.Tryd.f81 x=Ld.f81F x:=by
 intro x
 kernel_rfl
noncomputable def Ld.f81con:Con:=⟨81,Ld.f81sig,Ld.f81F⟩
theorem Ld.f81ok:Con.Ok Go.Proofs.Tryd.prog Ld.C Ld.f81con:=
 zb (Γ:=Ld.f81Γ) (an:=Ld.f81ann) ⟨Ld.Cok,(fun _ h=>nomatch h),Ld.mixed⟩ Go.Proofs.Tryd.func81 rfl rfl (fun x y h=>(Ld.f81eq x).trans h) (by decide)
def Ld.f79sig:Sig:=⟨⟨[.own 4, .hole (.int .i64), .fnc 80 0, .fnc 81 4, .ptr 0 0, .ptr 1 0, .ptr 2 0, .ptr 3 0], [.cells [.own 4], .cells [.hole (.int .i64)], .cells [.hole (.int .i64)], .cells [.hole (.int .i64)], .arr 3 (.int .i64)]⟩,
 ⟨[], [.cells [.own 4], .cells [.hole (.int .i64)], .cells [.hole (.int .i64)], .cells [.hole (.int .i64)], .arr 3 (.int .i64)]⟩⟩
noncomputable def Ld.f79Γ:List Con:= [Ld.f80con,Ld.f81con]
def Ld.f79ann:Ann:=(.seq .leaf (.seq .leaf (.block (.loop ⟨.normal, [(8, .hole (.int .i64)),(14, .hole (.int .i64))], [.cells [.own 4], .cells [.hole (.int .i64)], .cells [.hole (.int .i64)], .cells [.hole (.int .i64)], .arr 3 (.int
 .i64)]⟩ [⟨(.exit 0), [], [.cells [.own 4], .cells [.hole (.int .i64)], .cells [.hole (.int .i64)], .cells [.hole (.int .i64)], .arr 3 (.int .i64)]⟩] (.seq .leaf (.seq (.cond .leaf .leaf) (.seq (.block (.seq .leaf (.seq .leaf (.seq .leaf
 (.cond .leaf .leaf))))) .leaf)))))))
noncomputable def Ld.f79F:Int×Int×Int×Int×List Int→Option (Int×Int×Int×List Int):=fun(x:Int×Int×Int×Int×List Int)=>Option.bind (iter (fun(s1:Int×Int×Int×Int×Int×List Int)=>if decide (s1.2.1<
 (x.2.2.2.2.length:Int))=true then if(0:Int)≤s1.2.1∧s1.2.1<(s1.2.2.2.2.2.length:Int) then Option.bind (Ld.f81F (s1.2.1,s1.1,s1.2.2.1,s1.2.2.2.1,s1.2.2.2.2.1,s1.2.2.2.2.2)) fun(v2:Int×Int×Int×List Int)=>
 Option.bind (Ld.f80F (List.getD s1.2.2.2.2.2 (Int.toNat s1.2.1) (0:Int))) fun v3=>if v3=true then some (Sum.inl (List.getD s1.2.2.2.2.2 (Int.toNat s1.2.1) (0:Int),IntKind.i64.wrap (s1.2.1+(1:Int)),v2.1,v2.2.1,v2.2.2.1,
 v2.2.2.2)) else some (Sum.inl (s1.1,IntKind.i64.wrap (s1.2.1+(1:Int)),v2.1,v2.2.1,v2.2.2.1,v2.2.2.2)) else none else some (Sum.inr (s1.2.2.1,s1.2.2.2.1,s1.2.2.2.2.1,s1.2.2.2.2.2))) (x.1,(0:Int),x.2.1,x.2.2.1,x.2.2.2.1,
 x.2.2.2.2)) fun(v1:Int×Int×Int×List Int)=>some (v1.1,v1.2.1,v1.2.2.1,v1.2.2.2)
theorem Ld.f79eq: ∀ x,zl Ld.C Ld.f79Γ Ld.f79sig Ld.f79ann Go.Proofs.Tryd.f79 x=Ld.f79F x:=by
 intro x
 kernel_rfl
noncomputable def Ld.f79con:Con:=⟨79,Ld.f79sig,Ld.f79F⟩
theorem Ld.f79ok:Con.Ok Go.Proofs.Tryd.prog Ld.C Ld.f79con:=
 zb (Γ:=Ld.f79Γ) (an:=Ld.f79ann) ⟨Ld.Cok,(List.forall_mem_cons.2 ⟨Ld.f80ok,(List.forall_mem_cons.2 ⟨Ld.f81ok,(fun _ h=>nomatch h)⟩)⟩),Ld.mixed⟩ Go.Proofs.Tryd.func79 rfl rfl (fun x y h=>(Ld.f79eq x).trans h) (by decide)
def Ld.f64sig:Sig:=⟨⟨[.own 0, .hole (.int .i64), .hole (.int .i64), .hole (.int .i64), .hole (.int .i64)], [.arr 3 (.int .i64)]⟩,⟨[], [.arr 3 (.int .i64)]⟩⟩
noncomputable def Ld.f64Γ:List Con:= [Ld.f79con,Ld.f80con]
def Ld.f64ann:Ann:=(.seq .leaf .leaf)
noncomputable def Ld.f64F:Int×Int×Int×Int×List Int→Option (List Int):=fun(x:Int×Int×Int×Int×List Int)=>Option.bind (Ld.f79F (x.1,x.2.1,x.2.2.2.1,x.2.2.1,x.2.2.2.2)) fun(v1:Int×Int×Int×List Int)=>
 some v1.2.2.2
theorem Ld.f64eq: ∀ x,zl Ld.C Ld.f64Γ Ld.f64sig Ld.f64ann Go.Proofs.Tryd.f64 x=Ld.f64F x:=by
 intro x
 kernel_rfl
noncomputable def Ld.f64con:Con:=⟨64,Ld.f64sig,Ld.f64F⟩
theorem Ld.f64ok:Con.Ok Go.Proofs.Tryd.prog Ld.C Ld.f64con:=
 zb (Γ:=Ld.f64Γ) (an:=Ld.f64ann) ⟨Ld.Cok,(List.forall_mem_cons.2 ⟨Ld.f79ok,(List.forall_mem_cons.2 ⟨Ld.f80ok,(fun _ h=>nomatch h)⟩)⟩),Ld.mixed⟩ Go.Proofs.Tryd.func64 rfl rfl (fun x y h=>(Ld.f64eq x).trans h) (by decide)
def Ld.f65sig:Sig:=⟨⟨[.own 0, .hole (.int .i64), .hole (.sl (.int .i64))], [.arr 3 (.int .i64)]⟩,⟨[], [.arr 3 (.int .i64)]⟩⟩
noncomputable def Ld.f65Γ:List Con:= []
def Ld.f65ann:Ann:=(.seq .leaf (.block (.loop ⟨.normal, [(12, .hole (.int .i64))], [.arr 3 (.int .i64)]⟩ [⟨(.exit 0), [], [.arr 3 (.int .i64)]⟩] (.seq .leaf (.seq (.cond .leaf .leaf) (.seq (.block (.seq .leaf (.seq .leaf (.block (.loop
 ⟨.normal, [(19, .hole (.int .i64))], [.arr 3 (.int .i64)]⟩ [⟨(.exit 2), [], [.arr 3 (.int .i64)]⟩] (.seq .leaf (.seq (.cond .leaf .leaf) (.seq (.block (.seq .leaf (.seq .leaf (.cond .leaf .leaf)))) .leaf)))))))) .leaf))))))
noncomputable def Ld.f65F:Int×List Int×List Int→Option (List Int):=fun(x:Int×List Int×List Int)=>Option.bind (iter (fun(s1:Int×List Int)=>if decide (s1.1<(x.2.2.length:Int))=true then if(0:Int)≤s1.1∧
 s1.1<(s1.2.length:Int) then Option.bind (iter (fun(s2:Int×List Int)=>if decide (s2.1<(x.2.1.length:Int))=true then if(0:Int)≤s2.1∧s2.1<(x.2.1.length:Int) then if(List.getD s1.2 (Int.toNat s1.1) (0:Int)==
 List.getD x.2.1 (Int.toNat s2.1) (0:Int))=true then if(0:Int)≤s1.1∧s1.1<(s2.2.length:Int) then some (Sum.inl (IntKind.i64.wrap (s2.1+(1:Int)),List.set s2.2 (Int.toNat s1.1) x.1)) else none else some (Sum.inl
 (IntKind.i64.wrap (s2.1+(1:Int)),s2.2)) else none else some (Sum.inr s2.2)) ((0:Int),s1.2)) fun(v2:List Int)=>some (Sum.inl (IntKind.i64.wrap (s1.1+(1:Int)),v2)) else none else some (Sum.inr s1.2)) ((0:Int),x.2.2)) fun
 (v1:List Int)=>some v1
theorem Ld.f65eq: ∀ x,zl Ld.C Ld.f65Γ Ld.f65sig Ld.f65ann Go.Proofs.Tryd.f65 x=Ld.f65F x:=by
 intro x
 kernel_rfl
noncomputable def Ld.f65con:Con:=⟨65,Ld.f65sig,Ld.f65F⟩
theorem Ld.f65ok:Con.Ok Go.Proofs.Tryd.prog Ld.C Ld.f65con:=
 zb (Γ:=Ld.f65Γ) (an:=Ld.f65ann) ⟨Ld.Cok,(fun _ h=>nomatch h),Ld.mixed⟩ Go.Proofs.Tryd.func65 rfl rfl (fun x y h=>(Ld.f65eq x).trans h) (by decide)
def Ld.f66sig:Sig:=⟨⟨[.own 0], [.arr 3 (.int .i64)]⟩,⟨[], [.arr 3 (.int .i64)]⟩⟩
noncomputable def Ld.f66Γ:List Con:= []
def Ld.f66ann:Ann:=(.seq .leaf (.block (.loop ⟨.normal, [(2, .hole (.int .i64))], [.arr 3 (.int .i64)]⟩ [⟨(.exit 0), [], [.arr 3 (.int .i64)]⟩] (.seq (.seq .leaf (.cond .leaf .leaf)) (.seq (.block (.seq .leaf (.seq (.join [⟨.normal,
 [(49, .hole .bool)], [.arr 3 (.int .i64)]⟩] .leaf) (.cond .leaf .leaf)))) .leaf)))))
noncomputable def Ld.f66F:List Int→Option (List Int):=fun(x:List Int)=>Option.bind (iter (fun(s1:Int×List Int)=>if decide (IntKind.i64.wrap (s1.1+(1:Int))<(s1.2.length:Int))=true then if(0:Int)≤
 IntKind.i64.wrap (s1.1 - (1:Int))∧IntKind.i64.wrap (s1.1 - (1:Int))<(s1.2.length:Int) then if(0:Int)≤s1.1∧s1.1<(s1.2.length:Int) then if(0:Int)≤IntKind.i64.wrap (s1.1+(1:Int))∧IntKind.i64.wrap (s1.1+(1:
 Int))<(s1.2.length:Int) then Option.bind (if(List.getD s1.2 (Int.toNat (IntKind.i64.wrap (s1.1 - (1:Int)))) (0:Int)==List.getD s1.2 (Int.toNat (IntKind.i64.wrap (s1.1+(1:Int)))) (0:Int))=true then if(List.getD s1.2
 (Int.toNat (IntKind.i64.wrap (s1.1 - (1:Int)))) (0:Int)==(3:Int))=true then if(List.getD s1.2 (Int.toNat s1.1) (0:Int)==(4:Int))=true then some (true,s1.2) else if(List.getD s1.2 (Int.toNat s1.1) (0:Int)==(7:Int))
 =true then some (true,s1.2) else if(List.getD s1.2 (Int.toNat (IntKind.i64.wrap (s1.1 - (1:Int)))) (0:Int)==(6:Int))=true then some (List.getD s1.2 (Int.toNat s1.1) (0:Int)==(7:Int),s1.2) else some (false,s1.2) else if
 (List.getD s1.2 (Int.toNat (IntKind.i64.wrap (s1.1 - (1:Int)))) (0:Int)==(6:Int))=true then some (List.getD s1.2 (Int.toNat s1.1) (0:Int)==(7:Int),s1.2) else some (false,s1.2) else some (false,s1.2)) fun(v2:Bool×List
 Int)=>if v2.1=true then if(0:Int)≤s1.1∧s1.1<(v2.2.length:Int) then some (Sum.inl (IntKind.i64.wrap (s1.1+(1:Int)),List.set v2.2 (Int.toNat s1.1) (List.getD s1.2 (Int.toNat (IntKind.i64.wrap (s1.1 - (1:Int)))) (0:
 Int)))) else none else some (Sum.inl (IntKind.i64.wrap (s1.1+(1:Int)),v2.2)) else none else none else none else some (Sum.inr s1.2)) ((1:Int),x)) fun(v1:List Int)=>some v1
theorem Ld.f66eq: ∀ x,zl Ld.C Ld.f66Γ Ld.f66sig Ld.f66ann Go.Proofs.Tryd.f66 x=Ld.f66F x:=by
 intro x
 kernel_rfl
noncomputable def Ld.f66con:Con:=⟨66,Ld.f66sig,Ld.f66F⟩
theorem Ld.f66ok:Con.Ok Go.Proofs.Tryd.prog Ld.C Ld.f66con:=
 zb (Γ:=Ld.f66Γ) (an:=Ld.f66ann) ⟨Ld.Cok,(fun _ h=>nomatch h),Ld.mixed⟩ Go.Proofs.Tryd.func66 rfl rfl (fun x y h=>(Ld.f66eq x).trans h) (by decide)
def Ld.f67sig:Sig:=⟨⟨[.own 0], [.arr 3 (.int .i64)]⟩,⟨[], [.arr 3 (.int .i64)]⟩⟩
noncomputable def Ld.f67Γ:List Con:= []
def Ld.f67ann:Ann:=(.block (.seq .leaf (.seq .leaf (.block (.loop ⟨.normal, [(2, .hole (.int .i64))], [.arr 3 (.int .i64)]⟩ [⟨(.exit 0), [], [.arr 3 (.int .i64)]⟩] (.seq (.seq .leaf (.cond .leaf .leaf)) (.block (.seq (.seq .leaf (.cond
 (.seq .leaf .leaf) .leaf)) (.seq .leaf (.seq (.block (.loop ⟨.normal, [(3, .hole (.int .i64))], [.arr 3 (.int .i64)]⟩ [⟨(.exit 2), [(3, .hole (.int .i64))], [.arr 3 (.int .i64)]⟩] (.seq (.seq (.join [⟨.normal, [(27, .hole .bool)], [.arr 3
 (.int .i64)]⟩] .leaf) (.cond .leaf .leaf)) (.block .leaf)))) (.seq (.join [⟨.normal, [(4, .hole .bool)], [.arr 3 (.int .i64)]⟩] .leaf) (.block (.loop ⟨.normal, [(2, .hole (.int .i64))], [.arr 3 (.int .i64)]⟩ [⟨(.exit 4), [(2, .hole (.int
 .i64))], [.arr 3 (.int .i64)]⟩,⟨(.exit 1), [(2, .hole (.int .i64))], [.arr 3 (.int .i64)]⟩] (.seq (.seq .leaf (.cond .leaf .leaf)) (.seq (.block (.seq (.seq .leaf (.cond (.seq .leaf .leaf) .leaf)) .leaf)) .leaf)))))))))))))))
noncomputable def Ld.f67F:List Int→Option (List Int):=fun(x:List Int)=>Option.bind (iter (fun(s1:Int×List Int)=>if decide (s1.1<(s1.2.length:Int))=true then if(0:Int)≤s1.1∧s1.1<(s1.2.length:Int) then if
 (List.getD s1.2 (Int.toNat s1.1) (0:Int)!=(5:Int))=true then some (Sum.inl (IntKind.i64.wrap (s1.1+(1:Int)),s1.2)) else Option.bind (iter (fun(s2:Int×List Int)=>Option.bind (if decide (s2.1<(s2.2.length:Int))=true
 then if(0:Int)≤s2.1∧s2.1<(s2.2.length:Int) then some (List.getD s2.2 (Int.toNat s2.1) (0:Int)==(5:Int),s2.2) else none else some (false,s2.2)) fun(v3:Bool×List Int)=>if v3.1=true then some (Sum.inl
 (IntKind.i64.wrap (s2.1+(1:Int)),v3.2)) else some (Sum.inr (s2.1,v3.2))) (s1.1,s1.2)) fun(v2:Int×List Int)=>Option.bind (if decide (s1.1 > (0:Int))=true then if(0:Int)≤IntKind.i64.wrap (s1.1 - (1:Int))∧
 IntKind.i64.wrap (s1.1 - (1:Int))<(v2.2.length:Int) then if(List.getD v2.2 (Int.toNat (IntKind.i64.wrap (s1.1 - (1:Int)))) (0:Int)==(3:Int))=true then some (true,v2.2) else if decide (v2.1<(v2.2.length:Int))=true
 then if(0:Int)≤v2.1∧v2.1<(v2.2.length:Int) then some (List.getD v2.2 (Int.toNat v2.1) (0:Int)==(3:Int),v2.2) else none else some (false,v2.2) else none else if decide (v2.1<(v2.2.length:Int))=true then if(0:Int)
 ≤v2.1∧v2.1<(v2.2.length:Int) then some (List.getD v2.2 (Int.toNat v2.1) (0:Int)==(3:Int),v2.2) else none else some (false,v2.2)) fun(v3:Bool×List Int)=>Option.bind (iter (fun(s4:Int×List Int)=>if decide (s4.1<
 v2.1)=true then if(!v3.1)=true then some (Sum.inr (Sum.inr (v2.1,s4.2))) else if(0:Int)≤s4.1∧s4.1<(s4.2.length:Int) then some (Sum.inl (IntKind.i64.wrap (s4.1+(1:Int)),List.set s4.2 (Int.toNat s4.1) (3:Int))) else
 none else some (Sum.inr (Sum.inl (s4.1,s4.2)))) (s1.1,v3.2)) fun(v4:Int×List Int ⊕ Int×List Int)=>Sum.elim (fun(p5:Int×List Int)=>some (Sum.inl (p5.1,p5.2))) (fun(q5:Int×List Int)=>some (Sum.inl (q5.1,q5.2))) v4
 else none else some (Sum.inr s1.2)) ((0:Int),x)) fun(v1:List Int)=>some v1
theorem Ld.f67eq: ∀ x,zl Ld.C Ld.f67Γ Ld.f67sig Ld.f67ann Go.Proofs.Tryd.f67 x=Ld.f67F x:=by
 intro x
 kernel_rfl
noncomputable def Ld.f67con:Con:=⟨67,Ld.f67sig,Ld.f67F⟩
theorem Ld.f67ok:Con.Ok Go.Proofs.Tryd.prog Ld.C Ld.f67con:=
 zb (Γ:=Ld.f67Γ) (an:=Ld.f67ann) ⟨Ld.Cok,(fun _ h=>nomatch h),Ld.mixed⟩ Go.Proofs.Tryd.func67 rfl rfl (fun x y h=>(Ld.f67eq x).trans h) (by decide)
def Ld.f45sig:Sig:=⟨⟨[.own 0, .hole (.int .i64), .hole (.int .i64)], [.arr 3 (.int .i64)]⟩,⟨[], [.arr 3 (.int .i64)]⟩⟩
noncomputable def Ld.f45Γ:List Con:= [Ld.f63con,Ld.f64con,Ld.f65con,Ld.f66con,Ld.f67con]
def Ld.f45ann:Ann:=(.seq .leaf (.block (.seq .leaf (.cond .leaf (.seq .leaf (.cond .leaf (.seq .leaf (.cond .leaf (.seq .leaf (.cond .leaf (.seq .leaf (.cond .leaf (.seq .leaf (.cond .leaf (.seq .leaf (.cond .leaf .leaf))))))))))))))))
noncomputable def Ld.f45F:Int×Int×List Int→Option (List Int):=fun(x:Int×Int×List Int)=>if(x.2.1==(1:Int))=true then Option.bind (Ld.f63F (x.1,x.2.2)) fun(v1:List Int)=>some v1 else if(x.2.1==(2:Int))=
 true then Option.bind (Ld.f64F (x.1,(3:Int),(6:Int),(2:Int),x.2.2)) fun(v1:List Int)=>some v1 else if(x.2.1==(3:Int))=true then Option.bind (Ld.f65F ((1:Int), [(2:Int)],x.2.2)) fun(v1:List Int)=>some v1 else
 if(x.2.1==(4:Int))=true then Option.bind (Ld.f66F x.2.2) fun(v1:List Int)=>some v1 else if(x.2.1==(5:Int))=true then Option.bind (Ld.f67F x.2.2) fun(v1:List Int)=>some v1 else if(x.2.1==(6:Int))=true then
 Option.bind (Ld.f65F ((13:Int), [(4:Int),(5:Int),(7:Int)],x.2.2)) fun(v1:List Int)=>some v1 else if(x.2.1==(7:Int))=true then Option.bind (Ld.f64F (x.1,(3:Int),(0:Int),(0:Int),x.2.2)) fun(v1:List Int)=>
 some v1 else some x.2.2
theorem Ld.f45eq: ∀ x,zl Ld.C Ld.f45Γ Ld.f45sig Ld.f45ann Go.Proofs.Tryd.f45 x=Ld.f45F x:=by
 intro x
 kernel_rfl
noncomputable def Ld.f45con:Con:=⟨45,Ld.f45sig,Ld.f45F⟩
theorem Ld.f45ok:Con.Ok Go.Proofs.Tryd.prog Ld.C Ld.f45con:=
 zb (Γ:=Ld.f45Γ) (an:=Ld.f45ann) ⟨Ld.Cok,(List.forall_mem_cons.2 ⟨Ld.f63ok,(List.forall_mem_cons.2 ⟨Ld.f64ok,(List.forall_mem_cons.2 ⟨Ld.f65ok,(List.forall_mem_cons.2 ⟨Ld.f66ok,(List.forall_mem_cons.2 ⟨Ld.f67ok,(fun _ h=>nomatch h)⟩)⟩)⟩)⟩)⟩),Ld.mixed⟩ Go.Proofs.Tryd.func45 rfl rfl (fun x y h=>(Ld.f45eq x).trans h) (by decide)
def Ld.f30sig:Sig:=⟨⟨[.hole (.sl (.int .i64)), .hole (.int .i64)], []⟩,⟨[.hole (.sl (.int .i64))], []⟩⟩
noncomputable def Ld.f30Γ:List Con:= [Ld.f44con,Ld.f46con,Ld.f45con]
def Ld.f30ann:Ann:=(.seq .leaf (.seq .leaf (.seq (.seq .leaf (.block (.loop ⟨.normal, [(9, .hole (.int .i64))], [.arr 3 (.int .i64)]⟩ [⟨(.exit 0), [], [.arr 3 (.int .i64)]⟩] (.seq .leaf (.seq (.cond .leaf .leaf) (.seq (.block (.seq
 .leaf .leaf)) .leaf)))))) (.seq .leaf .leaf))))
noncomputable def Ld.f30F:List Int×Int→Option (List Int):=fun(x:List Int×Int)=>Option.bind (Ld.f44F x.1) fun(v1:List Int)=>Option.bind (iter (fun(s2:Int×List Int)=>if decide (s2.1<(7:Int))=true then
 Option.bind (Ld.f46F x.2) fun v3=>Option.bind (Ld.f45F (v3,IntKind.i64.wrap (s2.1+(1:Int)),s2.2)) fun(v4:List Int)=>some (Sum.inl (IntKind.i64.wrap (s2.1+(1:Int)),v4)) else some (Sum.inr s2.2)) ((0:Int),v1)) fun(v2:
 List Int)=>some v2
theorem Ld.f30eq: ∀ x,zl Ld.C Ld.f30Γ Ld.f30sig Ld.f30ann Go.Proofs.Tryd.f30 x=Ld.f30F x:=by
 intro x
 kernel_rfl
noncomputable def Ld.f30con:Con:=⟨30,Ld.f30sig,Ld.f30F⟩
theorem Ld.f30ok:Con.Ok Go.Proofs.Tryd.prog Ld.C Ld.f30con:=
 zb (Γ:=Ld.f30Γ) (an:=Ld.f30ann) ⟨Ld.Cok,(List.forall_mem_cons.2 ⟨Ld.f44ok,(List.forall_mem_cons.2 ⟨Ld.f46ok,(List.forall_mem_cons.2 ⟨Ld.f45ok,(fun _ h=>nomatch h)⟩)⟩)⟩),Ld.mixed⟩ Go.Proofs.Tryd.func30 rfl rfl (fun x y h=>(Ld.f30eq x).trans h) (by decide)
def Ld.f12sig:Sig:=⟨⟨[.hole (.sl (.int .i64))], []⟩,⟨[.own 0], [.arr 3 (.int .i64)]⟩⟩
noncomputable def Ld.f12Γ:List Con:= []
def Ld.f12ann:Ann:=(.seq .leaf (.seq (.seq .leaf (.cond (.seq .leaf .leaf) .leaf)) (.seq .leaf .leaf)))
noncomputable def Ld.f12F:List Int→Option (List Int):=fun(x:List Int)=>if Nat.beq (List.length x) (0:Nat)=true then agree (some []) (if zk ((0:Nat)+List.length x) (8:Nat) then some ([]++x) else none) else if
 zk ((0:Nat)+List.length x) (8:Nat) then some ([]++x) else none
theorem Ld.f12eq: ∀ x,zl Ld.C Ld.f12Γ Ld.f12sig Ld.f12ann Go.Proofs.Tryd.f12 x=Ld.f12F x:=by
 intro x
 kernel_rfl
noncomputable def Ld.f12con:Con:=⟨12,Ld.f12sig,Ld.f12F⟩
theorem Ld.f12ok:Con.Ok Go.Proofs.Tryd.prog Ld.C Ld.f12con:=
 zb (Γ:=Ld.f12Γ) (an:=Ld.f12ann) ⟨Ld.Cok,(fun _ h=>nomatch h),Ld.mixed⟩ Go.Proofs.Tryd.func12 rfl rfl (fun x y h=>(Ld.f12eq x).trans h) (by decide)
def Ld.f83sig:Sig:=⟨⟨[.hole (.int .i64)], []⟩,⟨[.hole (.int .i64)], []⟩⟩
noncomputable def Ld.f83Γ:List Con:= []
def Ld.f83ann:Ann:=(.seq .leaf (.seq (.seq (.join [⟨.normal, [(8, .hole .bool)], []⟩] .leaf) (.cond (.seq .leaf .leaf) .leaf)) (.seq .leaf .leaf)))
noncomputable def Ld.f83F:Int→Option (Int):=fun(x:Int)=>Option.bind (if(x==(9001:Int))=true then some true else some (x==(9002:Int))) fun v1=>if v1=true then some (IntKind.i64.wrap (IntKind.i64.wrap (x - (9001:
 Int))+(12296:Int))) else some x
theorem Ld.f83eq: ∀ x,zl Ld.C Ld.f83Γ Ld.f83sig Ld.f83ann Go.Proofs.Tryd.f83 x=Ld.f83F x:=by
 intro x
 kernel_rfl
noncomputable def Ld.f83con:Con:=⟨83,Ld.f83sig,Ld.f83F⟩
theorem Ld.f83ok:Con.Ok Go.Proofs.Tryd.prog Ld.C Ld.f83con:=
 zb (Γ:=Ld.f83Γ) (an:=Ld.f83ann) ⟨Ld.Cok,(fun _ h=>nomatch h),Ld.mixed⟩ Go.Proofs.Tryd.func83 rfl rfl (fun x y h=>(Ld.f83eq x).trans h) (by decide)
def Ld.f69sig:Sig:=⟨⟨[.hole (.int .i64), .hole (.int .i64)], []⟩,⟨[.hole .bool], []⟩⟩
noncomputable def Ld.f69Γ:List Con:= [Ld.other,Ld.f83con]
def Ld.f69ann:Ann:=(.seq .leaf (.seq .leaf (.seq .leaf (.seq .leaf .leaf))))
noncomputable def Ld.f69F:Int×Int→Option (Bool):=fun(x:Int×Int)=>Option.bind (Ld.otherF x.1) fun v1=>Option.bind (Ld.otherF x.2) fun v2=>if v1.2.2=true then if v2.2.2=true then Option.bind (Ld.f83F x.1) fun v3=>
 Option.bind (Ld.f83F x.2) fun v4=>some (v3==v4) else some false else some false
theorem Ld.f69eq: ∀ x,zl Ld.C Ld.f69Γ Ld.f69sig Ld.f69ann Go.Proofs.Tryd.f69 x=Ld.f69F x:=by
 intro x
 kernel_rfl
noncomputable def Ld.f69con:Con:=⟨69,Ld.f69sig,Ld.f69F⟩
theorem Ld.f69ok:Con.Ok Go.Proofs.Tryd.prog Ld.C Ld.f69con:=
 zb (Γ:=Ld.f69Γ) (an:=Ld.f69ann) ⟨Ld.Cok,(List.forall_mem_cons.2 ⟨Ld.otherok,(List.forall_mem_cons.2 ⟨Ld.f83ok,(fun _ h=>nomatch h)⟩)⟩),Ld.mixed⟩ Go.Proofs.Tryd.func69 rfl rfl (fun x y h=>(Ld.f69eq x).trans h) (by decide)
def Ld.f94sig:Sig:=⟨⟨[.hole (.int .u32)], []⟩,⟨[.hole (.int .i64)], []⟩⟩
noncomputable def Ld.f94Γ:List Con:= []
def Ld.f94ann:Ann:=(.seq .leaf (.seq (.join [⟨.normal, [(0, .hole (.int .u32)),(2, .hole (.int .i64))], []⟩] (.seq .leaf (.cond (.seq .leaf .leaf) .leaf))) (.seq (.join [⟨.normal, [(0, .hole (.int .u32)),(2, .hole (.int .i64))], []⟩]
 (.seq .leaf (.cond (.seq .leaf .leaf) .leaf))) (.seq .leaf .leaf))))
noncomputable def Ld.f94F:Int→Option (Int):=fun(x:Int)=>Option.bind (if decide (x≥(65536:Int))=true then some (Int.fdiv x ((2:Int) ^ Min.min (Int.toNat (16:Int)) (IntKind.bits IntKind.u32)),(16:Int)) else some (x,(0
 :Int))) fun v1=>Option.bind (if decide (v1.1≥(256:Int))=true then some (Int.fdiv v1.1 ((2:Int) ^ Min.min (Int.toNat (8:Int)) (IntKind.bits IntKind.u32)),IntKind.i64.wrap (v1.2+(8:Int))) else some (v1.1,v1.2)) fun v2=>if
 (0:Int)≤IntKind.wrap IntKind.u8 v2.1∧IntKind.wrap IntKind.u8 v2.1<(↑(ByteArray.size { data:=List.toArray (List.append (List.append [(0:UInt8),(1:UInt8),(2:UInt8),(2:UInt8),(3:UInt8),(3:UInt8),(3:UInt8),(3:
 UInt8),(4:UInt8),(4:UInt8),(4:UInt8),(4:UInt8),(4:UInt8),(4:UInt8),(4:UInt8),(4:UInt8),(5:UInt8),(5:UInt8),(5:UInt8),(5:UInt8),(5:UInt8),(5:UInt8),(5:UInt8),(5:UInt8),(5:UInt8),(5:
 UInt8),(5:UInt8),(5:UInt8),(5:UInt8),(5:UInt8),(5:UInt8),(5:UInt8),(6:UInt8),(6:UInt8),(6:UInt8),(6:UInt8),(6:UInt8),(6:UInt8),(6:UInt8),(6:UInt8),(6:UInt8),(6:UInt8),(6:UInt8),(6:
 UInt8),(6:UInt8),(6:UInt8),(6:UInt8),(6:UInt8),(6:UInt8),(6:UInt8),(6:UInt8),(6:UInt8),(6:UInt8),(6:UInt8),(6:UInt8),(6:UInt8),(6:UInt8),(6:UInt8),(6:UInt8),(6:UInt8),(6:UInt8),(6:
 UInt8),(6:UInt8),(6:UInt8)] [(7:UInt8),(7:UInt8),(7:UInt8),(7:UInt8),(7:UInt8),(7:UInt8),(7:UInt8),(7:UInt8),(7:UInt8),(7:UInt8),(7:UInt8),(7:UInt8),(7:UInt8),(7:UInt8),(7:UInt8),(7:
 UInt8),(7:UInt8),(7:UInt8),(7:UInt8),(7:UInt8),(7:UInt8),(7:UInt8),(7:UInt8),(7:UInt8),(7:UInt8),(7:UInt8),(7:UInt8),(7:UInt8),(7:UInt8),(7:UInt8),(7:UInt8),(7:UInt8),(7:UInt8),(7:
 UInt8),(7:UInt8),(7:UInt8),(7:UInt8),(7:UInt8),(7:UInt8),(7:UInt8),(7:UInt8),(7:UInt8),(7:UInt8),(7:UInt8),(7:UInt8),(7:UInt8),(7:UInt8),(7:UInt8),(7:UInt8),(7:UInt8),(7:UInt8),(7:
 UInt8),(7:UInt8),(7:UInt8),(7:UInt8),(7:UInt8),(7:UInt8),(7:UInt8),(7:UInt8),(7:UInt8),(7:UInt8),(7:UInt8),(7:UInt8),(7:UInt8)]) (List.append [(8:UInt8),(8:UInt8),(8:UInt8),(8:UInt8),(8:
 UInt8),(8:UInt8),(8:UInt8),(8:UInt8),(8:UInt8),(8:UInt8),(8:UInt8),(8:UInt8),(8:UInt8),(8:UInt8),(8:UInt8),(8:UInt8),(8:UInt8),(8:UInt8),(8:UInt8),(8:UInt8),(8:UInt8),(8:UInt8),(8:
 UInt8),(8:UInt8),(8:UInt8),(8:UInt8),(8:UInt8),(8:UInt8),(8:UInt8),(8:UInt8),(8:UInt8),(8:UInt8),(8:UInt8),(8:UInt8),(8:UInt8),(8:UInt8),(8:UInt8),(8:UInt8),(8:UInt8),(8:UInt8),(8:
 UInt8),(8:UInt8),(8:UInt8),(8:UInt8),(8:UInt8),(8:UInt8),(8:UInt8),(8:UInt8),(8:UInt8),(8:UInt8),(8:UInt8),(8:UInt8),(8:UInt8),(8:UInt8),(8:UInt8),(8:UInt8),(8:UInt8),(8:UInt8),(8:
 UInt8),(8:UInt8),(8:UInt8),(8:UInt8),(8:UInt8),(8:UInt8)] [(8:UInt8),(8:UInt8),(8:UInt8),(8:UInt8),(8:UInt8),(8:UInt8),(8:UInt8),(8:UInt8),(8:UInt8),(8:UInt8),(8:UInt8),(8:UInt8),(8:
 UInt8),(8:UInt8),(8:UInt8),(8:UInt8),(8:UInt8),(8:UInt8),(8:UInt8),(8:UInt8),(8:UInt8),(8:UInt8),(8:UInt8),(8:UInt8),(8:UInt8),(8:UInt8),(8:UInt8),(8:UInt8),(8:UInt8),(8:UInt8),(8:
 UInt8),(8:UInt8),(8:UInt8),(8:UInt8),(8:UInt8),(8:UInt8),(8:UInt8),(8:UInt8),(8:UInt8),(8:UInt8),(8:UInt8),(8:UInt8),(8:UInt8),(8:UInt8),(8:UInt8),(8:UInt8),(8:UInt8),(8:UInt8),(8:
 UInt8),(8:UInt8),(8:UInt8),(8:UInt8),(8:UInt8),(8:UInt8),(8:UInt8),(8:UInt8),(8:UInt8),(8:UInt8),(8:UInt8),(8:UInt8),(8:UInt8),(8:UInt8),(8:UInt8),(8:UInt8)])):ByteArray}):Int) then some
 (IntKind.i64.wrap (v2.2+IntKind.i64.wrap (↑(UInt8.toNat (List.getD { data:=List.toArray (List.append (List.append [(0:UInt8),(1:UInt8),(2:UInt8),(2:UInt8),(3:UInt8),(3:UInt8),(3:UInt8),(3:UInt8),(4:UInt8),(4:
 UInt8),(4:UInt8),(4:UInt8),(4:UInt8),(4:UInt8),(4:UInt8),(4:UInt8),(5:UInt8),(5:UInt8),(5:UInt8),(5:UInt8),(5:UInt8),(5:UInt8),(5:UInt8),(5:UInt8),(5:UInt8),(5:UInt8),(5:UInt8),(5:
 UInt8),(5:UInt8),(5:UInt8),(5:UInt8),(5:UInt8),(6:UInt8),(6:UInt8),(6:UInt8),(6:UInt8),(6:UInt8),(6:UInt8),(6:UInt8),(6:UInt8),(6:UInt8),(6:UInt8),(6:UInt8),(6:UInt8),(6:UInt8),(6:
 UInt8),(6:UInt8),(6:UInt8),(6:UInt8),(6:UInt8),(6:UInt8),(6:UInt8),(6:UInt8),(6:UInt8),(6:UInt8),(6:UInt8),(6:UInt8),(6:UInt8),(6:UInt8),(6:UInt8),(6:UInt8),(6:UInt8),(6:UInt8),(6:
 UInt8)] [(7:UInt8),(7:UInt8),(7:UInt8),(7:UInt8),(7:UInt8),(7:UInt8),(7:UInt8),(7:UInt8),(7:UInt8),(7:UInt8),(7:UInt8),(7:UInt8),(7:UInt8),(7:UInt8),(7:UInt8),(7:UInt8),(7:UInt8),(7:
 UInt8),(7:UInt8),(7:UInt8),(7:UInt8),(7:UInt8),(7:UInt8),(7:UInt8),(7:UInt8),(7:UInt8),(7:UInt8),(7:UInt8),(7:UInt8),(7:UInt8),(7:UInt8),(7:UInt8),(7:UInt8),(7:UInt8),(7:UInt8),(7:
 UInt8),(7:UInt8),(7:UInt8),(7:UInt8),(7:UInt8),(7:UInt8),(7:UInt8),(7:UInt8),(7:UInt8),(7:UInt8),(7:UInt8),(7:UInt8),(7:UInt8),(7:UInt8),(7:UInt8),(7:UInt8),(7:UInt8),(7:UInt8),(7:
 UInt8),(7:UInt8),(7:UInt8),(7:UInt8),(7:UInt8),(7:UInt8),(7:UInt8),(7:UInt8),(7:UInt8),(7:UInt8),(7:UInt8)]) (List.append [(8:UInt8),(8:UInt8),(8:UInt8),(8:UInt8),(8:UInt8),(8:UInt8),(8:
 UInt8),(8:UInt8),(8:UInt8),(8:UInt8),(8:UInt8),(8:UInt8),(8:UInt8),(8:UInt8),(8:UInt8),(8:UInt8),(8:UInt8),(8:UInt8),(8:UInt8),(8:UInt8),(8:UInt8),(8:UInt8),(8:UInt8),(8:UInt8),(8:
 UInt8),(8:UInt8),(8:UInt8),(8:UInt8),(8:UInt8),(8:UInt8),(8:UInt8),(8:UInt8),(8:UInt8),(8:UInt8),(8:UInt8),(8:UInt8),(8:UInt8),(8:UInt8),(8:UInt8),(8:UInt8),(8:UInt8),(8:UInt8),(8:
 UInt8),(8:UInt8),(8:UInt8),(8:UInt8),(8:UInt8),(8:UInt8),(8:UInt8),(8:UInt8),(8:UInt8),(8:UInt8),(8:UInt8),(8:UInt8),(8:UInt8),(8:UInt8),(8:UInt8),(8:UInt8),(8:UInt8),(8:UInt8),(8:
 UInt8),(8:UInt8),(8:UInt8),(8:UInt8)] [(8:UInt8),(8:UInt8),(8:UInt8),(8:UInt8),(8:UInt8),(8:UInt8),(8:UInt8),(8:UInt8),(8:UInt8),(8:UInt8),(8:UInt8),(8:UInt8),(8:UInt8),(8:UInt8),(8:
 UInt8),(8:UInt8),(8:UInt8),(8:UInt8),(8:UInt8),(8:UInt8),(8:UInt8),(8:UInt8),(8:UInt8),(8:UInt8),(8:UInt8),(8:UInt8),(8:UInt8),(8:UInt8),(8:UInt8),(8:UInt8),(8:UInt8),(8:UInt8),(8:
 UInt8),(8:UInt8),(8:UInt8),(8:UInt8),(8:UInt8),(8:UInt8),(8:UInt8),(8:UInt8),(8:UInt8),(8:UInt8),(8:UInt8),(8:UInt8),(8:UInt8),(8:UInt8),(8:UInt8),(8:UInt8),(8:UInt8),(8:UInt8),(8:
 UInt8),(8:UInt8),(8:UInt8),(8:UInt8),(8:UInt8),(8:UInt8),(8:UInt8),(8:UInt8),(8:UInt8),(8:UInt8),(8:UInt8),(8:UInt8),(8:UInt8),(8:UInt8)])):ByteArray}.data.toList (Int.toNat (IntKind.wrap IntKind.u8
 v2.1)) (0:UInt8))):Int))) else none
theorem Ld.f94eq: ∀ x,zl Ld.C Ld.f94Γ Ld.f94sig Ld.f94ann Go.Proofs.Tryd.f94 x=Ld.f94F x:=by
 intro x
 kernel_rfl
noncomputable def Ld.f94con:Con:=⟨94,Ld.f94sig,Ld.f94F⟩
theorem Ld.f94ok:Con.Ok Go.Proofs.Tryd.prog Ld.C Ld.f94con:=
 zb (Γ:=Ld.f94Γ) (an:=Ld.f94ann) ⟨Ld.Cok,(fun _ h=>nomatch h),Ld.mixed⟩ Go.Proofs.Tryd.func94 rfl rfl (fun x y h=>(Ld.f94eq x).trans h) (by decide)
def Ld.f95sig:Sig:=⟨⟨[.hole (.int .u64)], []⟩,⟨[.hole (.int .i64)], []⟩⟩
noncomputable def Ld.f95Γ:List Con:= []
def Ld.f95ann:Ann:=(.seq .leaf (.seq (.join [⟨.normal, [(0, .hole (.int .u64)),(2, .hole (.int .i64))], []⟩] (.seq .leaf (.cond (.seq .leaf .leaf) .leaf))) (.seq (.join [⟨.normal, [(0, .hole (.int .u64)),(2, .hole (.int .i64))], []⟩]
 (.seq .leaf (.cond (.seq .leaf .leaf) .leaf))) (.seq (.join [⟨.normal, [(0, .hole (.int .u64)),(2, .hole (.int .i64))], []⟩] (.seq .leaf (.cond (.seq .leaf .leaf) .leaf))) (.seq .leaf .leaf)))))
noncomputable def Ld.f95F:Int→Option (Int):=fun(x:Int)=>Option.bind (if decide (x≥(4294967296:Int))=true then some (Int.fdiv x ((2:Int) ^ Min.min (Int.toNat (32:Int)) (IntKind.bits IntKind.u64)),(32:Int)) else some
 (x,(0:Int))) fun v1=>Option.bind (if decide (v1.1≥(65536:Int))=true then some (Int.fdiv v1.1 ((2:Int) ^ Min.min (Int.toNat (16:Int)) (IntKind.bits IntKind.u64)),IntKind.i64.wrap (v1.2+(16:Int))) else some (v1.1,v1.2))
 fun v2=>Option.bind (if decide (v2.1≥(256:Int))=true then some (Int.fdiv v2.1 ((2:Int) ^ Min.min (Int.toNat (8:Int)) (IntKind.bits IntKind.u64)),IntKind.i64.wrap (v2.2+(8:Int))) else some (v2.1,v2.2)) fun v3=>if(0:
 Int)≤IntKind.wrap IntKind.u8 v3.1∧IntKind.wrap IntKind.u8 v3.1<(↑(ByteArray.size { data:=List.toArray (List.append (List.append [(0:UInt8),(1:UInt8),(2:UInt8),(2:UInt8),(3:UInt8),(3:UInt8),(3:UInt8),(3:UInt8),
 (4:UInt8),(4:UInt8),(4:UInt8),(4:UInt8),(4:UInt8),(4:UInt8),(4:UInt8),(4:UInt8),(5:UInt8),(5:UInt8),(5:UInt8),(5:UInt8),(5:UInt8),(5:UInt8),(5:UInt8),(5:UInt8),(5:UInt8),(5:UInt8),(5:
 UInt8),(5:UInt8),(5:UInt8),(5:UInt8),(5:UInt8),(5:UInt8),(6:UInt8),(6:UInt8),(6:UInt8),(6:UInt8),(6:UInt8),(6:UInt8),(6:UInt8),(6:UInt8),(6:UInt8),(6:UInt8),(6:UInt8),(6:UInt8),(6:
 UInt8),(6:UInt8),(6:UInt8),(6:UInt8),(6:UInt8),(6:UInt8),(6:UInt8),(6:UInt8),(6:UInt8),(6:UInt8),(6:UInt8),(6:UInt8),(6:UInt8),(6:UInt8),(6:UInt8),(6:UInt8),(6:UInt8),(6:UInt8),(6:
 UInt8),(6:UInt8)] [(7:UInt8),(7:UInt8),(7:UInt8),(7:UInt8),(7:UInt8),(7:UInt8),(7:UInt8),(7:UInt8),(7:UInt8),(7:UInt8),(7:UInt8),(7:UInt8),(7:UInt8),(7:UInt8),(7:UInt8),(7:UInt8),(7:
 UInt8),(7:UInt8),(7:UInt8),(7:UInt8),(7:UInt8),(7:UInt8),(7:UInt8),(7:UInt8),(7:UInt8),(7:UInt8),(7:UInt8),(7:UInt8),(7:UInt8),(7:UInt8),(7:UInt8),(7:UInt8),(7:UInt8),(7:UInt8),(7:
 UInt8),(7:UInt8),(7:UInt8),(7:UInt8),(7:UInt8),(7:UInt8),(7:UInt8),(7:UInt8),(7:UInt8),(7:UInt8),(7:UInt8),(7:UInt8),(7:UInt8),(7:UInt8),(7:UInt8),(7:UInt8),(7:UInt8),(7:UInt8),(7:
 UInt8),(7:UInt8),(7:UInt8),(7:UInt8),(7:UInt8),(7:UInt8),(7:UInt8),(7:UInt8),(7:UInt8),(7:UInt8),(7:UInt8),(7:UInt8)]) (List.append [(8:UInt8),(8:UInt8),(8:UInt8),(8:UInt8),(8:UInt8),(8:
 UInt8),(8:UInt8),(8:UInt8),(8:UInt8),(8:UInt8),(8:UInt8),(8:UInt8),(8:UInt8),(8:UInt8),(8:UInt8),(8:UInt8),(8:UInt8),(8:UInt8),(8:UInt8),(8:UInt8),(8:UInt8),(8:UInt8),(8:UInt8),(8:
 UInt8),(8:UInt8),(8:UInt8),(8:UInt8),(8:UInt8),(8:UInt8),(8:UInt8),(8:UInt8),(8:UInt8),(8:UInt8),(8:UInt8),(8:UInt8),(8:UInt8),(8:UInt8),(8:UInt8),(8:UInt8),(8:UInt8),(8:UInt8),(8:
 UInt8),(8:UInt8),(8:UInt8),(8:UInt8),(8:UInt8),(8:UInt8),(8:UInt8),(8:UInt8),(8:UInt8),(8:UInt8),(8:UInt8),(8:UInt8),(8:UInt8),(8:UInt8),(8:UInt8),(8:UInt8),(8:UInt8),(8:UInt8),(8:
 UInt8),(8:UInt8),(8:UInt8),(8:UInt8),(8:UInt8)] [(8:UInt8),(8:UInt8),(8:UInt8),(8:UInt8),(8:UInt8),(8:UInt8),(8:UInt8),(8:UInt8),(8:UInt8),(8:UInt8),(8:UInt8),(8:UInt8),(8:UInt8),(8:
 UInt8),(8:UInt8),(8:UInt8),(8:UInt8),(8:UInt8),(8:UInt8),(8:UInt8),(8:UInt8),(8:UInt8),(8:UInt8),(8:UInt8),(8:UInt8),(8:UInt8),(8:UInt8),(8:UInt8),(8:UInt8),(8:UInt8),(8:UInt8),(8:
 UInt8),(8:UInt8),(8:UInt8),(8:UInt8),(8:UInt8),(8:UInt8),(8:UInt8),(8:UInt8),(8:UInt8),(8:UInt8),(8:UInt8),(8:UInt8),(8:UInt8),(8:UInt8),(8:UInt8),(8:UInt8),(8:UInt8),(8:UInt8),(8:
 UInt8),(8:UInt8),(8:UInt8),(8:UInt8),(8:UInt8),(8:UInt8),(8:UInt8),(8:UInt8),(8:UInt8),(8:UInt8),(8:UInt8),(8:UInt8),(8:UInt8),(8:UInt8),(8:UInt8)])):ByteArray}):Int) then some
 (IntKind.i64.wrap (v3.2+IntKind.i64.wrap (↑(UInt8.toNat (List.getD { data:=List.toArray (List.append (List.append [(0:UInt8),(1:UInt8),(2:UInt8),(2:UInt8),(3:UInt8),(3:UInt8),(3:UInt8),(3:UInt8),(4:UInt8),(4:
 UInt8),(4:UInt8),(4:UInt8),(4:UInt8),(4:UInt8),(4:UInt8),(4:UInt8),(5:UInt8),(5:UInt8),(5:UInt8),(5:UInt8),(5:UInt8),(5:UInt8),(5:UInt8),(5:UInt8),(5:UInt8),(5:UInt8),(5:UInt8),(5:
 UInt8),(5:UInt8),(5:UInt8),(5:UInt8),(5:UInt8),(6:UInt8),(6:UInt8),(6:UInt8),(6:UInt8),(6:UInt8),(6:UInt8),(6:UInt8),(6:UInt8),(6:UInt8),(6:UInt8),(6:UInt8),(6:UInt8),(6:UInt8),(6:
 UInt8),(6:UInt8),(6:UInt8),(6:UInt8),(6:UInt8),(6:UInt8),(6:UInt8),(6:UInt8),(6:UInt8),(6:UInt8),(6:UInt8),(6:UInt8),(6:UInt8),(6:UInt8),(6:UInt8),(6:UInt8),(6:UInt8),(6:UInt8),(6:
 UInt8)] [(7:UInt8),(7:UInt8),(7:UInt8),(7:UInt8),(7:UInt8),(7:UInt8),(7:UInt8),(7:UInt8),(7:UInt8),(7:UInt8),(7:UInt8),(7:UInt8),(7:UInt8),(7:UInt8),(7:UInt8),(7:UInt8),(7:UInt8),(7:
 UInt8),(7:UInt8),(7:UInt8),(7:UInt8),(7:UInt8),(7:UInt8),(7:UInt8),(7:UInt8),(7:UInt8),(7:UInt8),(7:UInt8),(7:UInt8),(7:UInt8),(7:UInt8),(7:UInt8),(7:UInt8),(7:UInt8),(7:UInt8),(7:
 UInt8),(7:UInt8),(7:UInt8),(7:UInt8),(7:UInt8),(7:UInt8),(7:UInt8),(7:UInt8),(7:UInt8),(7:UInt8),(7:UInt8),(7:UInt8),(7:UInt8),(7:UInt8),(7:UInt8),(7:UInt8),(7:UInt8),(7:UInt8),(7:
 UInt8),(7:UInt8),(7:UInt8),(7:UInt8),(7:UInt8),(7:UInt8),(7:UInt8),(7:UInt8),(7:UInt8),(7:UInt8),(7:UInt8)]) (List.append [(8:UInt8),(8:UInt8),(8:UInt8),(8:UInt8),(8:UInt8),(8:UInt8),(8:
 UInt8),(8:UInt8),(8:UInt8),(8:UInt8),(8:UInt8),(8:UInt8),(8:UInt8),(8:UInt8),(8:UInt8),(8:UInt8),(8:UInt8),(8:UInt8),(8:UInt8),(8:UInt8),(8:UInt8),(8:UInt8),(8:UInt8),(8:UInt8),(8:
 UInt8),(8:UInt8),(8:UInt8),(8:UInt8),(8:UInt8),(8:UInt8),(8:UInt8),(8:UInt8),(8:UInt8),(8:UInt8),(8:UInt8),(8:UInt8),(8:UInt8),(8:UInt8),(8:UInt8),(8:UInt8),(8:UInt8),(8:UInt8),(8:
 UInt8),(8:UInt8),(8:UInt8),(8:UInt8),(8:UInt8),(8:UInt8),(8:UInt8),(8:UInt8),(8:UInt8),(8:UInt8),(8:UInt8),(8:UInt8),(8:UInt8),(8:UInt8),(8:UInt8),(8:UInt8),(8:UInt8),(8:UInt8),(8:
 UInt8),(8:UInt8),(8:UInt8),(8:UInt8)] [(8:UInt8),(8:UInt8),(8:UInt8),(8:UInt8),(8:UInt8),(8:UInt8),(8:UInt8),(8:UInt8),(8:UInt8),(8:UInt8),(8:UInt8),(8:UInt8),(8:UInt8),(8:UInt8),(8:
 UInt8),(8:UInt8),(8:UInt8),(8:UInt8),(8:UInt8),(8:UInt8),(8:UInt8),(8:UInt8),(8:UInt8),(8:UInt8),(8:UInt8),(8:UInt8),(8:UInt8),(8:UInt8),(8:UInt8),(8:UInt8),(8:UInt8),(8:UInt8),(8:
 UInt8),(8:UInt8),(8:UInt8),(8:UInt8),(8:UInt8),(8:UInt8),(8:UInt8),(8:UInt8),(8:UInt8),(8:UInt8),(8:UInt8),(8:UInt8),(8:UInt8),(8:UInt8),(8:UInt8),(8:UInt8),(8:UInt8),(8:UInt8),(8:
 UInt8),(8:UInt8),(8:UInt8),(8:UInt8),(8:UInt8),(8:UInt8),(8:UInt8),(8:UInt8),(8:UInt8),(8:UInt8),(8:UInt8),(8:UInt8),(8:UInt8),(8:UInt8)])):ByteArray}.data.toList (Int.toNat (IntKind.wrap IntKind.u8
 v3.1)) (0:UInt8))):Int))) else none
theorem Ld.f95eq: ∀ x,zl Ld.C Ld.f95Γ Ld.f95sig Ld.f95ann Go.Proofs.Tryd.f95 x=Ld.f95F x:=by
 intro x
 kernel_rfl
noncomputable def Ld.f95con:Con:=⟨95,Ld.f95sig,Ld.f95F⟩
theorem Ld.f95ok:Con.Ok Go.Proofs.Tryd.prog Ld.C Ld.f95con:=
 zb (Γ:=Ld.f95Γ) (an:=Ld.f95ann) ⟨Ld.Cok,(fun _ h=>nomatch h),Ld.mixed⟩ Go.Proofs.Tryd.func95 rfl rfl (fun x y h=>(Ld.f95eq x).trans h) (by decide)
def Ld.f85sig:Sig:=⟨⟨[.hole (.int .u64)], []⟩,⟨[.hole (.int .i64)], []⟩⟩
noncomputable def Ld.f85Γ:List Con:= [Ld.f94con,Ld.f95con]
def Ld.f85ann:Ann:=(.seq .leaf (.seq (.cond .leaf .leaf) (.seq .leaf .leaf)))
noncomputable def Ld.f85F:Int→Option (Int):=fun(x:Int)=>Option.bind (Ld.f95F x) fun v1=>some v1
theorem Ld.f85eq: ∀ x,zl Ld.C Ld.f85Γ Ld.f85sig Ld.f85ann Go.Proofs.Tryd.f85 x=Ld.f85F x:=by
 intro x
 kernel_rfl
noncomputable def Ld.f85con:Con:=⟨85,Ld.f85sig,Ld.f85F⟩
theorem Ld.f85ok:Con.Ok Go.Proofs.Tryd.prog Ld.C Ld.f85con:=
 zb (Γ:=Ld.f85Γ) (an:=Ld.f85ann) ⟨Ld.Cok,(List.forall_mem_cons.2 ⟨Ld.f94ok,(List.forall_mem_cons.2 ⟨Ld.f95ok,(fun _ h=>nomatch h)⟩)⟩),Ld.mixed⟩ Go.Proofs.Tryd.func85 rfl rfl (fun x y h=>(Ld.f85eq x).trans h) (by decide)
def Ld.f71sig:Sig:=⟨⟨[.hole (.arr 2 (.int .i64)), .hole (.arr 2 (.int .i64))], []⟩,⟨[.hole (.int .i64)], []⟩⟩
noncomputable def Ld.f71Γ:List Con:= []
def Ld.f71ann:Ann:=(.seq .leaf (.seq .leaf .leaf))
noncomputable def Ld.f71F:List Int×List Int→Option (Int):=fun(x:List Int×List Int)=>if(0:Int)≤(0:Int)∧(0:Int)<(↑(2:Nat):Int) then if(0:Int)≤(0:Int)∧(0:Int)<(↑(2:Nat):Int) then some
 (IntKind.i64.wrap (List.getD x.1 (nat_lit 0) (0:Int) - List.getD x.2 (nat_lit 0) (0:Int))) else none else none
theorem Ld.f71eq: ∀ x,zl Ld.C Ld.f71Γ Ld.f71sig Ld.f71ann Go.Proofs.Tryd.f71 x=Ld.f71F x:=by
 intro x
 kernel_rfl
noncomputable def Ld.f71con:Con:=⟨71,Ld.f71sig,Ld.f71F⟩
theorem Ld.f71ok:Con.Ok Go.Proofs.Tryd.prog Ld.C Ld.f71con:=
 zb (Γ:=Ld.f71Γ) (an:=Ld.f71ann) ⟨Ld.Cok,(fun _ h=>nomatch h),Ld.mixed⟩ Go.Proofs.Tryd.func71 rfl rfl (fun x y h=>(Ld.f71eq x).trans h) (by decide)
def Ld.f86sig:Sig:=⟨⟨[.own 0, .hole (.int .i64), .hole (.int .i64), .fnc 71 0], [.arr 85 (.arr 2 (.int .i64))]⟩,⟨[], [.arr 85 (.arr 2 (.int .i64))]⟩⟩
noncomputable def Ld.f86Γ:List Con:= [Ld.f71con]
def Ld.f86ann:Ann:=(.seq .leaf (.block (.loop ⟨.normal, [(8, .hole (.int .i64))], [.arr 85 (.arr 2 (.int .i64))]⟩ [⟨(.exit 0), [], [.arr 85 (.arr 2 (.int .i64))]⟩] (.seq (.seq .leaf (.cond .leaf .leaf)) (.seq (.block (.seq .leaf (.block
 (.loop ⟨.normal, [(9, .hole (.int .i64))], [.arr 85 (.arr 2 (.int .i64))]⟩ [⟨(.exit 2), [], [.arr 85 (.arr 2 (.int .i64))]⟩] (.seq (.seq (.join [⟨.normal, [(34, .hole .bool)], [.arr 85 (.arr 2 (.int .i64))]⟩] .leaf) (.cond .leaf .leaf))
 (.seq (.block (.eff 1 [] [0,0,0,0,8,0,0,64,224,480,0,0,3072,7168,16355,32739,65535,131071])) .leaf)))))) .leaf)))))
noncomputable def Ld.f86F:Int×Int×List (List Int)→Option (List (List Int)):=fun(x:Int×Int×List (List Int))=>Option.bind (iter (fun(s1:Int×List (List Int))=>if decide (s1.1<x.2.1)=true then Option.bind (iter
 (fun(s2:Int×List (List Int))=>Option.bind (if decide (s2.1 > x.1)=true then if(0:Int)≤s2.1∧s2.1<(s2.2.length:Int) then if(0:Int)≤IntKind.i64.wrap (s2.1 - (1:Int))∧IntKind.i64.wrap (s2.1 - (1:Int))<
 (s2.2.length:Int) then Option.bind (Ld.f71F (List.getD s2.2 (Int.toNat s2.1) (List.replicate (2:Nat) (0:Int)),List.getD s2.2 (Int.toNat (IntKind.i64.wrap (s2.1 - (1:Int)))) (List.replicate (2:Nat) (0:Int)))) fun v3=>some
 (decide (v3<(0:Int)),s2.2) else none else none else some (false,s2.2)) fun(v3:Bool×List (List Int))=>if v3.1=true then if(0:Int)≤IntKind.i64.wrap (s2.1 - (1:Int))∧IntKind.i64.wrap (s2.1 - (1:Int))<(v3.2.length:
 Int) then if(0:Int)≤s2.1∧s2.1<(v3.2.length:Int) then if(0:Int)≤s2.1∧s2.1<(v3.2.length:Int) then if(0:Int)≤IntKind.i64.wrap (s2.1 - (1:Int))∧IntKind.i64.wrap (s2.1 - (1:Int))<(↑(List.length (List.set v3.2
 (Int.toNat s2.1) (List.getD v3.2 (Int.toNat (IntKind.i64.wrap (s2.1 - (1:Int)))) (List.replicate (2:Nat) (0:Int))))):Int) then some (Sum.inl (IntKind.i64.wrap (s2.1 - (1:Int)),List.set (List.set v3.2 (Int.toNat s2.1) (List.getD
 v3.2 (Int.toNat (IntKind.i64.wrap (s2.1 - (1:Int)))) (List.replicate (2:Nat) (0:Int)))) (Int.toNat (IntKind.i64.wrap (s2.1 - (1:Int)))) (List.getD v3.2 (Int.toNat s2.1) (List.replicate (2:Nat) (0:Int))))) else none else none
 else none else none else some (Sum.inr v3.2)) (s1.1,s1.2)) fun(v2:List (List Int))=>some (Sum.inl (IntKind.i64.wrap (s1.1+(1:Int)),v2)) else some (Sum.inr s1.2)) (IntKind.i64.wrap (x.1+(1:Int)),x.2.2)) fun(v1:List (List
 Int))=>some v1
theorem Ld.f86eq: ∀ x,zl Ld.C Ld.f86Γ Ld.f86sig Ld.f86ann Go.Proofs.Tryd.f86 x=Ld.f86F x:=by
 intro x
 kernel_rfl
noncomputable def Ld.f86con:Con:=⟨86,Ld.f86sig,Ld.f86F⟩
theorem Ld.f86ok:Con.Ok Go.Proofs.Tryd.prog Ld.C Ld.f86con:=
 zb (Γ:=Ld.f86Γ) (an:=Ld.f86ann) ⟨Ld.Cok,(List.forall_mem_cons.2 ⟨Ld.f71ok,(fun _ h=>nomatch h)⟩),Ld.mixed⟩ Go.Proofs.Tryd.func86 rfl rfl (fun x y h=>(Ld.f86eq x).trans h) (by decide)
def Ld.f96sig:Sig:=⟨⟨[.own 0, .hole (.int .i64), .hole (.int .i64), .hole (.int .i64), .fnc 71 0], [.arr 85 (.arr 2 (.int .i64))]⟩,⟨[], [.arr 85 (.arr 2 (.int .i64))]⟩⟩
noncomputable def Ld.f96Γ:List Con:= [Ld.f71con]
def Ld.f96ann:Ann:=(.seq .leaf (.block (.loop ⟨.normal, [(10, .hole (.int .i64))], [.arr 85 (.arr 2 (.int .i64))]⟩ [⟨(.exit 0), [], [.arr 85 (.arr 2 (.int .i64))]⟩,⟨.ret, [], [.arr 85 (.arr 2 (.int .i64))]⟩] (.block (.seq .leaf (.seq
 (.seq .leaf (.cond .leaf .leaf)) (.seq (.join [⟨.normal, [(11, .hole (.int .i64))], [.arr 85 (.arr 2 (.int .i64))]⟩] (.seq (.join [⟨.normal, [(40, .hole .bool)], [.arr 85 (.arr 2 (.int .i64))]⟩] .leaf) (.cond .leaf .leaf))) (.seq (.seq
 .leaf (.cond .leaf .leaf)) (.seq (.eff 1 [] [0,0,0,6,0,0,0,96,0,0,0,1536,3840,7936,0,0,0,98304,245760,507904,1048335,2096911,4194303,8388607]) .leaf)))))))))
noncomputable def Ld.f96F:Int×Int×Int×List (List Int)→Option (List (List Int)):=fun(x:Int×Int×Int×List (List Int))=>Option.bind (iter (fun(s1:Int×List (List Int))=>if decide (IntKind.i64.wrap (IntKind.i64.wrap
 ((2:Int)*s1.1)+(1:Int))≥x.2.1)=true then some (Sum.inr (Sum.inl s1.2)) else Option.bind (Option.bind (if decide (IntKind.i64.wrap (IntKind.i64.wrap (IntKind.i64.wrap ((2:Int)*s1.1)+(1:Int))+(1:Int))<x.2.1)=true
 then if(0:Int)≤IntKind.i64.wrap (x.2.2.1+IntKind.i64.wrap (IntKind.i64.wrap ((2:Int)*s1.1)+(1:Int)))∧IntKind.i64.wrap (x.2.2.1+IntKind.i64.wrap (IntKind.i64.wrap ((2:Int)*s1.1)+(1:Int)))<(s1.2.length:Int) then
 if(0:Int)≤IntKind.i64.wrap (IntKind.i64.wrap (x.2.2.1+IntKind.i64.wrap (IntKind.i64.wrap ((2:Int)*s1.1)+(1:Int)))+(1:Int))∧IntKind.i64.wrap (IntKind.i64.wrap (x.2.2.1+IntKind.i64.wrap (IntKind.i64.wrap ((2:Int)*
 s1.1)+(1:Int)))+(1:Int))<(s1.2.length:Int) then Option.bind (Ld.f71F (List.getD s1.2 (Int.toNat (IntKind.i64.wrap (x.2.2.1+IntKind.i64.wrap (IntKind.i64.wrap ((2:Int)*s1.1)+(1:Int))))) (List.replicate (2:Nat) (0:
 Int)),List.getD s1.2 (Int.toNat (IntKind.i64.wrap (IntKind.i64.wrap (x.2.2.1+IntKind.i64.wrap (IntKind.i64.wrap ((2:Int)*s1.1)+(1:Int)))+(1:Int)))) (List.replicate (2:Nat) (0:Int)))) fun v2=>some (decide (v2<(0:
 Int)),s1.2) else none else none else some (false,s1.2)) fun(v2:Bool×List (List Int))=>if v2.1=true then some (IntKind.i64.wrap (IntKind.i64.wrap (IntKind.i64.wrap ((2:Int)*s1.1)+(1:Int))+(1:Int)),v2.2) else some
 (IntKind.i64.wrap (IntKind.i64.wrap ((2:Int)*s1.1)+(1:Int)),v2.2)) fun(v2:Int×List (List Int))=>if(0:Int)≤IntKind.i64.wrap (x.2.2.1+s1.1)∧IntKind.i64.wrap (x.2.2.1+s1.1)<(v2.2.length:Int) then if(0:Int)≤
 IntKind.i64.wrap (x.2.2.1+v2.1)∧IntKind.i64.wrap (x.2.2.1+v2.1)<(v2.2.length:Int) then Option.bind (Ld.f71F (List.getD v2.2 (Int.toNat (IntKind.i64.wrap (x.2.2.1+s1.1))) (List.replicate (2:Nat) (0:Int)),List.getD v2.2
 (Int.toNat (IntKind.i64.wrap (x.2.2.1+v2.1))) (List.replicate (2:Nat) (0:Int)))) fun v3=>if(!decide (v3<(0:Int)))=true then some (Sum.inr (Sum.inr v2.2)) else if(0:Int)≤IntKind.i64.wrap (x.2.2.1+v2.1)∧
 IntKind.i64.wrap (x.2.2.1+v2.1)<(v2.2.length:Int) then if(0:Int)≤IntKind.i64.wrap (x.2.2.1+s1.1)∧IntKind.i64.wrap (x.2.2.1+s1.1)<(v2.2.length:Int) then if(0:Int)≤IntKind.i64.wrap (x.2.2.1+s1.1)∧IntKind.i64.wrap
 (x.2.2.1+s1.1)<(v2.2.length:Int) then if(0:Int)≤IntKind.i64.wrap (x.2.2.1+v2.1)∧IntKind.i64.wrap (x.2.2.1+v2.1)<(↑(List.length (List.set v2.2 (Int.toNat (IntKind.i64.wrap (x.2.2.1+s1.1))) (List.getD v2.2 (Int.toNat
 (IntKind.i64.wrap (x.2.2.1+v2.1))) (List.replicate (2:Nat) (0:Int))))):Int) then some (Sum.inl (v2.1,List.set (List.set v2.2 (Int.toNat (IntKind.i64.wrap (x.2.2.1+s1.1))) (List.getD v2.2 (Int.toNat (IntKind.i64.wrap (x.2.2.1+
 v2.1))) (List.replicate (2:Nat) (0:Int)))) (Int.toNat (IntKind.i64.wrap (x.2.2.1+v2.1))) (List.getD v2.2 (Int.toNat (IntKind.i64.wrap (x.2.2.1+s1.1))) (List.replicate (2:Nat) (0:Int))))) else none else none else none else none
 else none else none) (x.1,x.2.2.2)) fun(v1:List (List Int) ⊕ List (List Int))=>Sum.elim (fun(p2:List (List Int))=>some p2) (fun(q2:List (List Int))=>some q2) v1
theorem Ld.f96eq: ∀ x,zl Ld.C Ld.f96Γ Ld.f96sig Ld.f96ann Go.Proofs.Tryd.f96 x=Ld.f96F x:=by
 intro x
 kernel_rfl
noncomputable def Ld.f96con:Con:=⟨96,Ld.f96sig,Ld.f96F⟩
theorem Ld.f96ok:Con.Ok Go.Proofs.Tryd.prog Ld.C Ld.f96con:=
 zb (Γ:=Ld.f96Γ) (an:=Ld.f96ann) ⟨Ld.Cok,(List.forall_mem_cons.2 ⟨Ld.f71ok,(fun _ h=>nomatch h)⟩),Ld.mixed⟩ Go.Proofs.Tryd.func96 rfl rfl (fun x y h=>(Ld.f96eq x).trans h) (by decide)
def Ld.f87sig:Sig:=⟨⟨[.own 0, .hole (.int .i64), .hole (.int .i64), .fnc 71 0], [.arr 85 (.arr 2 (.int .i64))]⟩,⟨[], [.arr 85 (.arr 2 (.int .i64))]⟩⟩
noncomputable def Ld.f87Γ:List Con:= [Ld.f96con,Ld.f71con]
def Ld.f87ann:Ann:=(.seq .leaf (.seq .leaf (.seq .leaf (.seq (.seq .leaf (.block (.loop ⟨.normal, [(11, .hole (.int .i64))], [.arr 85 (.arr 2 (.int .i64))]⟩ [⟨(.exit 0), [], [.arr 85 (.arr 2 (.int .i64))]⟩] (.seq (.seq .leaf (.cond
 .leaf .leaf)) (.seq (.block .leaf) .leaf))))) (.seq .leaf (.block (.loop ⟨.normal, [(12, .hole (.int .i64))], [.arr 85 (.arr 2 (.int .i64))]⟩ [⟨(.exit 2), [], [.arr 85 (.arr 2 (.int .i64))]⟩] (.seq (.seq .leaf (.cond .leaf .leaf)) (.seq
 (.block (.seq (.eff 1 [] [0,0,0,0,0,24,0,0,0,384,960,1984,0,0,12288,28672,65475,131011,262143,524287]) .leaf)) .leaf)))))))))
noncomputable def Ld.f87F:Int×Int×List (List Int)→Option (List (List Int)):=fun(x:Int×Int×List (List Int))=>Option.bind (iter (fun(s1:Int×List (List Int))=>if decide (s1.1≥(0:Int))=true then Option.bind
 (Ld.f96F (s1.1,IntKind.i64.wrap (x.2.1 - x.1),x.1,s1.2)) fun(v2:List (List Int))=>some (Sum.inl (IntKind.i64.wrap (s1.1 - (1:Int)),v2)) else some (Sum.inr s1.2)) (IntKind.i64.wrap (Int.tdiv (IntKind.i64.wrap (IntKind.i64.wrap
 (x.2.1 - x.1) - (1:Int))) (2:Int)),x.2.2)) fun(v1:List (List Int))=>Option.bind (iter (fun(s2:Int×List (List Int))=>if decide (s2.1≥(0:Int))=true then if(0:Int)≤IntKind.i64.wrap (x.1+s2.1)∧IntKind.i64.wrap
 (x.1+s2.1)<(s2.2.length:Int) then if(0:Int)≤x.1∧x.1<(s2.2.length:Int) then if(0:Int)≤x.1∧x.1<(s2.2.length:Int) then if(0:Int)≤IntKind.i64.wrap (x.1+s2.1)∧IntKind.i64.wrap (x.1+s2.1)<(↑(List.length
 (List.set s2.2 (Int.toNat x.1) (List.getD s2.2 (Int.toNat (IntKind.i64.wrap (x.1+s2.1))) (List.replicate (2:Nat) (0:Int))))):Int) then Option.bind (Ld.f96F ((0:Int),s2.1,x.1,List.set (List.set s2.2 (Int.toNat x.1) (List.getD
 s2.2 (Int.toNat (IntKind.i64.wrap (x.1+s2.1))) (List.replicate (2:Nat) (0:Int)))) (Int.toNat (IntKind.i64.wrap (x.1+s2.1))) (List.getD s2.2 (Int.toNat x.1) (List.replicate (2:Nat) (0:Int))))) fun(v3:List (List Int))=>some
 (Sum.inl (IntKind.i64.wrap (s2.1 - (1:Int)),v3)) else none else none else none else none else some (Sum.inr s2.2)) (IntKind.i64.wrap (IntKind.i64.wrap (x.2.1 - x.1) - (1:Int)),v1)) fun(v2:List (List Int))=>some v2
theorem Ld.f87eq: ∀ x,zl Ld.C Ld.f87Γ Ld.f87sig Ld.f87ann Go.Proofs.Tryd.f87 x=Ld.f87F x:=by
 intro x
 kernel_rfl
noncomputable def Ld.f87con:Con:=⟨87,Ld.f87sig,Ld.f87F⟩
theorem Ld.f87ok:Con.Ok Go.Proofs.Tryd.prog Ld.C Ld.f87con:=
 zb (Γ:=Ld.f87Γ) (an:=Ld.f87ann) ⟨Ld.Cok,(List.forall_mem_cons.2 ⟨Ld.f96ok,(List.forall_mem_cons.2 ⟨Ld.f71ok,(fun _ h=>nomatch h)⟩)⟩),Ld.mixed⟩ Go.Proofs.Tryd.func87 rfl rfl (fun x y h=>(Ld.f87eq x).trans h) (by decide)
def Ld.f97sig:Sig:=⟨⟨[.hole (.int .i64)], []⟩,⟨[.hole (.int .u64)], []⟩⟩
noncomputable def Ld.f97Γ:List Con:= [Ld.f85con]
def Ld.f97ann:Ann:=(.seq .leaf (.seq .leaf .leaf))
noncomputable def Ld.f97F:Int→Option (Int):=fun(x:Int)=>Option.bind (Ld.f85F (IntKind.wrap IntKind.u64 x)) fun v1=>if v1<(0:Int) then none else some (IntKind.wrap IntKind.u64 ((1:Int)*(2:Int) ^ Min.min (Int.toNat v1)
 (IntKind.bits IntKind.u64)))
theorem Ld.f97eq: ∀ x,zl Ld.C Ld.f97Γ Ld.f97sig Ld.f97ann Go.Proofs.Tryd.f97 x=Ld.f97F x:=by
 intro x
 kernel_rfl
noncomputable def Ld.f97con:Con:=⟨97,Ld.f97sig,Ld.f97F⟩
theorem Ld.f97ok:Con.Ok Go.Proofs.Tryd.prog Ld.C Ld.f97con:=
 zb (Γ:=Ld.f97Γ) (an:=Ld.f97ann) ⟨Ld.Cok,(List.forall_mem_cons.2 ⟨Ld.f85ok,(fun _ h=>nomatch h)⟩),Ld.mixed⟩ Go.Proofs.Tryd.func97 rfl rfl (fun x y h=>(Ld.f97eq x).trans h) (by decide)
def Ld.f98sig:Sig:=⟨⟨[.ptr 0 0], [.cells [.hole (.int .u64)]]⟩,⟨[.hole (.int .u64)], [.cells [.hole (.int .u64)]]⟩⟩
noncomputable def Ld.f98Γ:List Con:= []
def Ld.f98ann:Ann:=(.seq .leaf (.seq (.tail 9) (.seq (.tail 9) (.seq (.tail 9) (.seq .leaf .leaf)))))
noncomputable def Ld.f98F:Int→Option (Int×Int):=fun(x:Int)=>some (IntKind.wrap IntKind.u64 (↑(BitVec.toNat (BitVec.ofInt (IntKind.bits IntKind.u64) (IntKind.wrap IntKind.u64 (↑(BitVec.toNat (BitVec.ofInt (IntKind.bits
 IntKind.u64) (IntKind.wrap IntKind.u64 (↑(BitVec.toNat (BitVec.ofInt (IntKind.bits IntKind.u64) x ^^^ BitVec.ofInt (IntKind.bits IntKind.u64) (IntKind.wrap IntKind.u64 (x*(2:Int) ^ Min.min (Int.toNat (13:Int)) (IntKind.bits
 IntKind.u64))))):Int)) ^^^ BitVec.ofInt (IntKind.bits IntKind.u64) (Int.fdiv (IntKind.wrap IntKind.u64 (↑(BitVec.toNat (BitVec.ofInt (IntKind.bits IntKind.u64) x ^^^ BitVec.ofInt (IntKind.bits IntKind.u64) (IntKind.wrap IntKind.u64 (x*
 (2:Int) ^ Min.min (Int.toNat (13:Int)) (IntKind.bits IntKind.u64))))):Int)) ((2:Int) ^ Min.min (Int.toNat (7:Int)) (IntKind.bits IntKind.u64))))):Int)) ^^^ BitVec.ofInt (IntKind.bits IntKind.u64) (IntKind.wrap IntKind.u64
 (IntKind.wrap IntKind.u64 (↑(BitVec.toNat (BitVec.ofInt (IntKind.bits IntKind.u64) (IntKind.wrap IntKind.u64 (↑(BitVec.toNat (BitVec.ofInt (IntKind.bits IntKind.u64) x ^^^ BitVec.ofInt (IntKind.bits IntKind.u64) (IntKind.wrap IntKind.u64 (x
 *(2:Int) ^ Min.min (Int.toNat (13:Int)) (IntKind.bits IntKind.u64))))):Int)) ^^^ BitVec.ofInt (IntKind.bits IntKind.u64) (Int.fdiv (IntKind.wrap IntKind.u64 (↑(BitVec.toNat (BitVec.ofInt (IntKind.bits IntKind.u64) x ^^^ BitVec.ofInt
 (IntKind.bits IntKind.u64) (IntKind.wrap IntKind.u64 (x*(2:Int) ^ Min.min (Int.toNat (13:Int)) (IntKind.bits IntKind.u64))))):Int)) ((2:Int) ^ Min.min (Int.toNat (7:Int)) (IntKind.bits IntKind.u64))))):Int)*(2:Int) ^
 Min.min (Int.toNat (17:Int)) (IntKind.bits IntKind.u64))))):Int),IntKind.wrap IntKind.u64 (↑(BitVec.toNat (BitVec.ofInt (IntKind.bits IntKind.u64) (IntKind.wrap IntKind.u64 (↑(BitVec.toNat (BitVec.ofInt (IntKind.bits IntKind.u64)
 (IntKind.wrap IntKind.u64 (↑(BitVec.toNat (BitVec.ofInt (IntKind.bits IntKind.u64) x ^^^ BitVec.ofInt (IntKind.bits IntKind.u64) (IntKind.wrap IntKind.u64 (x*(2:Int) ^ Min.min (Int.toNat (13:Int)) (IntKind.bits IntKind.u64))))):
 Int)) ^^^ BitVec.ofInt (IntKind.bits IntKind.u64) (Int.fdiv (IntKind.wrap IntKind.u64 (↑(BitVec.toNat (BitVec.ofInt (IntKind.bits IntKind.u64) x ^^^ BitVec.ofInt (IntKind.bits IntKind.u64) (IntKind.wrap IntKind.u64 (x*(2:Int) ^ Min.min
 (Int.toNat (13:Int)) (IntKind.bits IntKind.u64))))):Int)) ((2:Int) ^ Min.min (Int.toNat (7:Int)) (IntKind.bits IntKind.u64))))):Int)) ^^^ BitVec.ofInt (IntKind.bits IntKind.u64) (IntKind.wrap IntKind.u64 (IntKind.wrap IntKind.u64
 (↑(BitVec.toNat (BitVec.ofInt (IntKind.bits IntKind.u64) (IntKind.wrap IntKind.u64 (↑(BitVec.toNat (BitVec.ofInt (IntKind.bits IntKind.u64) x ^^^ BitVec.ofInt (IntKind.bits IntKind.u64) (IntKind.wrap IntKind.u64 (x*(2:Int) ^ Min.min
 (Int.toNat (13:Int)) (IntKind.bits IntKind.u64))))):Int)) ^^^ BitVec.ofInt (IntKind.bits IntKind.u64) (Int.fdiv (IntKind.wrap IntKind.u64 (↑(BitVec.toNat (BitVec.ofInt (IntKind.bits IntKind.u64) x ^^^ BitVec.ofInt (IntKind.bits
 IntKind.u64) (IntKind.wrap IntKind.u64 (x*(2:Int) ^ Min.min (Int.toNat (13:Int)) (IntKind.bits IntKind.u64))))):Int)) ((2:Int) ^ Min.min (Int.toNat (7:Int)) (IntKind.bits IntKind.u64))))):Int)*(2:Int) ^ Min.min (Int.toNat
 (17:Int)) (IntKind.bits IntKind.u64))))):Int))
theorem Ld.f98eq: ∀ x,zl Ld.C Ld.f98Γ Ld.f98sig Ld.f98ann Go.Proofs.Tryd.f98 x=Ld.f98F x:=by
 intro x
 kernel_rfl
noncomputable def Ld.f98con:Con:=⟨98,Ld.f98sig,Ld.f98F⟩
theorem Ld.f98ok:Con.Ok Go.Proofs.Tryd.prog Ld.C Ld.f98con:=
 zb (Γ:=Ld.f98Γ) (an:=Ld.f98ann) ⟨Ld.Cok,(fun _ h=>nomatch h),Ld.mixed⟩ Go.Proofs.Tryd.func98 rfl rfl (fun x y h=>(Ld.f98eq x).trans h) (by decide)
def Ld.f88sig:Sig:=⟨⟨[.own 0, .hole (.int .i64), .hole (.int .i64), .fnc 71 0], [.arr 85 (.arr 2 (.int .i64))]⟩,⟨[], [.arr 85 (.arr 2 (.int .i64))]⟩⟩
noncomputable def Ld.f88Γ:List Con:= [Ld.f97con,Ld.f98con,Ld.f71con]
def Ld.f88ann:Ann:=(.seq .leaf (.seq .leaf (.cond (.seq .leaf (.seq .leaf (.seq .leaf (.block (.loop ⟨.normal, [(11, .hole (.int .i64))], [.arr 85 (.arr 2 (.int .i64)), .cells [.hole (.int .u64)]]⟩ [⟨(.exit 0), [], [.arr 85 (.arr 2
 (.int .i64)), .gone]⟩] (.seq (.seq .leaf (.cond .leaf .leaf)) (.seq (.block (.seq .leaf (.seq (.join [⟨.normal, [(12, .hole (.int .i64))], [.arr 85 (.arr 2 (.int .i64)), .cells [.hole (.int .u64)]]⟩] (.seq .leaf (.cond .leaf .leaf))) (.eff
 2 [] [0,0,0,0,0,24,0,0,0,384,960,1984,0,0,12288,28672,65475,131011,262143,524287])))) .leaf))))))) .leaf)))
noncomputable def Ld.f88F:Int×Int×List (List Int)→Option (List (List Int)):=fun(x:Int×Int×List (List Int))=>if decide (IntKind.i64.wrap (x.2.1 - x.1)≥(8:Int))=true then Option.bind (Ld.f97F (IntKind.i64.wrap (x.2.1
 - x.1))) fun v1=>Option.bind (iter (fun(s2:Int×List (List Int)×Int)=>if decide (s2.1≤IntKind.i64.wrap (IntKind.i64.wrap (x.1+IntKind.i64.wrap (IntKind.i64.wrap (Int.tdiv (IntKind.i64.wrap (x.2.1 - x.1)) (4:Int))*(2:
 Int)))+(1:Int)))=true then Option.bind (Ld.f98F s2.2.2) fun v3=>Option.bind (if decide (IntKind.i64.wrap (IntKind.wrap IntKind.u64 (↑(BitVec.toNat (BitVec.ofInt (IntKind.bits IntKind.u64) v3.1 &&& BitVec.ofInt (IntKind.bits
 IntKind.u64) (IntKind.wrap IntKind.u64 (v1 - (1:Int))))):Int))≥IntKind.i64.wrap (x.2.1 - x.1))=true then some (IntKind.i64.wrap (IntKind.i64.wrap (IntKind.wrap IntKind.u64 (↑(BitVec.toNat (BitVec.ofInt (IntKind.bits IntKind.u64)
 v3.1 &&& BitVec.ofInt (IntKind.bits IntKind.u64) (IntKind.wrap IntKind.u64 (v1 - (1:Int))))):Int)) - IntKind.i64.wrap (x.2.1 - x.1)),s2.2.1,v3.2) else some (IntKind.i64.wrap (IntKind.wrap IntKind.u64 (↑(BitVec.toNat (BitVec.ofInt
 (IntKind.bits IntKind.u64) v3.1 &&& BitVec.ofInt (IntKind.bits IntKind.u64) (IntKind.wrap IntKind.u64 (v1 - (1:Int))))):Int)),s2.2.1,v3.2)) fun(v4:Int×List (List Int)×Int)=>if(0:Int)≤IntKind.i64.wrap (x.1+v4.1)∧
 IntKind.i64.wrap (x.1+v4.1)<(v4.2.1.length:Int) then if(0:Int)≤s2.1∧s2.1<(v4.2.1.length:Int) then if(0:Int)≤s2.1∧s2.1<(v4.2.1.length:Int) then if(0:Int)≤IntKind.i64.wrap (x.1+v4.1)∧IntKind.i64.wrap (x.1
 +v4.1)<(↑(List.length (List.set v4.2.1 (Int.toNat s2.1) (List.getD v4.2.1 (Int.toNat (IntKind.i64.wrap (x.1+v4.1))) (List.replicate (2:Nat) (0:Int))))):Int) then some (Sum.inl (IntKind.i64.wrap (s2.1+(1:Int)),List.set
 (List.set v4.2.1 (Int.toNat s2.1) (List.getD v4.2.1 (Int.toNat (IntKind.i64.wrap (x.1+v4.1))) (List.replicate (2:Nat) (0:Int)))) (Int.toNat (IntKind.i64.wrap (x.1+v4.1))) (List.getD v4.2.1 (Int.toNat s2.1) (List.replicate (2:Nat)
 (0:Int))),v4.2.2)) else none else none else none else none else some (Sum.inr s2.2.1)) (IntKind.i64.wrap (IntKind.i64.wrap (x.1+IntKind.i64.wrap (IntKind.i64.wrap (Int.tdiv (IntKind.i64.wrap (x.2.1 - x.1)) (4:Int))*(2:Int))) - (1
 :Int)),x.2.2,IntKind.wrap IntKind.u64 (IntKind.i64.wrap (x.2.1 - x.1)))) fun(v2:List (List Int))=>some v2 else some x.2.2
theorem Ld.f88eq: ∀ x,zl Ld.C Ld.f88Γ Ld.f88sig Ld.f88ann Go.Proofs.Tryd.f88 x=Ld.f88F x:=by
 intro x
 kernel_rfl
noncomputable def Ld.f88con:Con:=⟨88,Ld.f88sig,Ld.f88F⟩
theorem Ld.f88ok:Con.Ok Go.Proofs.Tryd.prog Ld.C Ld.f88con:=
 zb (Γ:=Ld.f88Γ) (an:=Ld.f88ann) ⟨Ld.Cok,(List.forall_mem_cons.2 ⟨Ld.f97ok,(List.forall_mem_cons.2 ⟨Ld.f98ok,(List.forall_mem_cons.2 ⟨Ld.f71ok,(fun _ h=>nomatch h)⟩)⟩)⟩),Ld.mixed⟩ Go.Proofs.Tryd.func88 rfl rfl (fun x y h=>(Ld.f88eq x).trans h) (by decide)
def Ld.f101sig:Sig:=⟨⟨[.own 0, .hole (.int .i64), .hole (.int .i64), .ptr 1 0, .fnc 71 0], [.arr 85 (.arr 2 (.int .i64)), .cells [.hole (.int .i64)]]⟩,⟨[.hole (.int .i64), .hole (.int .i64)], [.arr 85 (.arr 2 (.int .i64)), .cells
 [.hole (.int .i64)]]⟩⟩
noncomputable def Ld.f101Γ:List Con:= [Ld.f71con]
def Ld.f101ann:Ann:=(.seq .leaf (.seq (.seq .leaf (.cond (.seq .leaf (.seq .leaf .leaf)) .leaf)) (.seq .leaf .leaf)))
noncomputable def Ld.f101F:Int×Int×List (List Int)×Int→Option (Int×Int×List (List Int)×Int):=fun(x:Int×Int×List (List Int)×Int)=>if(0:Int)≤x.2.1∧x.2.1<(x.2.2.1.length:Int) then if(0:Int)≤x.1∧
 x.1<(x.2.2.1.length:Int) then Option.bind (Ld.f71F (List.getD x.2.2.1 (Int.toNat x.2.1) (List.replicate (2:Nat) (0:Int)),List.getD x.2.2.1 (Int.toNat x.1) (List.replicate (2:Nat) (0:Int)))) fun v1=>if decide (v1<(0:Int))
 =true then some (x.2.1,x.1,x.2.2.1,IntKind.i64.wrap (x.2.2.2+(1:Int))) else some (x.1,x.2.1,x.2.2.1,x.2.2.2) else none else none
theorem Ld.f101eq: ∀ x,zl Ld.C Ld.f101Γ Ld.f101sig Ld.f101ann Go.Proofs.Tryd.f101 x=Ld.f101F x:=by
 intro x
 kernel_rfl
noncomputable def Ld.f101con:Con:=⟨101,Ld.f101sig,Ld.f101F⟩
theorem Ld.f101ok:Con.Ok Go.Proofs.Tryd.prog Ld.C Ld.f101con:=
 zb (Γ:=Ld.f101Γ) (an:=Ld.f101ann) ⟨Ld.Cok,(List.forall_mem_cons.2 ⟨Ld.f71ok,(fun _ h=>nomatch h)⟩),Ld.mixed⟩ Go.Proofs.Tryd.func101 rfl rfl (fun x y h=>(Ld.f101eq x).trans h) (by decide)
def Ld.f100sig:Sig:=⟨⟨[.own 0, .hole (.int .i64), .hole (.int .i64), .hole (.int .i64), .ptr 1 0, .fnc 71 0], [.arr 85 (.arr 2 (.int .i64)), .cells [.hole (.int .i64)]]⟩,⟨[.hole (.int .i64)], [.arr 85 (.arr 2 (.int .i64)), .cells
 [.hole (.int .i64)]]⟩⟩
noncomputable def Ld.f100Γ:List Con:= [Ld.f101con,Ld.f71con]
def Ld.f100ann:Ann:=(.seq .leaf (.seq .leaf (.seq .leaf (.seq .leaf (.seq .leaf .leaf)))))
noncomputable def Ld.f100F:Int×Int×Int×List (List Int)×Int→Option (Int×List (List Int)×Int):=fun(x:Int×Int×Int×List (List Int)×Int)=>Option.bind (Ld.f101F (x.1,x.2.1,x.2.2.2.1,x.2.2.2.2)) fun(v1:Int×
 Int×List (List Int)×Int)=>Option.bind (Ld.f101F (v1.2.1,x.2.2.1,v1.2.2.1,v1.2.2.2)) fun(v2:Int×Int×List (List Int)×Int)=>Option.bind (Ld.f101F (v1.1,v2.1,v2.2.2.1,v2.2.2.2)) fun(v3:Int×Int×List (List Int)×
 Int)=>some (v3.2.1,v3.2.2.1,v3.2.2.2)
theorem Ld.f100eq: ∀ x,zl Ld.C Ld.f100Γ Ld.f100sig Ld.f100ann Go.Proofs.Tryd.f100 x=Ld.f100F x:=by
 intro x
 kernel_rfl
noncomputable def Ld.f100con:Con:=⟨100,Ld.f100sig,Ld.f100F⟩
theorem Ld.f100ok:Con.Ok Go.Proofs.Tryd.prog Ld.C Ld.f100con:=
 zb (Γ:=Ld.f100Γ) (an:=Ld.f100ann) ⟨Ld.Cok,(List.forall_mem_cons.2 ⟨Ld.f101ok,(List.forall_mem_cons.2 ⟨Ld.f71ok,(fun _ h=>nomatch h)⟩)⟩),Ld.mixed⟩ Go.Proofs.Tryd.func100 rfl rfl (fun x y h=>(Ld.f100eq x).trans h) (by decide)
def Ld.f99sig:Sig:=⟨⟨[.own 0, .hole (.int .i64), .ptr 1 0, .fnc 71 0], [.arr 85 (.arr 2 (.int .i64)), .cells [.hole (.int .i64)]]⟩,⟨[.hole (.int .i64)], [.arr 85 (.arr 2 (.int .i64)), .cells [.hole (.int .i64)]]⟩⟩
noncomputable def Ld.f99Γ:List Con:= [Ld.f100con,Ld.f71con]
def Ld.f99ann:Ann:=(.seq .leaf (.seq .leaf .leaf))
end Go.Sx
