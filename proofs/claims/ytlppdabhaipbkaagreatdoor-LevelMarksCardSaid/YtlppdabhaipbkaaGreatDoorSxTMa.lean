import Derived.Test.YtlppdabhaipbkaaGreatDoorSxP
import Derived.Test.YtlppdabhaipbkaaGreatDoorSxO
import Derived.Test.YtlppdabhaipbkaaGreatDoorSxS
import Derived.Test.YtlppdabhaipbkaaGreatDoorProg
import Derived.KernelRfl
set_option maxRecDepth 100000
set_option maxHeartbeats 0
set_option linter.unusedVariables false
set_option linter.unusedSimpArgs false
namespace Go.Sx
open Go.Proofs
def Lz.words:List ByteArray:= [⟨#[76]⟩,⟨#[82]⟩,⟨#[65,76]⟩,⟨#[69,78]⟩,⟨#[69,83]⟩,⟨#[69,84]⟩,⟨#[65,78]⟩,⟨#[67,83]⟩,⟨#[78,83,77]⟩,⟨#[66,78]⟩,⟨#[66]⟩,⟨#[83]⟩,⟨#[87,83]⟩,⟨#[79,78]⟩,⟨#[76,82,69]⟩,⟨#[76,82,79]⟩,
 ⟨#[82,76,69]⟩,⟨#[82,76,79]⟩,⟨#[80,68,70]⟩,⟨#[76,82,73]⟩,⟨#[82,76,73]⟩,⟨#[70,83,73]⟩,⟨#[80,68,73]⟩]
def Lz.brk:List (Int×Int):= [(0x28,0x29),(0x5b,0x5d),(0x7b,0x7d),(0x2329,0x232a),(0x3008,0x3009),(0x300a,0x300b),(0x300c,0x300d),(0x300e,0x300f),(0x3010,0x3011)]
def Lz.otherF (c:Int):Option (Int×Bool×Bool):=some (match Lz.brk.find? (fun p=>p.1==c) with|some p=>(p.2,true,true)|none=>match Lz.brk.find? (fun p=>p.2==c) with|some p=>(p.1,false,true)|none=>(0,
 false,false))
def Lz.other:Con:=⟨124,⟨⟨[.hole (.int .i64)], []⟩,⟨[.hole (.int .i64), .hole .bool, .hole .bool], []⟩⟩,Lz.otherF⟩
def Lz.TT:List (TypeId×TI):= [ (3,⟨(.int .i64),1,8,some (.int .i64), [.val (.int .i64) (0:Int)]⟩),(4,⟨.bool,1,1,some .bool, [.bit false]⟩),(5,⟨(.int .u8),1,1,some (.int .u8), [.val (.int .u8) (0:Int)]⟩),(9,⟨.str,1,
 16,some .str, [.val .str ByteArray.empty]⟩),(20,⟨.other,1,16,none, [.und]⟩),(22,⟨(.slice 3),1,24,some (.sl (.int .i64)), [.nils]⟩),(25,⟨.other,1,0,none, [.und]⟩),(35,⟨.other,1,8,none, [.und]⟩),(36,⟨(.ptr 39),1,8,
 none, [.nilp]⟩),(39,⟨(.struct [(22,0,1,false),(22,1,1,false),(22,2,1,false),(22,3,1,false),(3,4,1,false)]),5,104,some (.st (.pair (.sl (.int .i64)) (.pair (.sl (.int .i64)) (.pair (.sl (.int .i64)) (.pair (.sl (.int
 .i64)) (.int .i64)))))), [.nils, .nils, .nils, .nils, .val (.int .i64) (0:Int)]⟩),(43,⟨.other,1,0,none, [.und]⟩),(45,⟨(.slice 48),1,24,some (.sl (.st (.pair (.sl (.int .i64)) (.pair (.int .i64) (.pair (.int .i64) (.int
 .i64)))))), [.nils]⟩),(48,⟨(.struct [(22,0,1,false),(3,1,1,false),(3,2,1,false),(3,3,1,false)]),4,48,some (.st (.pair (.sl (.int .i64)) (.pair (.int .i64) (.pair (.int .i64) (.int .i64))))), [.nils, .val (.int .i64) (0:
 Int), .val (.int .i64) (0:Int), .val (.int .i64) (0:Int)]⟩),(54,⟨(.slice 88),1,24,some (.sl (.st (.pair (.int .i64) (.pair (.int .i64) (.int .i64))))), [.nils]⟩),(58,⟨(.ptr 62),1,8,none, [.nilp]⟩),(60,⟨(.slice 117),1,24,
 some (.sl (.st (.pair (.int .i64) (.pair (.int .i64) .bool)))), [.nils]⟩),(62,⟨(.struct [(3,0,1,false),(60,1,1,false),(3,2,1,false),(3,3,1,false),(3,4,1,false),(3,5,1,false),(22,6,1,false),(22,7,1,false)]),
 8,112,some (.st (.pair (.int .i64) (.pair (.sl (.st (.pair (.int .i64) (.pair (.int .i64) .bool)))) (.pair (.int .i64) (.pair (.int .i64) (.pair (.int .i64) (.pair (.int .i64) (.pair (.sl (.int .i64)) (.sl (.int .i64)))))))))), [.val
 (.int .i64) (0:Int), .nils, .val (.int .i64) (0:Int), .val (.int .i64) (0:Int), .val (.int .i64) (0:Int), .val (.int .i64) (0:Int), .nils, .nils]⟩),(63,⟨(.ptr 94),1,8,none, [.nilp]⟩),(65,⟨(.map 3 3),1,8,none, [.und]⟩),
 (66,⟨(.slice 22),1,24,some (.sl (.sl (.int .i64))), [.nils]⟩),(68,⟨.other,1,0,none, [.und]⟩),(80,⟨(.slice 82),1,24,some (.sl (.arr 2 (.int .i64))), [.nils]⟩),(82,⟨(.array 2 3),2,16,some (.arr 2 (.int .i64)), [.val (.int
 .i64) (0:Int), .val (.int .i64) (0:Int)]⟩),(83,⟨.other,1,0,none, [.und]⟩),(88,⟨(.struct [(3,0,1,false),(3,1,1,false),(3,2,1,false)]),3,24,some (.st (.pair (.int .i64) (.pair (.int .i64) (.int .i64)))), [.val (.int
 .i64) (0:Int), .val (.int .i64) (0:Int), .val (.int .i64) (0:Int)]⟩),(90,⟨.other,1,8,none, [.und]⟩),(94,⟨(.struct [(22,0,1,false),(22,1,1,false),(22,2,1,false),(22,3,1,false)]),4,96,some (.st (.pair (.sl (.int
 .i64)) (.pair (.sl (.int .i64)) (.pair (.sl (.int .i64)) (.sl (.int .i64)))))), [.nils, .nils, .nils, .nils]⟩),(96,⟨(.int .u64),1,8,some (.int .u64), [.val (.int .u64) (0:Int)]⟩),(100,⟨(.ptr 102),1,8,none, [.nilp]⟩),(102,
 ⟨(.struct [(22,0,1,false),(22,1,1,false),(3,2,1,false),(3,3,1,false)]),4,64,some (.st (.pair (.sl (.int .i64)) (.pair (.sl (.int .i64)) (.pair (.int .i64) (.int .i64))))), [.nils, .nils, .val (.int .i64) (0:Int), .val
 (.int .i64) (0:Int)]⟩),(104,⟨.other,1,8,none, [.und]⟩),(112,⟨.other,1,0,none, [.und]⟩),(117,⟨(.struct [(3,0,1,false),(3,1,1,false),(4,2,1,false)]),3,24,some (.st (.pair (.int .i64) (.pair (.int .i64) .bool))),
 [.val (.int .i64) (0:Int), .val (.int .i64) (0:Int), .bit false]⟩),(121,⟨(.slice 123),1,24,some (.sl (.st (.pair (.int .i64) (.int .i64)))), [.nils]⟩),(123,⟨(.struct [(3,0,1,false),(3,1,1,false)]),2,16,some (.st (.pair
 (.int .i64) (.int .i64))), [.val (.int .i64) (0:Int), .val (.int .i64) (0:Int)]⟩),(125,⟨.other,1,8,none, [.und]⟩),(130,⟨(.array 23 9),23,368,some (.arr 23 .str), [.val .str ByteArray.empty, .val .str ByteArray.empty, .val .str
 ByteArray.empty, .val .str ByteArray.empty, .val .str ByteArray.empty, .val .str ByteArray.empty, .val .str ByteArray.empty, .val .str ByteArray.empty, .val .str ByteArray.empty, .val .str ByteArray.empty, .val .str ByteArray.empty, .val
 .str ByteArray.empty, .val .str ByteArray.empty, .val .str ByteArray.empty, .val .str ByteArray.empty, .val .str ByteArray.empty, .val .str ByteArray.empty, .val .str ByteArray.empty, .val .str ByteArray.empty, .val .str ByteArray.empty,
 .val .str ByteArray.empty, .val .str ByteArray.empty, .val .str ByteArray.empty]⟩),(136,⟨(.int .i64),1,8,some (.int .i64), [.val (.int .i64) (0:Int)]⟩),(137,⟨.other,1,0,none, [.und]⟩),(143,⟨(.int .u32),1,4,some (.int .u32),
 [.val (.int .u32) (0:Int)]⟩),(145,⟨(.int .u64),1,8,some (.int .u64), [.val (.int .u64) (0:Int)]⟩),(146,⟨(.int .u64),1,8,some (.int .u64), [.val (.int .u64) (0:Int)]⟩),(150,⟨(.ptr 3),1,8,none, [.nilp]⟩),(152,⟨(.ptr
 146),1,8,none, [.nilp]⟩),(153,⟨.other,1,0,none, [.und]⟩),(23,⟨(.slice 5),1,24,some (.sl (.int .u8)), [.nils]⟩)]
noncomputable def Lz.C:Ctx:=⟨Lz.TT, [(0,⟨.arr 23 .str,Lz.words⟩)], [(22,(.osl (.int .i64)))], [22], []⟩
theorem Lz.Cok:Lz.C.ok Go.Proofs.Tryz.prog:=zrd (by kernel_rfl)
theorem Lz.mixed:Go.Proofs.Tryz.prog.follows .mixedOrders=true:=by kernel_rfl
def Lz.fuel:Nat:=1000000000
def Lz.f147sig:Sig:=⟨⟨[], []⟩,⟨[.mp 0], [.map (.int .i64) (.int .i64)]⟩⟩
def Lz.f147F:Unit→Option (List (Int×Int)):=fun _=>some Lz.brk
def Lz.f147ann:Ann:= .seq .leaf (.seq .leaf .leaf)
theorem Lz.f147eq: ∀ x,zl Lz.C [] Lz.f147sig Lz.f147ann Go.Proofs.Tryz.f147 x=Lz.f147F x:=by
 intro x
 kernel_rfl
def Lz.f147con:Con:=⟨147,Lz.f147sig,Lz.f147F⟩
theorem Lz.f147ok:Con.Ok Go.Proofs.Tryz.prog Lz.C Lz.f147con:=
 zb (Γ:= []) (an:=Lz.f147ann) ⟨Lz.Cok,(fun _ h=>nomatch h),Lz.mixed⟩ Go.Proofs.Tryz.func147 rfl rfl (fun x y h=>(Lz.f147eq x).trans h) (by decide)
section other
open Go.ChangeMaps (setBlock)
open Go.RowKit
def Lz.oK:Ks (Bool×List SV×List HO):={ n:=fun fr hp=>some (false,fr,hp),e:=fun _ _ _=>none,r:=fun fr hp=>some (true,fr,hp)}
theorem Lz.oK_at {lv:Lv} {fr fr':List SV} {hp hp':List HO} {b:Bool} (h:Lz.oK.at lv fr hp=some (b,fr',hp')):fr=fr'∧hp=hp'∧((b=false∧lv= .normal)∨(b=true∧lv= .ret)):=by
 cases lv<;>simp[Lz.oK,Ks.at] at h<;>obtain⟨h1,h2,h3⟩:=h<;>simp[h1.symm,h2,h3]
theorem Lz.otherF_hit {c:Int} {x:Int} (h:zef (K:= .int .i64) (V:= .int .i64) Lz.brk c=some x):Lz.otherF c=some (x,true,true):=by
 have key: ∀ es:List (Int×Int),zef (K:= .int .i64) (V:= .int .i64) es c=some x→ ∃ p,es.find? (fun p=>p.1==c)=some p∧p.2=x:=by
  intro es
  induction es with
  |nil=>intro h;simp[zef] at h
  |cons p es ih=>
   intro h
   simp only[zef,Ty.eqb] at h
   rw[List.find?_cons]
   by_cases hc:c=p.1
   ·subst hc
    simp at h
    exact⟨p,by simp,h⟩
   ·have h1:(c==p.1)=false:=by simpa using hc
    have h2:(p.1==c)=false:=by simpa using fun e=>hc e.symm
    rw[h1] at h
    rw[h2]
    exact ih h
 obtain⟨p,h1,h2⟩:=key _ h
 simp only[Lz.otherF,h1,h2]
theorem Lz.mget_none {c:Int} (es:List (Int×Int)) (h:zef (K:= .int .i64) (V:= .int .i64) es c=none):es.find? (fun p=>p.1==c)=none:=by
 induction es with
 |nil=>rfl
 |cons p es ih=>
  simp only[zef,Ty.eqb] at h
  rw[List.find?_cons]
  by_cases hc:c=p.1
  ·subst hc;simp at h
  ·have h1:(c==p.1)=false:=by simpa using hc
   have h2:(p.1==c)=false:=by simpa using fun e=>hc e.symm
   rw[h1] at h
   rw[h2]
   exact ih h
theorem Lz.otherF_miss {c:Int} (h:zef (K:= .int .i64) (V:= .int .i64) Lz.brk c=none) (h2: ∀ p∈Lz.brk,p.2≠c):Lz.otherF c=some (0,false,false):=by
 have h3:Lz.brk.find? (fun p=>p.2==c)=none:=by
  rw[List.find?_eq_none]
  intro p hp;simpa using h2 p hp
 simp only[Lz.otherF,Lz.mget_none _ h,h3]
theorem Lz.otherF_back {c:Int} (h:zef (K:= .int .i64) (V:= .int .i64) Lz.brk c=none) {p:Int×Int} (hp:p∈Lz.brk) (h2:p.2=c):Lz.otherF c=some (p.1,false,true):=by
 have h3:Lz.brk.find? (fun q=>q.2==c)=some p:=by
  subst h2
  simp only[Lz.brk,List.mem_cons,List.not_mem_nil,or_false] at hp
  rcases hp with rfl|rfl|rfl|rfl|rfl|rfl|rfl|rfl|rfl<;>rfl
 simp only[Lz.otherF,Lz.mget_none _ h,h3]
def Lz.fr2 (c:Int):List SV:=((((((.val (.int .i64) c::List.replicate 27 .skip:List SV).set 2 (.val (.int .i64) (0:Int))).set 3 (.bit false)).set 4 (.bit false)).set 8 (.mp 0)).set 5 (.mp 0))
def Lz.fr3 (c:Int) (m:Option Int):List SV:=((((((((Lz.fr2 c).set 10 (.mp 0)).set 11 (.val (.int .i64) c)).set 12 (.tup [.val (.int .i64) (m.getD 0), .val .bool m.isSome])).set 9 (.tup [.val (.int .i64) (m.getD 0), .val .bool
 m.isSome])).set 13 (.val (.int .i64) (m.getD 0))).set 14 (.val .bool m.isSome)).set 2 (.val (.int .i64) (m.getD 0))).set 4 (.val .bool m.isSome)
def Lz.frN (c:Int) (m:Option Int):List SV:=(Lz.fr3 c m).set 15 (.bit false)
def Lz.frR (c:Int) (m:Option Int):List SV:=(((((Lz.fr3 c m).set 15 (.bit true)).set 16 (.val (.int .i64) (m.getD 0))).set 2 (.val (.int .i64) (m.getD 0))).set 3 (.bit true)).set 4 (.bit true)
theorem Lz.at3 {E:Env} {fr:List SV} {a:Act} (hf:SV.satL E fr a.tmps.toList) {i:Nat} {s:SV} (hs:fr[i]? =some s) {p:Value→Prop} (hp: ∀ v,s.sat E v→p v):p (a.eval (.tmp i)):=by
 obtain⟨v,hv,hsv⟩:=ju hf hs
 have hev:a.eval (.tmp i)=v:=by simp[Act.eval,Array.getD_eq_getD_getElem?,hv]
 rw[hev];exact hp v hsv
theorem Lz.otherok:Lz.other.Ok Go.Proofs.Tryz.prog Lz.C where
 there:=⟨_,Go.Proofs.Tryz.func124,rfl,rfl⟩
 calls:=by
  intro E w args (c:Int) (y:Int×Bool×Bool) W hg hs hh hxy
  have hargs: ∃ v,args= [v]∧(SV.val (.int .i64) c).sat E v:=by
   obtain⟨v,ws,e,h1,h2⟩:=(show SV.satL E [.val (.int .i64) c] args from hs)
   simp only[SV.satL] at h2
   subst h2
   exact⟨v,e,h1⟩
  obtain⟨v0,rfl,hv0⟩:=hargs
  have hG:Given Go.Proofs.Tryz.prog Lz.C [Lz.f147con]:=⟨Lz.Cok,(List.forall_mem_cons.2 ⟨Lz.f147ok,(fun _ h=>nomatch h)⟩),Lz.mixed⟩
  have hh0:Hp ⟨w,W,E.M⟩ E [] w:=hh
  have ev0:v0= .int .i64 c:=xm (by simpa only[SV.sat] using hv0)
  refine calls_of_wp Go.Proofs.Tryz.func124 (c:=_) rfl ?_
  have hfr:SV.satL E (.val (.int .i64) c::List.replicate 27 .skip) (#[v0]++Array.replicate (Go.Proofs.Tryz.f124.ntmps - #[v0].size) undef).toList:=by
   have hsk: ∀ n,SV.satL E (List.replicate n SV.skip) (List.replicate n undef):=by
    intro n
    induction n with
    |zero=>simp[SV.satL]
    |succ n ih=>rw[List.replicate_succ,List.replicate_succ];simp only[SV.satL];exact⟨_,_,rfl,by simp[SV.sat],ih⟩
   rw[show Go.Proofs.Tryz.f124.ntmps - #[v0].size=27 by kernel_rfl,Array.toList_append,Array.toList_replicate]
   show SV.satL E _ (v0::List.replicate 27 undef)
   simp only[SV.satL]
   exact⟨_,_,rfl,by simpa only[SV.sat] using hv0,hsk 27⟩
  generalize hQ:bodyPost Go.Proofs.Tryz.prog Go.Proofs.Tryz.f124 _=Q
  have fin: ∀ (a':Act) (w':World) (E':Env) (hp':List HO),a'.defers= []→Hp ⟨w,W,E.M⟩ E' hp' w'→a'.eval (.tmp 2)= .int .i64 y.1→a'.eval (.tmp 3)= .bool y.2.1→a'.eval (.tmp 4)= .bool y.2.2→Q .ret a' w':=by
   intro a' w' E' hp' h1 h2 h3 h4 h5
   subst hQ
   refine⟨h1,retVal [.int .i64 y.1, .bool y.2.1, .bool y.2.2], ?_,⟨E'.M, []⟩,_,rfl, ?_,h2.nil,fun j e hj=>by simp[Lz.other] at hj⟩
   ·simp only[Act.eval] at h3 h4 h5
    refine zii (vs:= [.int .i64 y.1, .bool y.2.1, .bool y.2.2]) ?_
    rw[show Go.Proofs.Tryz.f124.results= #[.tmp 2, .tmp 3, .tmp 4] from rfl]
    rw[Array.getD_eq_getD_getElem?] at h3 h4 h5
    simp[h3,h4,h5]
   ·show SV.satL _ [.val (.int .i64) y.1, .val .bool y.2.1, .val .bool y.2.2] _
    simp only[SV.satL]
    exact⟨_,_,rfl,qt _,_,_,rfl,qu _,_,_,rfl,qu _,rfl⟩
  refine wp_seq ?_
  refine z8 (an:= .leaf) (r:=(false,((((.val (.int .i64) c::List.replicate 27 .skip:List SV).set 2 (.val (.int .i64) (0:Int))).set 3 (.bit false)).set 4 (.bit false)), [])) (K:=Lz.oK) hG hh0 hfr hg (by kernel_rfl) ?_
  intro lv E1 fr1 hp1 a1 w1 le1 hh1 hf1 kp1 hk1
  obtain⟨rfl,rfl,⟨_,rfl⟩|⟨h,_⟩⟩:=Lz.oK_at hk1
  case inr=>cases h
  show Code.wp _ _ _ _ _
  refine wp_seq ?_
  refine z8 (an:= .leaf) (r:=(false,((((((.val (.int .i64) c::List.replicate 27 .skip:List SV).set 2 (.val (.int .i64) (0:Int))).set 3 (.bit false)).set 4 (.bit false)).set 8 (.mp 0)).set 5 (.mp 0)), [.map (.int .i64) (.int .i64) Lz.brk])) (K:=Lz.oK) hG hh1 hf1 (Lz.C.globsOk_mono le1.1 hg) (by kernel_rfl) ?_
  intro lv E2 fr2 hp2 a2 w2 le2 hh2 hf2 kp2 hk2
  obtain⟨rfl,rfl,⟨_,rfl⟩|⟨h,_⟩⟩:=Lz.oK_at hk2
  case inr=>cases h
  have hg2:=Lz.C.globsOk_mono le2.1 (Lz.C.globsOk_mono le1.1 hg)
  show Code.wp _ _ _ _ _
  refine wp_seq ?_
  generalize hm:zef (K:= .int .i64) (V:= .int .i64) Lz.brk c=m
  have hX: ∀ (X:Code),X=X→True:=fun _ _=>trivial
  clear hX
  refine z8 (an:= .seq .leaf (.seq .leaf (.cond (.seq .leaf .leaf) .leaf))) (r:=if m.isSome=true then(true,Lz.frR c m, [.map (.int .i64) (.int .i64) Lz.brk]) else(false,Lz.frN c m, [.map (.int .i64) (.int .i64) Lz.brk])) (K:=Lz.oK) hG hh2 hf2 hg2 ?_ ?_
  ·subst hm
   refine Eq.trans (b:=if(zef (K:= .int .i64) (V:= .int .i64) Lz.brk c).isSome=true then some (true,Lz.frR c (zef (K:= .int .i64) (V:= .int .i64) Lz.brk c), [.map (.int .i64) (.int .i64) Lz.brk]) else some (false,Lz.frN c (zef (K:= .int .i64) (V:= .int .i64) Lz.brk c), [.map (.int .i64) (.int .i64) Lz.brk])) (by kernel_rfl) ?_
   split<;>rfl
  intro lv E3 fr3 hp3 a3 w3 le3 hh3 hf3 kp3 hk3
  have hdef:a3.defers= []:=by rw[kp3.defers,kp2.defers,kp1.defers]
  cases m with
  |some x=>
   obtain⟨rfl,rfl,⟨h,_⟩|⟨_,rfl⟩⟩:=Lz.oK_at (b:=true) hk3
   ·cases h
   have hy:y=(x,true,true):=by
    have:=Lz.otherF_hit hm
    have h2:Lz.otherF c=some y:=hxy
    rw[this] at h2
    exact(Option.some.inj h2).symm
   subst hy
   refine fin a3 w3 E3 _ hdef hh3 ?_ ?_ ?_
   ·exact Lz.at3 hf3 (i:=2) (s:= .val (.int .i64) x) (p:=fun v=>v= .int .i64 x) rfl fun v hv=>xm (by simpa only[SV.sat] using hv)
   ·exact Lz.at3 hf3 (i:=3) (s:= .bit true) rfl fun v hv=>by simpa only[SV.sat] using hv
   ·exact Lz.at3 hf3 (i:=4) (s:= .bit true) rfl fun v hv=>by simpa only[SV.sat] using hv
  |none=>
   obtain⟨rfl,rfl,⟨_,rfl⟩|⟨h,_⟩⟩:=Lz.oK_at (b:=false) hk3
   case inr=>cases h
   have hc0:a3.eval (.tmp 0)= .int .i64 c:=Lz.at3 hf3 (i:=0) (s:= .val (.int .i64) c) (p:=fun v=>v= .int .i64 c) rfl fun v hv=>xm (by simpa only[SV.sat] using hv)
   have h5: ∃ e b,E3.L[0]? =some e∧e.blk=some b∧a3.eval (.tmp 5)= .map (some b):=Lz.at3 hf3 (i:=5) (s:= .mp 0) (p:=fun v=> ∃ e b,E3.L[0]? =some e∧e.blk=some b∧v= .map (some b)) rfl fun v hv=>by simpa only[SV.sat] using hv
   obtain⟨le,b,he5,hb5,hv5⟩:=h5
   obtain⟨b',arr,clock,g1,g2,g3,gst⟩:=hh3.ob 0 _ _ rfl he5
   rw[hb5] at g1
   cases g1
   obtain⟨rm1,rm2⟩:=zq3 g3
   have hbl:b<w3.heap.size:=(Array.getElem?_eq_some_iff.1 g2).1
   have hs3:a3.tmps.size=28:=by
    have:=SV.satL_length hf3
    simpa [Lz.frN,Lz.fr3,Lz.fr2] using this
   show Code.wp _ _ _ _ _
   refine wp_seq (wp_seq (wp_region_list ?_))
   refine zC rfl (v:= .map (some b)) (w':=w3) (by simp[execOp,hv5]) ?_
   refine zC rfl (v:= .pointer (some ⟨w3.heap.size,0,none⟩)) (w':=w3.alloc (.mapIter (some b) clock #[] clock)) ?_ ?_
   ·simp only[execOp]
    rw[zi (by omega)]
    have:=run_range_map (P:=Go.Proofs.Tryz.prog) w3 65 3 3 b arr clock (by kernel_rfl) g2
    simp[this]
   refine wpList_nil ?_
   show Code.wp _ _ _ _ _
   refine wp_block (wp_loop_rounds (arr.size+1) ?_)
   refine zkh (I:=fun n a' w'=> ∃ seen,(leftOf arr seen).size<n∧a'.eval (.tmp 0)= .int .i64 c∧a'.eval (.tmp 18)= .pointer (some ⟨w3.heap.size,0,none⟩)∧a'.tmps.size=28∧a'.defers= []∧Below w3.heap.size w3 w'∧
     w'.heap[w3.heap.size]? =some (.mapIter (some b) clock seen clock)∧(∀ e∈arr.toList,seen.contains e.born=true→e.val≠ .int .i64 c)) ?_ ?_ (arr.size+1) _ _ ?_
   ·rintro a w ⟨seen,h,_⟩;omega
   ·rintro n a' w' Kx hKx ⟨seen,hlt,k0,k18,ksz,kdef,kbel,khp,kseen⟩
    have hb':w'.heap[b]? =some (.map arr clock):=by rw[kbel.block b hbl];exact g2
    refine wp_seq (wp_region_list ?_)
    rcases run_next_at (P:=Go.Proofs.Tryz.prog) w' 0 w3.heap.size b clock clock seen arr clock khp hb' gst.1 (Nat.le_refl _) with ⟨q1,q2⟩|⟨e,q1,w1,q2,q3⟩
    ·refine zC rfl (v:= .tuple #[.bool false]) (w':=w') (by simp[execOp,k18,q2]) ?_
     refine zC rfl (v:= .bool false) (w':=w') ?_ ?_
     ·simp only[execOp]
      rw[zi (by omega)]
      simp[Instr.extract]
     refine wpList_nil ?_
     show Code.wp _ _ _ _ _
     refine wp_seq (wp_cond_false ?_ (wp_exit ?_))
     ·exact zi (by rw[zW];omega)
     show Code.wp _ _ _ _ _
     have hmiss:Lz.otherF c=some (0,false,false):=by
      refine Lz.otherF_miss hm fun p hp e=> ?_
      obtain⟨m',hm',_,cv,hcv,hval⟩:=rm2 p hp
      have hsn:=all_seen arr seen q1 m' hm'
      refine kseen m' hm' hsn ?_
      simp only[Rep] at hcv
      rw[hval,hcv, ← e];rfl
     have hy:y=(0,false,false):=by
      have h2:Lz.otherF c=some y:=hxy
      rw[hmiss] at h2
      exact(Option.some.inj h2).symm
     subst hy
     refine wp_seq (wp_region_list ?_)
     refine zC rfl (v:= .int .i64 0) (w':=w') (by simp[execOp,j3]) ?_
     refine zC rfl (v:= .bool false) (w':=w') (by simp[execOp,j3]) ?_
     refine zC rfl (v:= .bool false) (w':=w') (by simp[execOp,j3]) ?_
     refine wpList_nil ?_
     show Code.wp _ _ _ _ _
     refine wp_ret (fin _ w' E3 _ ?_ (hh3.grow kbel) ?_ ?_ ?_)
     ·simp only[jX];exact kdef
     ·rw[zt (by decide),zt (by decide)];exact zi (by simp only[zW];omega)
     ·rw[zt (by decide)];exact zi (by simp only[zW];omega)
     ·exact zi (by simp only[zW];omega)
    ·have kbel1:Below w3.heap.size w3 w1:=by
      rcases q2 with rfl|rfl
      ·exact kbel
      ·exact kbel.drew
     have khp1:w1.heap[w3.heap.size]? =some (.mapIter (some b) clock seen clock):=by
      rcases q2 with rfl|rfl<;>exact khp
     obtain⟨hmem,hns⟩:=mem_left q1
     have khp2:=zf6 khp1 (.mapIter (some b) clock (seen.push e.born) clock)
     have kbel2:=zi5 kbel1 (Nat.le_refl _) khp1 (.mapIter (some b) clock (seen.push e.born) clock)
     generalize hw2:setBlock w1 w3.heap.size (.mapIter (some b) clock (seen.push e.born) clock)=w2 at q3 khp2 kbel2
     have hb2:w2.heap[b]? =some (.map arr clock):=by rw[kbel2.block b hbl];exact g2
     have hen:=run_entry_at (P:=Go.Proofs.Tryz.prog) w2 w3.heap.size b clock seen arr clock e khp2 hb2 hmem gst.2
     obtain⟨p,hp,⟨ck,hck,hkey⟩,cv,hcv,hval⟩:=rm1 e hmem
     have hkey':e.key= .int .i64 p.1:=by rw[hkey];simp only[Rep] at hck;rw[hck];rfl
     have hval':e.val= .int .i64 p.2:=by rw[hval];simp only[Rep] at hcv;rw[hcv];rfl
     rw[hkey',hval'] at q3 hen
     refine zC rfl (v:= .tuple #[.bool true, .int .i64 p.1, .int .i64 p.2]) (w':=w2) (by simp[execOp,k18,q3]) ?_
     refine zC rfl (v:= .bool true) (w':=w2) ?_ ?_
     ·simp only[execOp]
      rw[zi (by omega)]
      simp[Instr.extract]
     refine wpList_nil ?_
     show Code.wp _ _ _ _ _
     refine wp_seq (wp_cond_true ?_ (wp_skip ?_))
     ·exact zi (by rw[zW];omega)
     show Code.wp _ _ _ _ _
     refine wp_block (wp_seq (wp_region_list ?_))
     refine zC rfl (v:= .tuple #[.int .i64 p.1, .int .i64 p.2]) (w':=w2) ?_ ?_
     ·simp only[execOp]
      rw[zt (by decide),zt (by decide),k18]
      simp[hen]
     refine zC rfl (v:= .int .i64 p.1) (w':=w2) ?_ ?_
     ·simp only[execOp]
      rw[zi (by simp only[zW];omega)]
      simp[Instr.extract]
     refine zC rfl (v:= .int .i64 p.2) (w':=w2) ?_ ?_
     ·simp only[execOp]
      rw[zt (by decide),zi (by simp only[zW];omega)]
      simp[Instr.extract]
     refine zC rfl (v:= .int .i64 p.1) (w':=w2) ?_ ?_
     ·simp only[execOp]
      rw[zt (by decide),zi (by simp only[zW];omega)]
      simp
     refine zC rfl (v:= .int .i64 p.2) (w':=w2) ?_ ?_
     ·simp only[execOp]
      rw[zt (by decide),zi (by simp only[zW];omega)]
      simp
     refine wpList_nil ?_
     show Code.wp _ _ _ _ _
     generalize hA:Act.put _ (some 7) (Value.int .i64 p.2)=A
     have A0:A.eval (.tmp 0)= .int .i64 c:=by
      subst hA
      iterate 7 rw[zt (by decide)]
      exact k0
     have A18:A.eval (.tmp 18)= .pointer (some ⟨w3.heap.size,0,none⟩):=by
      subst hA
      iterate 7 rw[zt (by decide)]
      exact k18
     have A6:A.eval (.tmp 6)= .int .i64 p.1:=by
      subst hA
      rw[zt (by decide)]
      exact zi (by simp only[zW];omega)
     have A7:A.eval (.tmp 7)= .int .i64 p.2:=by
      subst hA
      exact zi (by simp only[zW];omega)
     have As:A.tmps.size=28:=by subst hA;simp only[zW];exact ksz
     have Ad:A.defers= []:=by subst hA;simp only[jX];exact kdef
     clear hA
     refine wp_seq (wp_region_list ?_)
     refine zC rfl (v:= .int .i64 p.2) (w':=w2) (by simp[execOp,A7]) ?_
     refine zC rfl (v:= .int .i64 c) (w':=w2) ?_ ?_
     ·simp only[execOp]
      rw[zt (by decide),A0]
      simp
     refine zC rfl (v:= .bool (p.2==c)) (w':=w2) ?_ ?_
     ·simp only[execOp]
      rw[zt (by decide),zi (by omega),zi (by simp only[zW];omega)]
      simp[eqGuard,binOp,Op.intCmp]
     refine wpList_nil ?_
     show Code.wp _ _ _ _ _
     generalize hA2:Act.put _ (some 26) (Value.bool (p.2==c))=A2
     have B0:A2.eval (.tmp 0)= .int .i64 c:=by
      subst hA2
      iterate 3 rw[zt (by decide)]
      exact A0
     have B18:A2.eval (.tmp 18)= .pointer (some ⟨w3.heap.size,0,none⟩):=by
      subst hA2
      iterate 3 rw[zt (by decide)]
      exact A18
     have B6:A2.eval (.tmp 6)= .int .i64 p.1:=by
      subst hA2
      iterate 3 rw[zt (by decide)]
      exact A6
     have B26:A2.eval (.tmp 26)= .bool (p.2==c):=by
      subst hA2
      exact zi (by simp only[zW];omega)
     have Bs:A2.tmps.size=28:=by subst hA2;simp only[zW];exact As
     have Bd:A2.defers= []:=by subst hA2;simp only[jX];exact Ad
     clear hA2
     by_cases hpc:p.2=c
     ·have hback:=Lz.otherF_back hm hp hpc
      have hy:y=(p.1,false,true):=by
       have h2:Lz.otherF c=some y:=hxy
       rw[hback] at h2
       exact(Option.some.inj h2).symm
      subst hy
      refine wp_cond_true (by rw[B26];simp[hpc]) (wp_seq (wp_region_list ?_))
      refine zC rfl (v:= .int .i64 p.1) (w':=w2) (by simp[execOp,B6]) ?_
      refine zC rfl (v:= .int .i64 p.1) (w':=w2) ?_ ?_
      ·simp only[execOp]
       rw[zi (by omega)]
       simp
      refine zC rfl (v:= .bool false) (w':=w2) (by simp[execOp,j3]) ?_
      refine zC rfl (v:= .bool true) (w':=w2) (by simp[execOp,j3]) ?_
      refine wpList_nil ?_
      show Code.wp _ _ _ _ _
      refine wp_ret (fin _ w2 E3 _ ?_ (hh3.grow kbel2) ?_ ?_ ?_)
      ·simp only[jX];exact Bd
      ·rw[zt (by decide),zt (by decide)];exact zi (by simp only[zW];omega)
      ·rw[zt (by decide)];exact zi (by simp only[zW];omega)
      ·exact zi (by simp only[zW];omega)
     ·refine wp_cond_false (by rw[B26];simp[hpc]) (wp_skip ?_)
      refine hKx _ _ ⟨seen.push e.born, ?_,B0,B18,Bs,Bd,kbel2,khp2,fun x hx hs=> ?_⟩
      ·have:=left_shrinks arr seen e q1;omega
      ·rw[Array.contains_eq_mem] at hs
       simp only[Array.mem_push,decide_eq_true_eq] at hs
       rcases hs with hs|hs
       ·exact kseen x hx (by rw[Array.contains_eq_mem];simpa using hs)
       ·have:x=e:=by
         have hnd:=gst.2
         have f1:=find_born x _ hnd hx
         have f2:=find_born e _ hnd hmem
         rw[hs,f2] at f1
         exact(Option.some.inj f1).symm
        subst this
        rw[hval']
        intro e;cases e;exact hpc rfl
   ·refine⟨#[], ?_, ?_, ?_, ?_, ?_,(Below.refl _ _).alloc (Nat.le_refl _) _,heap_alloc_new w3 _,fun e _ h=>by simp at h⟩
    ·have:(leftOf arr #[]).size≤arr.size:=by unfold leftOf;exact Array.size_filter_le
     omega
    ·rw[zt (by decide),zt (by decide)];exact hc0
    ·exact zi (by simp only[zW];omega)
    ·simp only[zW];exact hs3
    ·simp only[jX];exact hdef
end other
def Lz.f40sig:Sig:=⟨⟨[], []⟩,⟨[.hole (.sl (.st (.pair (.int .i64) (.pair (.int .i64) (.int .i64)))))], []⟩⟩
noncomputable def Lz.f40Γ:List Con:= []
def Lz.f40ann:Ann:=(.seq .leaf (.seq .leaf .leaf))
noncomputable def Lz.f40F:PUnit→Option (List (Int×Int×Int)):=fun(x:PUnit)=>some [((0:Int),(8:Int),(9:Int)),((9:Int),(9:Int),(11:Int)),((10:Int),(10:Int),(10:Int)),((11:Int),(11:Int),(11:
 Int)),((12:Int),(12:Int),(12:Int)),((13:Int),(13:Int),(10:Int)),((14:Int),(27:Int),(9:Int)),((28:Int),(30:Int),(10:Int)),((31:Int),(31:Int),(11:Int)),((32:Int),(32:Int),(12:Int)),((33:
 Int),(34:Int),(13:Int)),((35:Int),(37:Int),(5:Int)),((38:Int),(42:Int),(13:Int)),((43:Int),(43:Int),(4:Int)),((44:Int),(44:Int),(7:Int)),((45:Int),(45:Int),(4:Int)),((46:Int),(47:
 Int),(7:Int)),((48:Int),(57:Int),(3:Int)),((58:Int),(58:Int),(7:Int)),((59:Int),(64:Int),(13:Int)),((91:Int),(96:Int),(13:Int)),((123:Int),(126:Int),(13:Int)),((127:Int),(132:Int),(9:
 Int)),((133:Int),(133:Int),(10:Int)),((134:Int),(159:Int),(9:Int)),((160:Int),(160:Int),(7:Int)),((161:Int),(161:Int),(13:Int)),((162:Int),(165:Int),(5:Int)),((166:Int),(169:Int),(13:
 Int)),((171:Int),(172:Int),(13:Int)),((173:Int),(173:Int),(9:Int)),((174:Int),(175:Int),(13:Int)),((176:Int),(177:Int),(5:Int)),((178:Int),(179:Int),(3:Int)),((180:Int),(180:Int),(13:
 Int)),((182:Int),(184:Int),(13:Int)),((185:Int),(185:Int),(3:Int)),((187:Int),(191:Int),(13:Int)),((215:Int),(215:Int),(13:Int)),((247:Int),(247:Int),(13:Int)),((768:Int),(879:Int),(8:
 Int)),((1425:Int),(1469:Int),(8:Int)),((1470:Int),(1470:Int),(1:Int)),((1471:Int),(1471:Int),(8:Int)),((1472:Int),(1472:Int),(1:Int)),((1473:Int),(1474:Int),(8:Int)),((1488:Int),(1524:Int),
 (1:Int)),((1536:Int),(1541:Int),(6:Int)),((1542:Int),(1543:Int),(13:Int)),((1544:Int),(1544:Int),(2:Int)),((1545:Int),(1546:Int),(5:Int)),((1547:Int),(1547:Int),(2:Int)),((1548:Int),(1548:
 Int),(7:Int)),((1549:Int),(1549:Int),(2:Int)),((1552:Int),(1562:Int),(8:Int)),((1563:Int),(1610:Int),(2:Int)),((1611:Int),(1631:Int),(8:Int)),((1632:Int),(1641:Int),(6:Int)),((1642:Int),
 (1642:Int),(5:Int)),((1643:Int),(1644:Int),(6:Int)),((1645:Int),(1647:Int),(2:Int)),((1648:Int),(1648:Int),(8:Int)),((1649:Int),(1749:Int),(2:Int)),((8203:Int),(8205:Int),(9:Int)),((8207:
 Int),(8207:Int),(1:Int)),((8208:Int),(8231:Int),(13:Int)),((8232:Int),(8232:Int),(12:Int)),((8233:Int),(8233:Int),(10:Int)),((8234:Int),(8234:Int),(14:Int)),((8235:Int),(8235:Int),(16:
 Int)),((8236:Int),(8236:Int),(18:Int)),((8237:Int),(8237:Int),(15:Int)),((8238:Int),(8238:Int),(17:Int)),((8239:Int),(8239:Int),(7:Int)),((8240:Int),(8244:Int),(5:Int)),((8245:Int),(8259:
 Int),(13:Int)),((8294:Int),(8294:Int),(19:Int)),((8295:Int),(8295:Int),(20:Int)),((8296:Int),(8296:Int),(21:Int)),((8297:Int),(8297:Int),(22:Int)),((8304:Int),(8304:Int),(3:Int)),((8308:
 Int),(8313:Int),(3:Int)),((8352:Int),(8384:Int),(5:Int)),((8592:Int),(8721:Int),(13:Int)),((8722:Int),(8722:Int),(4:Int)),((8723:Int),(8723:Int),(5:Int)),((8724:Int),(9013:Int),(13:Int)),
 ((12296:Int),(12305:Int),(13:Int)),((65279:Int),(65279:Int),(9:Int)),((128512:Int),(128591:Int),(13:Int))]
theorem Lz.f40eq: ∀ x,zl Lz.C Lz.f40Γ Lz.f40sig Lz.f40ann Go.Proofs.Tryz.f40 x=Lz.f40F x:=by
 intro x
 kernel_rfl
noncomputable def Lz.f40con:Con:=⟨40,Lz.f40sig,Lz.f40F⟩
theorem Lz.f40ok:Con.Ok Go.Proofs.Tryz.prog Lz.C Lz.f40con:=
 zb (Γ:=Lz.f40Γ) (an:=Lz.f40ann) ⟨Lz.Cok,(fun _ h=>nomatch h),Lz.mixed⟩ Go.Proofs.Tryz.func40 rfl rfl (fun x y h=>(Lz.f40eq x).trans h) (by decide)
def Lz.f72sig:Sig:=⟨⟨[.hole (.st (.pair (.int .i64) (.pair (.int .i64) (.int .i64)))), .hole (.int .i64)], []⟩,⟨[.hole (.int .i64)], []⟩⟩
noncomputable def Lz.f72Γ:List Con:= []
def Lz.f72ann:Ann:=(.seq .leaf (.seq (.block (.seq .leaf (.cond (.seq .leaf .leaf) (.seq .leaf (.cond (.seq .leaf .leaf) .leaf))))) (.seq .leaf .leaf)))
noncomputable def Lz.f72F:(Int×Int×Int)×Int→Option (Int):=fun(x:(Int×Int×Int)×Int)=>if decide (x.1.2.1<x.2)=true then some (-1:Int) else if decide (x.1.1 > x.2)=true then some (1:Int) else some (0:Int)
theorem Lz.f72eq: ∀ x,zl Lz.C Lz.f72Γ Lz.f72sig Lz.f72ann Go.Proofs.Tryz.f72 x=Lz.f72F x:=by
 intro x
 kernel_rfl
noncomputable def Lz.f72con:Con:=⟨72,Lz.f72sig,Lz.f72F⟩
theorem Lz.f72ok:Con.Ok Go.Proofs.Tryz.prog Lz.C Lz.f72con:=
 zb (Γ:=Lz.f72Γ) (an:=Lz.f72ann) ⟨Lz.Cok,(fun _ h=>nomatch h),Lz.mixed⟩ Go.Proofs.Tryz.func72 rfl rfl (fun x y h=>(Lz.f72eq x).trans h) (by decide)
def Lz.f71sig:Sig:=⟨⟨[.hole (.sl (.st (.pair (.int .i64) (.pair (.int .i64) (.int .i64))))), .hole (.int .i64), .fnc 72 0], []⟩,⟨[.hole (.int .i64), .hole .bool], []⟩⟩
noncomputable def Lz.f71Γ:List Con:= [Lz.f72con]
def Lz.f71ann:Ann:=(.seq .leaf (.seq .leaf (.seq .leaf (.seq (.block (.loop ⟨.normal, [(9, .hole (.int .i64)),(10, .hole (.int .i64))], []⟩ [⟨(.exit 0), [(9, .hole (.int .i64))], []⟩] (.seq (.seq .leaf (.cond .leaf .leaf)) (.block
 (.seq .leaf (.seq .leaf (.cond .leaf .leaf))))))) (.seq .leaf .leaf)))))
noncomputable def Lz.f71F:List (Int×Int×Int)×Int→Option (Int×Bool):=fun(x:List (Int×Int×Int)×Int)=>Option.bind (iter (fun(s1:Int×Int)=>if decide (s1.1<s1.2)=true then if(0:Int)≤IntKind.i64.wrap
 (Int.fdiv (IntKind.wrap IntKind.u64 (IntKind.i64.wrap (s1.1+s1.2))) ((2:Int) ^ Min.min (Int.toNat (1:Int)) (IntKind.bits IntKind.u64)))∧IntKind.i64.wrap (Int.fdiv (IntKind.wrap IntKind.u64 (IntKind.i64.wrap (s1.1+s1.2))) ((2:
 Int) ^ Min.min (Int.toNat (1:Int)) (IntKind.bits IntKind.u64)))<(x.1.length:Int) then Option.bind (Lz.f72F (List.getD x.1 (Int.toNat (IntKind.i64.wrap (Int.fdiv (IntKind.wrap IntKind.u64 (IntKind.i64.wrap (s1.1+s1.2))) ((2:Int) ^
 Min.min (Int.toNat (1:Int)) (IntKind.bits IntKind.u64))))) ((0:Int),(0:Int),(0:Int)),x.2)) fun v2=>if decide (v2<(0:Int))=true then some (Sum.inl (IntKind.i64.wrap (IntKind.i64.wrap (Int.fdiv (IntKind.wrap IntKind.u64
 (IntKind.i64.wrap (s1.1+s1.2))) ((2:Int) ^ Min.min (Int.toNat (1:Int)) (IntKind.bits IntKind.u64)))+(1:Int)),s1.2)) else some (Sum.inl (s1.1,IntKind.i64.wrap (Int.fdiv (IntKind.wrap IntKind.u64 (IntKind.i64.wrap (s1.1+s1.2)))
 ((2:Int) ^ Min.min (Int.toNat (1:Int)) (IntKind.bits IntKind.u64))))) else none else some (Sum.inr s1.1)) ((0:Int),(x.1.length:Int))) fun v1=>if decide (v1<(x.1.length:Int))=true then if(0:Int)≤v1∧v1<(x.1.length:
 Int) then Option.bind (Lz.f72F (List.getD x.1 (Int.toNat v1) ((0:Int),(0:Int),(0:Int)),x.2)) fun v2=>some (v1,v2==(0:Int)) else none else some (v1,false)
theorem Lz.f71eq: ∀ x,zl Lz.C Lz.f71Γ Lz.f71sig Lz.f71ann Go.Proofs.Tryz.f71 x=Lz.f71F x:=by
 intro x
 kernel_rfl
noncomputable def Lz.f71con:Con:=⟨71,Lz.f71sig,Lz.f71F⟩
theorem Lz.f71ok:Con.Ok Go.Proofs.Tryz.prog Lz.C Lz.f71con:=
 zb (Γ:=Lz.f71Γ) (an:=Lz.f71ann) ⟨Lz.Cok,(List.forall_mem_cons.2 ⟨Lz.f72ok,(fun _ h=>nomatch h)⟩),Lz.mixed⟩ Go.Proofs.Tryz.func71 rfl rfl (fun x y h=>(Lz.f71eq x).trans h) (by decide)
def Lz.f41sig:Sig:=⟨⟨[.hole (.sl (.st (.pair (.int .i64) (.pair (.int .i64) (.int .i64))))), .hole (.int .i64)], []⟩,⟨[.hole (.int .i64)], []⟩⟩
noncomputable def Lz.f41Γ:List Con:= [Lz.f71con,Lz.f72con]
def Lz.f41ann:Ann:=(.seq .leaf (.seq .leaf (.seq (.seq .leaf (.cond (.seq .leaf .leaf) .leaf)) (.seq .leaf .leaf))))
noncomputable def Lz.f41F:List (Int×Int×Int)×Int→Option (Int):=fun(x:List (Int×Int×Int)×Int)=>Option.bind (Lz.f71F (x.1,x.2)) fun v1=>if(!v1.2)=true then some (0:Int) else if(0:Int)≤v1.1∧v1.1<
 (x.1.length:Int) then some (List.getD x.1 (Int.toNat v1.1) ((0:Int),(0:Int),(0:Int))).2.2 else none
theorem Lz.f41eq: ∀ x,zl Lz.C Lz.f41Γ Lz.f41sig Lz.f41ann Go.Proofs.Tryz.f41 x=Lz.f41F x:=by
 intro x
 kernel_rfl
noncomputable def Lz.f41con:Con:=⟨41,Lz.f41sig,Lz.f41F⟩
theorem Lz.f41ok:Con.Ok Go.Proofs.Tryz.prog Lz.C Lz.f41con:=
 zb (Γ:=Lz.f41Γ) (an:=Lz.f41ann) ⟨Lz.Cok,(List.forall_mem_cons.2 ⟨Lz.f71ok,(List.forall_mem_cons.2 ⟨Lz.f72ok,(fun _ h=>nomatch h)⟩)⟩),Lz.mixed⟩ Go.Proofs.Tryz.func41 rfl rfl (fun x y h=>(Lz.f41eq x).trans h) (by decide)
def Lz.f25sig:Sig:=⟨⟨[.hole (.sl (.int .i64))], []⟩,⟨[.hole (.sl (.int .i64))], []⟩⟩
noncomputable def Lz.f25Γ:List Con:= [Lz.f40con,Lz.f41con]
def Lz.f25ann:Ann:=(.seq .leaf (.seq .leaf (.seq .leaf (.seq (.seq .leaf (.block (.loop ⟨.normal, [(4, .own 0),(10, .hole (.int .i64))], [.arr 3 (.int .i64)]⟩ [⟨(.exit 0), [(4, .own 0)], [.arr 3 (.int .i64)]⟩] (.seq .leaf (.seq (.cond
 .leaf .leaf) (.seq (.block (.seq .leaf .leaf)) .leaf)))))) (.seq .leaf .leaf)))))
noncomputable def Lz.f25F:List Int→Option (List Int):=fun(x:List Int)=>Option.bind (Lz.f40F ()) fun(v1:List (Int×Int×Int))=>Option.bind (iter (fun(s2:Int×List Int)=>if decide (s2.1<(x.length:Int))=true then
 if(0:Int)≤s2.1∧s2.1<(x.length:Int) then Option.bind (Lz.f41F (v1,List.getD x (Int.toNat s2.1) (0:Int))) fun v3=>if zj (List.length s2.2+(1:Nat)) (8:Nat) then some (Sum.inl (IntKind.i64.wrap (s2.1+(1:Int)),s2.2
 ++ [v3])) else none else none else some (Sum.inr s2.2)) ((0:Int), [])) fun(v2:List Int)=>some v2
theorem Lz.f25eq: ∀ x,zl Lz.C Lz.f25Γ Lz.f25sig Lz.f25ann Go.Proofs.Tryz.f25 x=Lz.f25F x:=by
 intro x
 kernel_rfl
noncomputable def Lz.f25con:Con:=⟨25,Lz.f25sig,Lz.f25F⟩
theorem Lz.f25ok:Con.Ok Go.Proofs.Tryz.prog Lz.C Lz.f25con:=
 zb (Γ:=Lz.f25Γ) (an:=Lz.f25ann) ⟨Lz.Cok,(List.forall_mem_cons.2 ⟨Lz.f40ok,(List.forall_mem_cons.2 ⟨Lz.f41ok,(fun _ h=>nomatch h)⟩)⟩),Lz.mixed⟩ Go.Proofs.Tryz.func25 rfl rfl (fun x y h=>(Lz.f25eq x).trans h) (by decide)
def Lz.f77sig:Sig:=⟨⟨[.hole (.sl (.int .i64))], []⟩,⟨[.hole (.int .u64)], []⟩⟩
noncomputable def Lz.f77Γ:List Con:= []
def Lz.f77ann:Ann:=(.seq .leaf (.seq (.seq .leaf (.block (.loop ⟨.normal, [(2, .hole (.int .u64)),(7, .hole (.int .i64))], []⟩ [⟨(.exit 0), [(2, .hole (.int .u64))], []⟩] (.seq .leaf (.seq (.cond .leaf .leaf) (.seq (.block (.seq .leaf
 .leaf)) .leaf)))))) (.seq .leaf .leaf)))
noncomputable def Lz.f77F:List Int→Option (Int):=fun(x:List Int)=>Option.bind (iter (fun(s1:Int×Int)=>if decide (s1.2<(x.length:Int))=true then if(0:Int)≤s1.2∧s1.2<(x.length:Int) then if List.getD x
 (Int.toNat s1.2) (0:Int)<(0:Int) then none else some (Sum.inl (IntKind.wrap IntKind.u64 (↑(BitVec.toNat (BitVec.ofInt (IntKind.bits IntKind.u64) s1.1 ||| BitVec.ofInt (IntKind.bits IntKind.u64) (IntKind.wrap IntKind.u64 ((1:Int)*
 (2:Int) ^ Min.min (Int.toNat (List.getD x (Int.toNat s1.2) (0:Int))) (IntKind.bits IntKind.u64))))):Int),IntKind.i64.wrap (s1.2+(1:Int)))) else none else some (Sum.inr s1.1)) ((0:Int),(0:Int))) fun v1=>some v1
theorem Lz.f77eq: ∀ x,zl Lz.C Lz.f77Γ Lz.f77sig Lz.f77ann Go.Proofs.Tryz.f77 x=Lz.f77F x:=by
 intro x
 kernel_rfl
noncomputable def Lz.f77con:Con:=⟨77,Lz.f77sig,Lz.f77F⟩
theorem Lz.f77ok:Con.Ok Go.Proofs.Tryz.prog Lz.C Lz.f77con:=
 zb (Γ:=Lz.f77Γ) (an:=Lz.f77ann) ⟨Lz.Cok,(fun _ h=>nomatch h),Lz.mixed⟩ Go.Proofs.Tryz.func77 rfl rfl (fun x y h=>(Lz.f77eq x).trans h) (by decide)
def Lz.f76sig:Sig:=⟨⟨[.hole (.int .i64), .hole (.int .u64)], []⟩,⟨[.hole .bool], []⟩⟩
noncomputable def Lz.f76Γ:List Con:= []
def Lz.f76ann:Ann:=(.seq .leaf (.seq .leaf .leaf))
noncomputable def Lz.f76F:Int×Int→Option (Bool):=fun(x:Int×Int)=>if decide (x.1≥(0:Int))=true then if decide (x.1≤(22:Int))=true then if x.1<(0:Int) then none else some (IntKind.wrap IntKind.u64
 (↑(BitVec.toNat (BitVec.ofInt (IntKind.bits IntKind.u64) (Int.fdiv x.2 ((2:Int) ^ Min.min (Int.toNat x.1) (IntKind.bits IntKind.u64))) &&& BitVec.ofInt (IntKind.bits IntKind.u64) (1:Int))):Int)==(1:Int)) else some false else some
 false
theorem Lz.f76eq: ∀ x,zl Lz.C Lz.f76Γ Lz.f76sig Lz.f76ann Go.Proofs.Tryz.f76 x=Lz.f76F x:=by
 intro x
 kernel_rfl
noncomputable def Lz.f76con:Con:=⟨76,Lz.f76sig,Lz.f76F⟩
theorem Lz.f76ok:Con.Ok Go.Proofs.Tryz.prog Lz.C Lz.f76con:=
 zb (Γ:=Lz.f76Γ) (an:=Lz.f76ann) ⟨Lz.Cok,(fun _ h=>nomatch h),Lz.mixed⟩ Go.Proofs.Tryz.func76 rfl rfl (fun x y h=>(Lz.f76eq x).trans h) (by decide)
def Lz.f47sig:Sig:=⟨⟨[.hole (.int .i64)], []⟩,⟨[.hole .bool], []⟩⟩
noncomputable def Lz.f47Γ:List Con:= [Lz.f77con,Lz.f76con]
def Lz.f47ann:Ann:=(.seq .leaf (.seq .leaf .leaf))
noncomputable def Lz.f47F:Int→Option (Bool):=fun(x:Int)=>Option.bind (Lz.f77F [(19:Int),(20:Int),(21:Int)]) fun v1=>Option.bind (Lz.f76F (x,v1)) fun v2=>some v2
theorem Lz.f47eq: ∀ x,zl Lz.C Lz.f47Γ Lz.f47sig Lz.f47ann Go.Proofs.Tryz.f47 x=Lz.f47F x:=by
 intro x
 kernel_rfl
noncomputable def Lz.f47con:Con:=⟨47,Lz.f47sig,Lz.f47F⟩
theorem Lz.f47ok:Con.Ok Go.Proofs.Tryz.prog Lz.C Lz.f47con:=
 zb (Γ:=Lz.f47Γ) (an:=Lz.f47ann) ⟨Lz.Cok,(List.forall_mem_cons.2 ⟨Lz.f77ok,(List.forall_mem_cons.2 ⟨Lz.f76ok,(fun _ h=>nomatch h)⟩)⟩),Lz.mixed⟩ Go.Proofs.Tryz.func47 rfl rfl (fun x y h=>(Lz.f47eq x).trans h) (by decide)
def Lz.f45sig:Sig:=⟨⟨[.hole (.sl (.int .i64))], []⟩,⟨[.hole (.sl (.int .i64))], []⟩⟩
noncomputable def Lz.f45Γ:List Con:= [Lz.f47con]
def Lz.f45ann:Ann:=(.seq .leaf (.seq .leaf (.seq .leaf (.seq (.seq .leaf (.block (.loop ⟨.normal, [(4, .own 1),(13, .hole (.int .i64))], [.arr 3 (.int .i64), .arr 3 (.int .i64)]⟩ [⟨(.exit 0), [], [.arr 3 (.int .i64)]⟩] (.seq .leaf
 (.seq (.cond .leaf .leaf) (.seq (.block (.seq .leaf (.seq .leaf (.block (.seq .leaf (.cond .leaf (.seq .leaf (.cond .leaf (.seq (.join [⟨.normal, [(31, .hole .bool)], [.arr 3 (.int .i64), .arr 3 (.int .i64)]⟩] .leaf) (.cond (.seq .leaf
 (.seq .leaf .leaf)) .leaf)))))))))) .leaf)))))) (.seq .leaf .leaf)))))
noncomputable def Lz.f45F:List Int→Option (List Int):=fun(x:List Int)=>if(0:Int)≤(x.length:Int)∧(x.length:Int)≤(x.length:Int)∧zj (Int.toNat (x.length:Int)) (8:Nat) then Option.bind (iter (fun(s1:Int×
 List Int×List Int)=>if decide (s1.1<(x.length:Int))=true then if(0:Int)≤s1.1∧s1.1<(x.length:Int) then if(0:Int)≤s1.1∧s1.1<(s1.2.1.length:Int) then if(List.getD x (Int.toNat s1.1) (0:Int)==(10:Int))=
 true then some (Sum.inl (IntKind.i64.wrap (s1.1+(1:Int)),List.set s1.2.1 (Int.toNat s1.1) (-1:Int), [])) else Option.bind (Lz.f47F (List.getD x (Int.toNat s1.1) (0:Int))) fun v2=>if v2=true then if zj (List.length s1.2.2+
 (1:Nat)) (8:Nat) then some (Sum.inl (IntKind.i64.wrap (s1.1+(1:Int)),List.set s1.2.1 (Int.toNat s1.1) (-1:Int),s1.2.2++ [s1.1])) else none else Option.bind (if(List.getD x (Int.toNat s1.1) (0:Int)==(22:Int))=true then
 some (decide ((s1.2.2.length:Int) > (0:Int)),List.set s1.2.1 (Int.toNat s1.1) (-1:Int),s1.2.2) else some (false,List.set s1.2.1 (Int.toNat s1.1) (-1:Int),s1.2.2)) fun(v3:Bool×List Int×List Int)=>if v3.1=true then if
 (0:Int)≤IntKind.i64.wrap ((v3.2.2.length:Int) - (1:Int))∧IntKind.i64.wrap ((v3.2.2.length:Int) - (1:Int))<(v3.2.2.length:Int) then if(0:Int)≤IntKind.i64.wrap ((v3.2.2.length:Int) - (1:Int))∧IntKind.i64.wrap
 ((v3.2.2.length:Int) - (1:Int))≤(v3.2.2.length:Int) then if(0:Int)≤s1.1∧s1.1<(v3.2.1.length:Int) then if(0:Int)≤List.getD v3.2.2 (Int.toNat (IntKind.i64.wrap ((v3.2.2.length:Int) - (1:Int)))) (0:Int)∧
 List.getD v3.2.2 (Int.toNat (IntKind.i64.wrap ((v3.2.2.length:Int) - (1:Int)))) (0:Int)<(↑(List.length (List.set v3.2.1 (Int.toNat s1.1) (List.getD v3.2.2 (Int.toNat (IntKind.i64.wrap ((v3.2.2.length:Int) - (1:Int)))) (0:
 Int)))):Int) then some (Sum.inl (IntKind.i64.wrap (s1.1+(1:Int)),List.set (List.set v3.2.1 (Int.toNat s1.1) (List.getD v3.2.2 (Int.toNat (IntKind.i64.wrap ((v3.2.2.length:Int) - (1:Int)))) (0:Int))) (Int.toNat (List.getD v3.2.2
 (Int.toNat (IntKind.i64.wrap ((v3.2.2.length:Int) - (1:Int)))) (0:Int))) s1.1,List.take (Int.toNat (IntKind.i64.wrap ((v3.2.2.length:Int) - (1:Int)))) v3.2.2)) else none else none else none else none else some (Sum.inl
 (IntKind.i64.wrap (s1.1+(1:Int)),v3.2.1,v3.2.2)) else none else none else some (Sum.inr s1.2.1)) ((0:Int),List.replicate (Int.toNat (x.length:Int)) (0:Int), [])) fun(v1:List Int)=>some v1 else none
theorem Lz.f45eq: ∀ x,zl Lz.C Lz.f45Γ Lz.f45sig Lz.f45ann Go.Proofs.Tryz.f45 x=Lz.f45F x:=by
 intro x
 kernel_rfl
noncomputable def Lz.f45con:Con:=⟨45,Lz.f45sig,Lz.f45F⟩
theorem Lz.f45ok:Con.Ok Go.Proofs.Tryz.prog Lz.C Lz.f45con:=
 zb (Γ:=Lz.f45Γ) (an:=Lz.f45ann) ⟨Lz.Cok,(List.forall_mem_cons.2 ⟨Lz.f47ok,(fun _ h=>nomatch h)⟩),Lz.mixed⟩ Go.Proofs.Tryz.func45 rfl rfl (fun x y h=>(Lz.f45eq x).trans h) (by decide)
def Lz.f118sig:Sig:=⟨⟨[.hole (.int .i64)], []⟩,⟨[.hole .str], []⟩⟩
noncomputable def Lz.f118Γ:List Con:= []
def Lz.f118ann:Ann:=(.seq .leaf (.seq (.seq (.join [⟨.normal, [(8, .hole .bool)], []⟩] .leaf) (.cond (.seq .leaf .leaf) .leaf)) (.seq .leaf .leaf)))
noncomputable def Lz.f118F:Int→Option (ByteArray):=fun(x:Int)=>Option.bind (if decide (x<(0:Int))=true then some true else some (decide (x≥(23:Int)))) fun v1=>if v1=true then some { data:= #[]:ByteArray} else if
 (0:Int)≤x∧x<(↑(23:Nat):Int) then some (List.getD Lz.words (Int.toNat x) ByteArray.empty) else none
theorem Lz.f118eq: ∀ x,zl Lz.C Lz.f118Γ Lz.f118sig Lz.f118ann Go.Proofs.Tryz.f118 x=Lz.f118F x:=by
 intro x
 kernel_rfl
noncomputable def Lz.f118con:Con:=⟨118,Lz.f118sig,Lz.f118F⟩
theorem Lz.f118ok:Con.Ok Go.Proofs.Tryz.prog Lz.C Lz.f118con:=
 zb (Γ:=Lz.f118Γ) (an:=Lz.f118ann) ⟨Lz.Cok,(fun _ h=>nomatch h),Lz.mixed⟩ Go.Proofs.Tryz.func118 rfl rfl (fun x y h=>(Lz.f118eq x).trans h) (by decide)
def Lz.f109sig:Sig:=⟨⟨[.hole (.int .i64)], []⟩,⟨[.hole (.int .i64)], []⟩⟩
noncomputable def Lz.f109Γ:List Con:= [Lz.f118con]
def Lz.f109ann:Ann:=(.seq .leaf (.seq (.block (.seq (.join [⟨.normal, [(3, .hole .bool)], []⟩] .leaf) (.cond (.seq .leaf .leaf) (.seq (.join [⟨.normal, [(10, .hole .bool)], []⟩] .leaf) (.cond (.seq .leaf .leaf) .leaf))))) (.seq .leaf
 .leaf)))
noncomputable def Lz.f109F:Int→Option (Int):=fun(x:Int)=>Option.bind (if(x==(1:Int))=true then some true else some (x==(2:Int))) fun v1=>if v1=true then some (1:Int) else Option.bind (if(x==(0:Int))=true
 then some true else Option.bind (Lz.f118F x) fun v2=>some (ByteArray.toList v2==ByteArray.toList { data:= #[]:ByteArray})) fun v2=>if v2=true then some (0:Int) else some (-1:Int)
theorem Lz.f109eq: ∀ x,zl Lz.C Lz.f109Γ Lz.f109sig Lz.f109ann Go.Proofs.Tryz.f109 x=Lz.f109F x:=by
 intro x
 kernel_rfl
noncomputable def Lz.f109con:Con:=⟨109,Lz.f109sig,Lz.f109F⟩
theorem Lz.f109ok:Con.Ok Go.Proofs.Tryz.prog Lz.C Lz.f109con:=
 zb (Γ:=Lz.f109Γ) (an:=Lz.f109ann) ⟨Lz.Cok,(List.forall_mem_cons.2 ⟨Lz.f118ok,(fun _ h=>nomatch h)⟩),Lz.mixed⟩ Go.Proofs.Tryz.func109 rfl rfl (fun x y h=>(Lz.f109eq x).trans h) (by decide)
def Lz.f73sig:Sig:=⟨⟨[.hole (.sl (.int .i64)), .hole (.sl (.int .i64)), .hole (.int .i64), .hole (.int .i64)], []⟩,⟨[.hole (.int .i64)], []⟩⟩
noncomputable def Lz.f73Γ:List Con:= [Lz.f47con,Lz.f109con]
def Lz.f73ann:Ann:=(.seq .leaf (.seq .leaf (.seq (.seq .leaf (.block (.loop ⟨.normal, [(9, .hole (.int .i64))], []⟩ [⟨(.exit 0), [], []⟩,⟨.ret, [(8, .hole (.int .i64))], []⟩] (.seq (.seq (.join [⟨.normal, [(26, .hole .bool)], []⟩]
 .leaf) (.cond .leaf .leaf)) (.seq (.block (.seq (.seq .leaf (.cond (.seq (.seq .leaf (.seq .leaf (.cond (.seq .leaf .leaf) .leaf))) .leaf) .leaf)) (.seq .leaf (.seq .leaf (.cond (.seq .leaf .leaf) .leaf))))) .leaf))))) (.seq .leaf
 .leaf))))
noncomputable def Lz.f73F:List Int×List Int×Int×Int→Option (Int):=fun(x:List Int×List Int×Int×Int)=>Option.bind (iter (fun(s1:Int)=>Option.bind (if decide (s1<zgn x.2.2.2 (x.1.length:Int))=true then if(0
 :Int)≤s1∧s1<(x.1.length:Int) then some (List.getD x.1 (Int.toNat s1) (0:Int)!=(10:Int)) else none else some false) fun v2=>if v2=true then if(0:Int)≤s1∧s1<(x.1.length:Int) then Option.bind (Lz.f47F (List.getD
 x.1 (Int.toNat s1) (0:Int))) fun v3=>if v3=true then if(0:Int)≤s1∧s1<(x.2.1.length:Int) then if(List.getD x.2.1 (Int.toNat s1) (0:Int)==(-1:Int))=true then some (Sum.inr (Sum.inr (-1:Int))) else some (Sum.inl
 (IntKind.i64.wrap (List.getD x.2.1 (Int.toNat s1) (0:Int)+(1:Int)))) else none else if(0:Int)≤s1∧s1<(x.1.length:Int) then Option.bind (Lz.f109F (List.getD x.1 (Int.toNat s1) (0:Int))) fun v4=>if(v4 !=(-1:Int))=
 true then some (Sum.inr (Sum.inr v4)) else some (Sum.inl (IntKind.i64.wrap (s1+(1:Int)))) else none else none else some (Sum.inr (Sum.inl ()))) (zlr (0:Int) x.2.2.1)) fun v1=>Sum.elim (fun(p2:PUnit)=>some (-1:Int)) (fun(q2
 :Int)=>some q2) v1
theorem Lz.f73eq: ∀ x,zl Lz.C Lz.f73Γ Lz.f73sig Lz.f73ann Go.Proofs.Tryz.f73 x=Lz.f73F x:=by
 intro x
 kernel_rfl
noncomputable def Lz.f73con:Con:=⟨73,Lz.f73sig,Lz.f73F⟩
theorem Lz.f73ok:Con.Ok Go.Proofs.Tryz.prog Lz.C Lz.f73con:=
 zb (Γ:=Lz.f73Γ) (an:=Lz.f73ann) ⟨Lz.Cok,(List.forall_mem_cons.2 ⟨Lz.f47ok,(List.forall_mem_cons.2 ⟨Lz.f109ok,(fun _ h=>nomatch h)⟩)⟩),Lz.mixed⟩ Go.Proofs.Tryz.func73 rfl rfl (fun x y h=>(Lz.f73eq x).trans h) (by decide)
def Lz.f42sig:Sig:=⟨⟨[.hole (.sl (.int .i64)), .hole (.int .i64), .hole (.int .i64)], []⟩,⟨[.hole (.int .i64)], []⟩⟩
noncomputable def Lz.f42Γ:List Con:= [Lz.f45con,Lz.f73con]
def Lz.f42ann:Ann:=(.seq .leaf (.seq .leaf .leaf))
noncomputable def Lz.f42F:List Int×Int×Int→Option (Int):=fun(x:List Int×Int×Int)=>Option.bind (Lz.f45F x.1) fun(v1:List Int)=>Option.bind (Lz.f73F (x.1,v1,x.2.1,x.2.2)) fun v2=>some v2
theorem Lz.f42eq: ∀ x,zl Lz.C Lz.f42Γ Lz.f42sig Lz.f42ann Go.Proofs.Tryz.f42 x=Lz.f42F x:=by
 intro x
 kernel_rfl
noncomputable def Lz.f42con:Con:=⟨42,Lz.f42sig,Lz.f42F⟩
theorem Lz.f42ok:Con.Ok Go.Proofs.Tryz.prog Lz.C Lz.f42con:=
 zb (Γ:=Lz.f42Γ) (an:=Lz.f42ann) ⟨Lz.Cok,(List.forall_mem_cons.2 ⟨Lz.f45ok,(List.forall_mem_cons.2 ⟨Lz.f73ok,(fun _ h=>nomatch h)⟩)⟩),Lz.mixed⟩ Go.Proofs.Tryz.func42 rfl rfl (fun x y h=>(Lz.f42eq x).trans h) (by decide)
def Lz.f26sig:Sig:=⟨⟨[.hole (.sl (.int .i64)), .hole (.int .i64)], []⟩,⟨[.hole (.int .i64)], []⟩⟩
noncomputable def Lz.f26Γ:List Con:= [Lz.f42con]
def Lz.f26ann:Ann:=(.seq .leaf (.seq (.seq (.join [⟨.normal, [(10, .hole .bool)], []⟩] .leaf) (.cond (.seq .leaf .leaf) .leaf)) (.seq .leaf .leaf)))
noncomputable def Lz.f26F:List Int×Int→Option (Int):=fun(x:List Int×Int)=>Option.bind (if(x.2==(1:Int))=true then some true else some (x.2==(2:Int))) fun v1=>if v1=true then some (IntKind.i64.wrap (x.2 - (1:
 Int))) else Option.bind (Lz.f42F (x.1,(0:Int),(x.1.length:Int))) fun v2=>some (zlr (0:Int) v2)
theorem Lz.f26eq: ∀ x,zl Lz.C Lz.f26Γ Lz.f26sig Lz.f26ann Go.Proofs.Tryz.f26 x=Lz.f26F x:=by
 intro x
 kernel_rfl
noncomputable def Lz.f26con:Con:=⟨26,Lz.f26sig,Lz.f26F⟩
theorem Lz.f26ok:Con.Ok Go.Proofs.Tryz.prog Lz.C Lz.f26con:=
 zb (Γ:=Lz.f26Γ) (an:=Lz.f26ann) ⟨Lz.Cok,(List.forall_mem_cons.2 ⟨Lz.f42ok,(fun _ h=>nomatch h)⟩),Lz.mixed⟩ Go.Proofs.Tryz.func26 rfl rfl (fun x y h=>(Lz.f26eq x).trans h) (by decide)
def Lz.f74sig:Sig:=⟨⟨[.ptr 0 0], [.cells [.hole (.int .i64), .own 1, .hole (.int .i64), .hole (.int .i64), .hole (.int .i64), .hole (.int .i64), .own 2, .own 3], .arr 117 (.st (.pair (.int .i64) (.pair (.int .i64) .bool))), .arr 3 (.int
 .i64), .arr 3 (.int .i64)]⟩,⟨[], [.cells [.hole (.int .i64), .own 4, .hole (.int .i64), .hole (.int .i64), .hole (.int .i64), .hole (.int .i64), .own 5, .own 6], .gone, .gone, .gone, .arr 117 (.st (.pair (.int .i64) (.pair (.int .i64)
 .bool))), .arr 3 (.int .i64), .arr 3 (.int .i64)]⟩⟩
noncomputable def Lz.f74Γ:List Con:= []
def Lz.f74ann:Ann:=(.seq (.eff 6 [] [0,0,2,6,14,30,0,64,192,448,960,1984,4094,8191,16383,32767]) (.seq .leaf .leaf))
noncomputable def Lz.f74F:Int×Int×Int×Int×Int×List (Int×Int×Bool)×List Int×List Int→Option (Int×Int×Int×Int×Int×List (Int×Int×Bool)×List Int×List Int):=fun(x:Int×Int×Int×Int×Int×List
 (Int×Int×Bool)×List Int×List Int)=>if(0:Int)≤(0:Int)∧(0:Int)≤(x.2.2.2.2.2.1.length:Int) then if zj (Int.toNat (0:Int)+(1:Nat)) (24:Nat) then some (x.1,(0:Int),(0:Int),(0:Int),zlr x.2.2.2.2.1
 (1:Int),List.take (Int.toNat (0:Int)) x.2.2.2.2.2.1++ [(x.1,(-1:Int),false)],x.2.2.2.2.2.2.1,x.2.2.2.2.2.2.2) else none else none
theorem Lz.f74eq: ∀ x,zl Lz.C Lz.f74Γ Lz.f74sig Lz.f74ann Go.Proofs.Tryz.f74 x=Lz.f74F x:=by
 intro x
 kernel_rfl
noncomputable def Lz.f74con:Con:=⟨74,Lz.f74sig,Lz.f74F⟩
theorem Lz.f74ok:Con.Ok Go.Proofs.Tryz.prog Lz.C Lz.f74con:=
 zb (Γ:=Lz.f74Γ) (an:=Lz.f74ann) ⟨Lz.Cok,(fun _ h=>nomatch h),Lz.mixed⟩ Go.Proofs.Tryz.func74 rfl rfl (fun x y h=>(Lz.f74eq x).trans h) (by decide)
def Lz.f111sig:Sig:=⟨⟨[.ro (.st (.pair (.int .i64) (.pair (.sl (.st (.pair (.int .i64) (.pair (.int .i64) .bool)))) (.pair (.int .i64) (.pair (.int .i64) (.pair (.int .i64) (.pair (.int .i64) (.pair (.sl (.int .i64)) (.sl (.int
 .i64))))))))))], []⟩,⟨[.hole (.st (.pair (.int .i64) (.pair (.int .i64) .bool)))], []⟩⟩
noncomputable def Lz.f111Γ:List Con:= []
def Lz.f111ann:Ann:=(.seq .leaf (.seq (.tail 12) .leaf))
noncomputable def Lz.f111F:Int×List (Int×Int×Bool)×Int×Int×Int×Int×List Int×List Int→Option (Int×Int×Bool):=fun(x:Int×List (Int×Int×Bool)×Int×Int×Int×Int×List Int×List Int)=>if(0:Int)≤
 IntKind.i64.wrap ((x.2.1.length:Int) - (1:Int))∧IntKind.i64.wrap ((x.2.1.length:Int) - (1:Int))<(x.2.1.length:Int) then some ((List.getD x.2.1 (Int.toNat (IntKind.i64.wrap ((x.2.1.length:Int) - (1:Int)))) ((0:Int),(0:
 Int),false)).1,(List.getD x.2.1 (Int.toNat (IntKind.i64.wrap ((x.2.1.length:Int) - (1:Int)))) ((0:Int),(0:Int),false)).2.1,(List.getD x.2.1 (Int.toNat (IntKind.i64.wrap ((x.2.1.length:Int) - (1:Int)))) ((0:Int),(0:
 Int),false)).2.2) else none
theorem Lz.f111eq: ∀ x,zl Lz.C Lz.f111Γ Lz.f111sig Lz.f111ann Go.Proofs.Tryz.f111 x=Lz.f111F x:=by
 intro x
 kernel_rfl
noncomputable def Lz.f111con:Con:=⟨111,Lz.f111sig,Lz.f111F⟩
theorem Lz.f111ok:Con.Ok Go.Proofs.Tryz.prog Lz.C Lz.f111con:=
 zb (Γ:=Lz.f111Γ) (an:=Lz.f111ann) ⟨Lz.Cok,(fun _ h=>nomatch h),Lz.mixed⟩ Go.Proofs.Tryz.func111 rfl rfl (fun x y h=>(Lz.f111eq x).trans h) (by decide)
def Lz.f110sig:Sig:=⟨⟨[.ptr 0 0, .hole (.int .i64), .hole (.int .i64)], [.cells [.hole (.int .i64), .own 1, .hole (.int .i64), .hole (.int .i64), .hole (.int .i64), .hole (.int .i64), .own 2, .own 3], .arr 117 (.st (.pair (.int .i64)
 (.pair (.int .i64) .bool))), .arr 3 (.int .i64), .arr 3 (.int .i64)]⟩,⟨[], [.cells [.hole (.int .i64), .own 4, .hole (.int .i64), .hole (.int .i64), .hole (.int .i64), .hole (.int .i64), .own 5, .own 6], .gone, .gone, .gone, .arr 117 (.st
 (.pair (.int .i64) (.pair (.int .i64) .bool))), .arr 3 (.int .i64), .arr 3 (.int .i64)]⟩⟩
noncomputable def Lz.f110Γ:List Con:= []
def Lz.f110ann:Ann:=(.eff 7 [14] [0,0,0,4,12,28,0,64,252,0,512,1536,3584,0,8192,32764,65533,131069,262141,524287,1048575,2097151])
noncomputable def Lz.f110F:Int×Int×Int×Int×Int×Int×Int×List (Int×Int×Bool)×List Int×List Int→Option (Int×Int×Int×Int×Int×List (Int×Int×Bool)×List Int×List Int):=fun(x:Int×Int×Int×Int×
 Int×Int×Int×List (Int×Int×Bool)×List Int×List Int)=>if zj (List.length x.2.2.2.2.2.2.2.2.1+(1:Nat)) (8:Nat) then if zj (List.length x.2.2.2.2.2.2.2.2.2+(1:Nat)) (8:Nat) then some (x.2.2.1,x.2.2.2.1,
 x.2.2.2.2.1,x.2.2.2.2.2.1,x.2.2.2.2.2.2.1,x.2.2.2.2.2.2.2.1,x.2.2.2.2.2.2.2.2.1++ [x.1],x.2.2.2.2.2.2.2.2.2++ [x.2.1]) else none else none
theorem Lz.f110eq: ∀ x,zl Lz.C Lz.f110Γ Lz.f110sig Lz.f110ann Go.Proofs.Tryz.f110 x=Lz.f110F x:=by
 intro x
 kernel_rfl
noncomputable def Lz.f110con:Con:=⟨110,Lz.f110sig,Lz.f110F⟩
theorem Lz.f110ok:Con.Ok Go.Proofs.Tryz.prog Lz.C Lz.f110con:=
 zb (Γ:=Lz.f110Γ) (an:=Lz.f110ann) ⟨Lz.Cok,(fun _ h=>nomatch h),Lz.mixed⟩ Go.Proofs.Tryz.func110 rfl rfl (fun x y h=>(Lz.f110eq x).trans h) (by decide)
def Lz.f142sig:Sig:=⟨⟨[.hole (.int .i64), .hole (.int .i64)], []⟩,⟨[.hole (.int .i64)], []⟩⟩
noncomputable def Lz.f142Γ:List Con:= []
def Lz.f142ann:Ann:=(.seq .leaf (.seq (.seq (.join [⟨.normal, [(10, .hole .bool)], []⟩] .leaf) (.cond (.seq .leaf .leaf) .leaf)) (.seq (.seq .leaf (.cond (.seq .leaf .leaf) .leaf)) (.seq .leaf .leaf))))
noncomputable def Lz.f142F:Int×Int→Option (Int):=fun(x:Int×Int)=>Option.bind (if decide (x.1<(0:Int))=true then some true else some (decide (x.1 > (125:Int)))) fun v1=>if v1=true then some (-1:Int) else if(x.2
 ==(1:Int))=true then some (IntKind.i64.wrap (↑(BitVec.toNat (BitVec.ofInt (IntKind.bits IntKind.i64) (IntKind.i64.wrap (x.1+(1:Int))) ||| BitVec.ofInt (IntKind.bits IntKind.i64) (1:Int))):Int)) else some (IntKind.i64.wrap
 (↑(BitVec.toNat (BitVec.ofInt (IntKind.bits IntKind.i64) (IntKind.i64.wrap (x.1+(2:Int))) &&& ~~~BitVec.ofInt (IntKind.bits IntKind.i64) (1:Int))):Int))
theorem Lz.f142eq: ∀ x,zl Lz.C Lz.f142Γ Lz.f142sig Lz.f142ann Go.Proofs.Tryz.f142 x=Lz.f142F x:=by
 intro x
 kernel_rfl
noncomputable def Lz.f142con:Con:=⟨142,Lz.f142sig,Lz.f142F⟩
theorem Lz.f142ok:Con.Ok Go.Proofs.Tryz.prog Lz.C Lz.f142con:=
 zb (Γ:=Lz.f142Γ) (an:=Lz.f142ann) ⟨Lz.Cok,(fun _ h=>nomatch h),Lz.mixed⟩ Go.Proofs.Tryz.func142 rfl rfl (fun x y h=>(Lz.f142eq x).trans h) (by decide)
def Lz.f141sig:Sig:=⟨⟨[.ptr 0 0, .hole (.st (.pair (.int .i64) (.pair (.int .i64) .bool)))], [.cells [.hole (.int .i64), .own 1, .hole (.int .i64), .hole (.int .i64), .hole (.int .i64), .hole (.int .i64), .own 2, .own 3], .arr 117 (.st
 (.pair (.int .i64) (.pair (.int .i64) .bool))), .arr 3 (.int .i64), .arr 3 (.int .i64)]⟩,⟨[.hole .bool], [.cells [.hole (.int .i64), .own 4, .hole (.int .i64), .hole (.int .i64), .hole (.int .i64), .hole (.int .i64), .own 5, .own 6],
 .gone, .gone, .gone, .arr 117 (.st (.pair (.int .i64) (.pair (.int .i64) .bool))), .arr 3 (.int .i64), .arr 3 (.int .i64)]⟩⟩
noncomputable def Lz.f141Γ:List Con:= []
def Lz.f141ann:Ann:=(.seq .leaf (.seq (.seq (.join [⟨.normal, [(21, .hole .bool)], [.cells [.hole (.int .i64), .own 1, .hole (.int .i64), .hole (.int .i64), .hole (.int .i64), .hole (.int .i64), .own 2, .own 3], .arr 117 (.st (.pair
 (.int .i64) (.pair (.int .i64) .bool))), .arr 3 (.int .i64), .arr 3 (.int .i64), .cells [.hole (.int .i64), .hole (.int .i64), .hole .bool]]⟩] .leaf) (.cond (.seq .leaf .leaf) .leaf)) (.seq (.eff 7 [] [0,0,2,6,14,0,32,126,255,511,
 1023]) (.seq (.tail 13) (.seq .leaf .leaf)))))
noncomputable def Lz.f141F:(Int×Int×Bool)×Int×Int×Int×Int×Int×List (Int×Int×Bool)×List Int×List Int→Option (Bool×Int×Int×Int×Int×Int×List (Int×Int×Bool)×List Int×List Int):=fun(x:(Int×
 Int×Bool)×Int×Int×Int×Int×Int×List (Int×Int×Bool)×List Int×List Int)=>Option.bind (if decide (x.1.1 > (125:Int))=true then some (true,x.2.1,x.2.2.1,x.2.2.2.1,x.2.2.2.2.1,x.2.2.2.2.2.1,x.2.2.2.2.2.2.1,
 x.2.2.2.2.2.2.2.1,x.2.2.2.2.2.2.2.2,x.1.1,x.1.2.1,x.1.2.2) else if decide (x.2.2.1 > (0:Int))=true then some (true,x.2.1,x.2.2.1,x.2.2.2.1,x.2.2.2.2.1,x.2.2.2.2.2.1,x.2.2.2.2.2.2.1,x.2.2.2.2.2.2.2.1,x.2.2.2.2.2.2.2.2,x.1.1,
 x.1.2.1,x.1.2.2) else some (decide (x.2.2.2.1 > (0:Int)),x.2.1,x.2.2.1,x.2.2.2.1,x.2.2.2.2.1,x.2.2.2.2.2.1,x.2.2.2.2.2.2.1,x.2.2.2.2.2.2.2.1,x.2.2.2.2.2.2.2.2,x.1.1,x.1.2.1,x.1.2.2)) fun(v1:Bool×Int×Int×Int×Int×
 Int×List (Int×Int×Bool)×List Int×List Int×Int×Int×Bool)=>if v1.1=true then some (false,v1.2.1,v1.2.2.1,v1.2.2.2.1,v1.2.2.2.2.1,v1.2.2.2.2.2.1,v1.2.2.2.2.2.2.1,v1.2.2.2.2.2.2.2.1,v1.2.2.2.2.2.2.2.2.1) else if
 zj (List.length v1.2.2.2.2.2.2.1+(1:Nat)) (24:Nat) then some (true,v1.2.1,v1.2.2.1,v1.2.2.2.1,v1.2.2.2.2.1,zlr v1.2.2.2.2.2.1 (↑(List.length (v1.2.2.2.2.2.2.1++ [(v1.2.2.2.2.2.2.2.2.2.1,v1.2.2.2.2.2.2.2.2.2.2.1,
 v1.2.2.2.2.2.2.2.2.2.2.2)])):Int),v1.2.2.2.2.2.2.1++ [(v1.2.2.2.2.2.2.2.2.2.1,v1.2.2.2.2.2.2.2.2.2.2.1,v1.2.2.2.2.2.2.2.2.2.2.2)],v1.2.2.2.2.2.2.2.1,v1.2.2.2.2.2.2.2.2.1) else none
theorem Lz.f141eq: ∀ x,zl Lz.C Lz.f141Γ Lz.f141sig Lz.f141ann Go.Proofs.Tryz.f141 x=Lz.f141F x:=by
 intro x
 kernel_rfl
noncomputable def Lz.f141con:Con:=⟨141,Lz.f141sig,Lz.f141F⟩
theorem Lz.f141ok:Con.Ok Go.Proofs.Tryz.prog Lz.C Lz.f141con:=
 zb (Γ:=Lz.f141Γ) (an:=Lz.f141ann) ⟨Lz.Cok,(fun _ h=>nomatch h),Lz.mixed⟩ Go.Proofs.Tryz.func141 rfl rfl (fun x y h=>(Lz.f141eq x).trans h) (by decide)
def Lz.f112sig:Sig:=⟨⟨[.ptr 0 0, .hole (.int .i64), .hole (.int .i64)], [.cells [.hole (.int .i64), .own 1, .hole (.int .i64), .hole (.int .i64), .hole (.int .i64), .hole (.int .i64), .own 2, .own 3], .arr 117 (.st (.pair (.int .i64)
 (.pair (.int .i64) .bool))), .arr 3 (.int .i64), .arr 3 (.int .i64)]⟩,⟨[], [.cells [.hole (.int .i64), .own 4, .hole (.int .i64), .hole (.int .i64), .hole (.int .i64), .hole (.int .i64), .own 5, .own 6], .gone, .gone, .gone, .arr 117 (.st
 (.pair (.int .i64) (.pair (.int .i64) .bool))), .arr 3 (.int .i64), .arr 3 (.int .i64)]⟩⟩
noncomputable def Lz.f112Γ:List Con:= [Lz.f111con,Lz.f142con,Lz.f141con]
def Lz.f112ann:Ann:=(.seq (.join [⟨.normal, [(22, .hole .bool)], [.cells [.hole (.int .i64), .own 4, .hole (.int .i64), .hole (.int .i64), .hole (.int .i64), .hole (.int .i64), .own 5, .own 6], .gone, .gone, .gone, .arr 117 (.st (.pair
 (.int .i64) (.pair (.int .i64) .bool))), .arr 3 (.int .i64), .arr 3 (.int .i64)]⟩] .leaf) (.cond .leaf .leaf))
noncomputable def Lz.f112F:Int×Int×Int×Int×Int×Int×Int×List (Int×Int×Bool)×List Int×List Int→Option (Int×Int×Int×Int×Int×List (Int×Int×Bool)×List Int×List Int):=fun(x:Int×Int×Int×Int×
 Int×Int×Int×List (Int×Int×Bool)×List Int×List Int)=>Option.bind (Option.bind (Lz.f111F (x.2.2.1,x.2.2.2.2.2.2.2.1,x.2.2.2.1,x.2.2.2.2.1,x.2.2.2.2.2.1,x.2.2.2.2.2.2.1,x.2.2.2.2.2.2.2.2.1,x.2.2.2.2.2.2.2.2.2)) fun v1=>
 Option.bind (Lz.f142F (v1.1,x.1)) fun v2=>Option.bind (Lz.f141F ((v2,x.2.1,false),x.2.2.1,x.2.2.2.1,x.2.2.2.2.1,x.2.2.2.2.2.1,x.2.2.2.2.2.2.1,x.2.2.2.2.2.2.2.1,x.2.2.2.2.2.2.2.2.1,x.2.2.2.2.2.2.2.2.2)) fun(v3:Bool×Int×
 Int×Int×Int×Int×List (Int×Int×Bool)×List Int×List Int)=>if(!v3.1)=true then some (v3.2.2.1==(0:Int),v3.2.1,v3.2.2.1,v3.2.2.2.1,v3.2.2.2.2.1,v3.2.2.2.2.2.1,v3.2.2.2.2.2.2.1,v3.2.2.2.2.2.2.2.1,
 v3.2.2.2.2.2.2.2.2) else some (false,v3.2.1,v3.2.2.1,v3.2.2.2.1,v3.2.2.2.2.1,v3.2.2.2.2.2.1,v3.2.2.2.2.2.2.1,v3.2.2.2.2.2.2.2.1,v3.2.2.2.2.2.2.2.2)) fun(v1:Bool×Int×Int×Int×Int×Int×List (Int×Int×Bool)×List Int×
 List Int)=>if v1.1=true then some (v1.2.1,v1.2.2.1,IntKind.i64.wrap (v1.2.2.2.1+(1:Int)),v1.2.2.2.2.1,v1.2.2.2.2.2.1,v1.2.2.2.2.2.2.1,v1.2.2.2.2.2.2.2.1,v1.2.2.2.2.2.2.2.2) else some (v1.2.1,v1.2.2.1,v1.2.2.2.1,
 v1.2.2.2.2.1,v1.2.2.2.2.2.1,v1.2.2.2.2.2.2.1,v1.2.2.2.2.2.2.2.1,v1.2.2.2.2.2.2.2.2)
theorem Lz.f112eq: ∀ x,zl Lz.C Lz.f112Γ Lz.f112sig Lz.f112ann Go.Proofs.Tryz.f112 x=Lz.f112F x:=by
 intro x
 kernel_rfl
noncomputable def Lz.f112con:Con:=⟨112,Lz.f112sig,Lz.f112F⟩
theorem Lz.f112ok:Con.Ok Go.Proofs.Tryz.prog Lz.C Lz.f112con:=
 zb (Γ:=Lz.f112Γ) (an:=Lz.f112ann) ⟨Lz.Cok,(List.forall_mem_cons.2 ⟨Lz.f111ok,(List.forall_mem_cons.2 ⟨Lz.f142ok,(List.forall_mem_cons.2 ⟨Lz.f141ok,(fun _ h=>nomatch h)⟩)⟩)⟩),Lz.mixed⟩ Go.Proofs.Tryz.func112 rfl rfl (fun x y h=>(Lz.f112eq x).trans h) (by decide)
def Lz.f143sig:Sig:=⟨⟨[.ptr 0 0], [.cells [.hole (.int .i64), .own 1, .hole (.int .i64), .hole (.int .i64), .hole (.int .i64), .hole (.int .i64), .own 2, .own 3], .arr 117 (.st (.pair (.int .i64) (.pair (.int .i64) .bool))), .arr 3
 (.int .i64), .arr 3 (.int .i64)]⟩,⟨[.hole (.st (.pair (.int .i64) (.pair (.int .i64) .bool)))], [.cells [.hole (.int .i64), .own 4, .hole (.int .i64), .hole (.int .i64), .hole (.int .i64), .hole (.int .i64), .own 5, .own 6], .gone, .gone,
 .gone, .arr 117 (.st (.pair (.int .i64) (.pair (.int .i64) .bool))), .arr 3 (.int .i64), .arr 3 (.int .i64)]⟩⟩
noncomputable def Lz.f143Γ:List Con:= [Lz.f111con]
def Lz.f143ann:Ann:=(.seq .leaf (.seq .leaf (.seq (.tail 14) (.seq .leaf .leaf))))
noncomputable def Lz.f143F:Int×Int×Int×Int×Int×List (Int×Int×Bool)×List Int×List Int→Option ((Int×Int×Bool)×Int×Int×Int×Int×Int×List (Int×Int×Bool)×List Int×List Int):=fun(x:Int×Int×Int
 ×Int×Int×List (Int×Int×Bool)×List Int×List Int)=>Option.bind (Lz.f111F (x.1,x.2.2.2.2.2.1,x.2.1,x.2.2.1,x.2.2.2.1,x.2.2.2.2.1,x.2.2.2.2.2.2.1,x.2.2.2.2.2.2.2)) fun v1=>if(0:Int)≤IntKind.i64.wrap
 ((x.2.2.2.2.2.1.length:Int) - (1:Int))∧IntKind.i64.wrap ((x.2.2.2.2.2.1.length:Int) - (1:Int))≤(x.2.2.2.2.2.1.length:Int) then some ((v1.1,v1.2.1,v1.2.2),x.1,x.2.1,x.2.2.1,x.2.2.2.1,x.2.2.2.2.1,List.take (Int.toNat
 (IntKind.i64.wrap ((x.2.2.2.2.2.1.length:Int) - (1:Int)))) x.2.2.2.2.2.1,x.2.2.2.2.2.2.1,x.2.2.2.2.2.2.2) else none
theorem Lz.f143eq: ∀ x,zl Lz.C Lz.f143Γ Lz.f143sig Lz.f143ann Go.Proofs.Tryz.f143 x=Lz.f143F x:=by
 intro x
 kernel_rfl
noncomputable def Lz.f143con:Con:=⟨143,Lz.f143sig,Lz.f143F⟩
theorem Lz.f143ok:Con.Ok Go.Proofs.Tryz.prog Lz.C Lz.f143con:=
 zb (Γ:=Lz.f143Γ) (an:=Lz.f143ann) ⟨Lz.Cok,(List.forall_mem_cons.2 ⟨Lz.f111ok,(fun _ h=>nomatch h)⟩),Lz.mixed⟩ Go.Proofs.Tryz.func143 rfl rfl (fun x y h=>(Lz.f143eq x).trans h) (by decide)
def Lz.f113sig:Sig:=⟨⟨[.ptr 0 0], [.cells [.hole (.int .i64), .own 1, .hole (.int .i64), .hole (.int .i64), .hole (.int .i64), .hole (.int .i64), .own 2, .own 3], .arr 117 (.st (.pair (.int .i64) (.pair (.int .i64) .bool))), .arr 3
 (.int .i64), .arr 3 (.int .i64)]⟩,⟨[], [.cells [.hole (.int .i64), .own 4, .hole (.int .i64), .hole (.int .i64), .hole (.int .i64), .hole (.int .i64), .own 5, .own 6], .gone, .gone, .gone, .arr 117 (.st (.pair (.int .i64) (.pair (.int
 .i64) .bool))), .arr 3 (.int .i64), .arr 3 (.int .i64)]⟩⟩
noncomputable def Lz.f113Γ:List Con:= [Lz.f111con,Lz.f143con]
def Lz.f113ann:Ann:=(.block (.seq .leaf (.cond .leaf (.seq .leaf (.cond .leaf (.seq (.join [⟨.normal, [(21, .hole .bool)], [.cells [.hole (.int .i64), .own 1, .hole (.int .i64), .hole (.int .i64), .hole (.int .i64), .hole (.int .i64),
 .own 2, .own 3], .arr 117 (.st (.pair (.int .i64) (.pair (.int .i64) .bool))), .arr 3 (.int .i64), .arr 3 (.int .i64)]⟩] .leaf) (.cond .leaf .leaf)))))))
noncomputable def Lz.f113F:Int×Int×Int×Int×Int×List (Int×Int×Bool)×List Int×List Int→Option (Int×Int×Int×Int×Int×List (Int×Int×Bool)×List Int×List Int):=fun(x:Int×Int×Int×Int×Int×List
 (Int×Int×Bool)×List Int×List Int)=>if decide (x.2.1 > (0:Int))=true then some (x.1,x.2.1,x.2.2.1,x.2.2.2.1,x.2.2.2.2.1,x.2.2.2.2.2.1,x.2.2.2.2.2.2.1,x.2.2.2.2.2.2.2) else if decide (x.2.2.1 > (0:Int))=true then some
 (x.1,x.2.1,IntKind.i64.wrap (x.2.2.1 - (1:Int)),x.2.2.2.1,x.2.2.2.2.1,x.2.2.2.2.2.1,x.2.2.2.2.2.2.1,x.2.2.2.2.2.2.2) else Option.bind (if decide ((x.2.2.2.2.2.1.length:Int) > (1:Int))=true then Option.bind (Lz.f111F (x.1,
 x.2.2.2.2.2.1,x.2.1,x.2.2.1,x.2.2.2.1,x.2.2.2.2.1,x.2.2.2.2.2.2.1,x.2.2.2.2.2.2.2)) fun v1=>some (!v1.2.2,x.1,x.2.1,x.2.2.1,x.2.2.2.1,x.2.2.2.2.1,x.2.2.2.2.2.1,x.2.2.2.2.2.2.1,x.2.2.2.2.2.2.2) else some (false,x.1,x.2.1,
 x.2.2.1,x.2.2.2.1,x.2.2.2.2.1,x.2.2.2.2.2.1,x.2.2.2.2.2.2.1,x.2.2.2.2.2.2.2)) fun(v1:Bool×Int×Int×Int×Int×Int×List (Int×Int×Bool)×List Int×List Int)=>if v1.1=true then Option.bind (Lz.f143F (v1.2.1,v1.2.2.1,
 v1.2.2.2.1,v1.2.2.2.2.1,v1.2.2.2.2.2.1,v1.2.2.2.2.2.2.1,v1.2.2.2.2.2.2.2.1,v1.2.2.2.2.2.2.2.2)) fun(v2:(Int×Int×Bool)×Int×Int×Int×Int×Int×List (Int×Int×Bool)×List Int×List Int)=>some (v2.2.1,v2.2.2.1,
 v2.2.2.2.1,v2.2.2.2.2.1,v2.2.2.2.2.2.1,v2.2.2.2.2.2.2.1,v2.2.2.2.2.2.2.2.1,v2.2.2.2.2.2.2.2.2) else some (v1.2.1,v1.2.2.1,v1.2.2.2.1,v1.2.2.2.2.1,v1.2.2.2.2.2.1,v1.2.2.2.2.2.2.1,v1.2.2.2.2.2.2.2.1,v1.2.2.2.2.2.2.2.2)
theorem Lz.f113eq: ∀ x,zl Lz.C Lz.f113Γ Lz.f113sig Lz.f113ann Go.Proofs.Tryz.f113 x=Lz.f113F x:=by
 intro x
 kernel_rfl
noncomputable def Lz.f113con:Con:=⟨113,Lz.f113sig,Lz.f113F⟩
theorem Lz.f113ok:Con.Ok Go.Proofs.Tryz.prog Lz.C Lz.f113con:=
 zb (Γ:=Lz.f113Γ) (an:=Lz.f113ann) ⟨Lz.Cok,(List.forall_mem_cons.2 ⟨Lz.f111ok,(List.forall_mem_cons.2 ⟨Lz.f143ok,(fun _ h=>nomatch h)⟩)⟩),Lz.mixed⟩ Go.Proofs.Tryz.func113 rfl rfl (fun x y h=>(Lz.f113eq x).trans h) (by decide)
def Lz.f114sig:Sig:=⟨⟨[.ptr 0 0, .hole (.int .i64)], [.cells [.hole (.int .i64), .own 1, .hole (.int .i64), .hole (.int .i64), .hole (.int .i64), .hole (.int .i64), .own 2, .own 3], .arr 117 (.st (.pair (.int .i64) (.pair (.int .i64)
 .bool))), .arr 3 (.int .i64), .arr 3 (.int .i64)]⟩,⟨[], [.cells [.hole (.int .i64), .own 4, .hole (.int .i64), .hole (.int .i64), .hole (.int .i64), .hole (.int .i64), .own 5, .own 6], .gone, .gone, .gone, .arr 117 (.st (.pair (.int .i64)
 (.pair (.int .i64) .bool))), .arr 3 (.int .i64), .arr 3 (.int .i64)]⟩⟩
noncomputable def Lz.f114Γ:List Con:= [Lz.f111con,Lz.f110con]
def Lz.f114ann:Ann:=(.seq .leaf (.seq (.seq .leaf (.cond .leaf .leaf)) .leaf))
noncomputable def Lz.f114F:Int×Int×Int×Int×Int×Int×List (Int×Int×Bool)×List Int×List Int→Option (Int×Int×Int×Int×Int×List (Int×Int×Bool)×List Int×List Int):=fun(x:Int×Int×Int×Int×Int×
 Int×List (Int×Int×Bool)×List Int×List Int)=>Option.bind (Lz.f111F (x.2.1,x.2.2.2.2.2.2.1,x.2.2.1,x.2.2.2.1,x.2.2.2.2.1,x.2.2.2.2.2.1,x.2.2.2.2.2.2.2.1,x.2.2.2.2.2.2.2.2)) fun v1=>if(v1.2.1 !=(-1:Int))=true then
 Option.bind (Lz.f110F (v1.1,v1.2.1,x.2.1,x.2.2.1,x.2.2.2.1,x.2.2.2.2.1,x.2.2.2.2.2.1,x.2.2.2.2.2.2.1,x.2.2.2.2.2.2.2.1,x.2.2.2.2.2.2.2.2)) fun(v2:Int×Int×Int×Int×Int×List (Int×Int×Bool)×List Int×List Int)=>
 some (v2.1,v2.2.1,v2.2.2.1,v2.2.2.2.1,v2.2.2.2.2.1,v2.2.2.2.2.2.1,v2.2.2.2.2.2.2.1,v2.2.2.2.2.2.2.2) else Option.bind (Lz.f110F (v1.1,x.1,x.2.1,x.2.2.1,x.2.2.2.1,x.2.2.2.2.1,x.2.2.2.2.2.1,x.2.2.2.2.2.2.1,x.2.2.2.2.2.2.2.1,
 x.2.2.2.2.2.2.2.2)) fun(v2:Int×Int×Int×Int×Int×List (Int×Int×Bool)×List Int×List Int)=>some (v2.1,v2.2.1,v2.2.2.1,v2.2.2.2.1,v2.2.2.2.2.1,v2.2.2.2.2.2.1,v2.2.2.2.2.2.2.1,v2.2.2.2.2.2.2.2)
theorem Lz.f114eq: ∀ x,zl Lz.C Lz.f114Γ Lz.f114sig Lz.f114ann Go.Proofs.Tryz.f114 x=Lz.f114F x:=by
 intro x
 kernel_rfl
noncomputable def Lz.f114con:Con:=⟨114,Lz.f114sig,Lz.f114F⟩
theorem Lz.f114ok:Con.Ok Go.Proofs.Tryz.prog Lz.C Lz.f114con:=
 zb (Γ:=Lz.f114Γ) (an:=Lz.f114ann) ⟨Lz.Cok,(List.forall_mem_cons.2 ⟨Lz.f111ok,(List.forall_mem_cons.2 ⟨Lz.f110ok,(fun _ h=>nomatch h)⟩)⟩),Lz.mixed⟩ Go.Proofs.Tryz.func114 rfl rfl (fun x y h=>(Lz.f114eq x).trans h) (by decide)
def Lz.f116sig:Sig:=⟨⟨[.hole (.sl (.int .i64)), .hole (.int .i64)], []⟩,⟨[.hole (.int .i64)], []⟩⟩
noncomputable def Lz.f116Γ:List Con:= [Lz.f47con,Lz.f45con,Lz.f73con]
def Lz.f116ann:Ann:=(.seq .leaf (.seq (.seq (.join [⟨.normal, [(22, .hole .bool)], []⟩] .leaf) (.cond (.seq .leaf .leaf) .leaf)) (.seq (.seq .leaf (.cond (.seq .leaf .leaf) .leaf)) (.seq .leaf (.seq .leaf (.seq (.join [⟨.normal, [(6,
 .hole (.int .i64))], []⟩] (.seq .leaf (.cond .leaf .leaf))) (.seq .leaf .leaf)))))))
noncomputable def Lz.f116F:List Int×Int→Option (Int):=fun(x:List Int×Int)=>Option.bind (if decide (x.2<(0:Int))=true then some true else if decide (x.2≥(x.1.length:Int))=true then some true else if(0:Int)≤x.2
 ∧x.2<(x.1.length:Int) then Option.bind (Lz.f47F (List.getD x.1 (Int.toNat x.2) (0:Int))) fun v1=>some !v1 else none) fun v1=>if v1=true then some (-1:Int) else if(0:Int)≤x.2∧x.2<(x.1.length:Int) then if(List.getD
 x.1 (Int.toNat x.2) (0:Int)!=(21:Int))=true then if(0:Int)≤x.2∧x.2<(x.1.length:Int) then some (IntKind.i64.wrap (List.getD x.1 (Int.toNat x.2) (0:Int) - (19:Int))) else none else Option.bind (Lz.f45F x.1) fun(v2:
 List Int)=>if(0:Int)≤x.2∧x.2<(v2.length:Int) then Option.bind (if(List.getD v2 (Int.toNat x.2) (0:Int)==(-1:Int))=true then some (x.1.length:Int) else some (List.getD v2 (Int.toNat x.2) (0:Int))) fun v3=>
 Option.bind (Lz.f73F (x.1,v2,IntKind.i64.wrap (x.2+(1:Int)),v3)) fun v4=>some (zlr (0:Int) v4) else none else none
theorem Lz.f116eq: ∀ x,zl Lz.C Lz.f116Γ Lz.f116sig Lz.f116ann Go.Proofs.Tryz.f116 x=Lz.f116F x:=by
 intro x
 kernel_rfl
noncomputable def Lz.f116con:Con:=⟨116,Lz.f116sig,Lz.f116F⟩
theorem Lz.f116ok:Con.Ok Go.Proofs.Tryz.prog Lz.C Lz.f116con:=
 zb (Γ:=Lz.f116Γ) (an:=Lz.f116ann) ⟨Lz.Cok,(List.forall_mem_cons.2 ⟨Lz.f47ok,(List.forall_mem_cons.2 ⟨Lz.f45ok,(List.forall_mem_cons.2 ⟨Lz.f73ok,(fun _ h=>nomatch h)⟩)⟩)⟩),Lz.mixed⟩ Go.Proofs.Tryz.func116 rfl rfl (fun x y h=>(Lz.f116eq x).trans h) (by decide)
def Lz.f115sig:Sig:=⟨⟨[.ptr 0 0, .hole (.int .i64)], [.cells [.hole (.int .i64), .own 1, .hole (.int .i64), .hole (.int .i64), .hole (.int .i64), .hole (.int .i64), .own 2, .own 3], .arr 117 (.st (.pair (.int .i64) (.pair (.int .i64)
 .bool))), .arr 3 (.int .i64), .arr 3 (.int .i64)]⟩,⟨[], [.cells [.hole (.int .i64), .own 4, .hole (.int .i64), .hole (.int .i64), .hole (.int .i64), .hole (.int .i64), .own 5, .own 6], .gone, .gone, .gone, .arr 117 (.st (.pair (.int .i64)
 (.pair (.int .i64) .bool))), .arr 3 (.int .i64), .arr 3 (.int .i64)]⟩⟩
noncomputable def Lz.f115Γ:List Con:= [Lz.f111con,Lz.f142con,Lz.f141con]
def Lz.f115ann:Ann:=(.seq .leaf (.cond .leaf .leaf))
noncomputable def Lz.f115F:Int×Int×Int×Int×Int×Int×List (Int×Int×Bool)×List Int×List Int→Option (Int×Int×Int×Int×Int×List (Int×Int×Bool)×List Int×List Int):=fun(x:Int×Int×Int×Int×Int×
 Int×List (Int×Int×Bool)×List Int×List Int)=>Option.bind (Lz.f111F (x.2.1,x.2.2.2.2.2.2.1,x.2.2.1,x.2.2.2.1,x.2.2.2.2.1,x.2.2.2.2.2.1,x.2.2.2.2.2.2.2.1,x.2.2.2.2.2.2.2.2)) fun v1=>Option.bind (Lz.f142F (v1.1,x.1)) fun
 v2=>Option.bind (Lz.f141F ((v2,(-1:Int),true),x.2.1,x.2.2.1,x.2.2.2.1,x.2.2.2.2.1,x.2.2.2.2.2.1,x.2.2.2.2.2.2.1,x.2.2.2.2.2.2.2.1,x.2.2.2.2.2.2.2.2)) fun(v3:Bool×Int×Int×Int×Int×Int×List (Int×Int×Bool)×
 List Int×List Int)=>if v3.1=true then some (v3.2.1,v3.2.2.1,v3.2.2.2.1,IntKind.i64.wrap (v3.2.2.2.2.1+(1:Int)),v3.2.2.2.2.2.1,v3.2.2.2.2.2.2.1,v3.2.2.2.2.2.2.2.1,v3.2.2.2.2.2.2.2.2) else some (v3.2.1,IntKind.i64.wrap
 (v3.2.2.1+(1:Int)),v3.2.2.2.1,v3.2.2.2.2.1,v3.2.2.2.2.2.1,v3.2.2.2.2.2.2.1,v3.2.2.2.2.2.2.2.1,v3.2.2.2.2.2.2.2.2)
theorem Lz.f115eq: ∀ x,zl Lz.C Lz.f115Γ Lz.f115sig Lz.f115ann Go.Proofs.Tryz.f115 x=Lz.f115F x:=by
 intro x
 kernel_rfl
noncomputable def Lz.f115con:Con:=⟨115,Lz.f115sig,Lz.f115F⟩
theorem Lz.f115ok:Con.Ok Go.Proofs.Tryz.prog Lz.C Lz.f115con:=
 zb (Γ:=Lz.f115Γ) (an:=Lz.f115ann) ⟨Lz.Cok,(List.forall_mem_cons.2 ⟨Lz.f111ok,(List.forall_mem_cons.2 ⟨Lz.f142ok,(List.forall_mem_cons.2 ⟨Lz.f141ok,(fun _ h=>nomatch h)⟩)⟩)⟩),Lz.mixed⟩ Go.Proofs.Tryz.func115 rfl rfl (fun x y h=>(Lz.f115eq x).trans h) (by decide)
def Lz.f117sig:Sig:=⟨⟨[.ptr 0 0], [.cells [.hole (.int .i64), .own 1, .hole (.int .i64), .hole (.int .i64), .hole (.int .i64), .hole (.int .i64), .own 2, .own 3], .arr 117 (.st (.pair (.int .i64) (.pair (.int .i64) .bool))), .arr 3
 (.int .i64), .arr 3 (.int .i64)]⟩,⟨[], [.cells [.hole (.int .i64), .own 4, .hole (.int .i64), .hole (.int .i64), .hole (.int .i64), .hole (.int .i64), .own 5, .own 6], .gone, .gone, .gone, .arr 117 (.st (.pair (.int .i64) (.pair (.int
 .i64) .bool))), .arr 3 (.int .i64), .arr 3 (.int .i64)]⟩⟩
noncomputable def Lz.f117Γ:List Con:= [Lz.f143con]
def Lz.f117ann:Ann:=(.block (.seq .leaf (.cond .leaf (.seq .leaf (.cond (.seq .leaf (.seq .leaf (.block (.loop ⟨.normal, [], [.cells [.hole (.int .i64), .own 4, .hole (.int .i64), .hole (.int .i64), .hole (.int .i64), .hole (.int .i64),
 .own 5, .own 6], .gone, .gone, .gone, .arr 117 (.st (.pair (.int .i64) (.pair (.int .i64) .bool))), .arr 3 (.int .i64), .arr 3 (.int .i64)]⟩ [⟨(.exit 1), [], [.cells [.hole (.int .i64), .own 4, .hole (.int .i64), .hole (.int .i64), .hole
 (.int .i64), .hole (.int .i64), .own 5, .own 6], .gone, .gone, .gone, .arr 117 (.st (.pair (.int .i64) (.pair (.int .i64) .bool))), .arr 3 (.int .i64), .arr 3 (.int .i64)]⟩] (.seq (.seq .leaf (.cond .leaf .leaf)) (.block .leaf))))))
 .leaf)))))
noncomputable def Lz.f117F:Int×Int×Int×Int×Int×List (Int×Int×Bool)×List Int×List Int→Option (Int×Int×Int×Int×Int×List (Int×Int×Bool)×List Int×List Int):=fun(x:Int×Int×Int×Int×Int×List
 (Int×Int×Bool)×List Int×List Int)=>if decide (x.2.1 > (0:Int))=true then some (x.1,IntKind.i64.wrap (x.2.1 - (1:Int)),x.2.2.1,x.2.2.2.1,x.2.2.2.2.1,x.2.2.2.2.2.1,x.2.2.2.2.2.2.1,x.2.2.2.2.2.2.2) else if decide
 (x.2.2.2.1 > (0:Int))=true then Option.bind (iter (fun(s1:Int×Int×Int×Int×Int×List (Int×Int×Bool)×List Int×List Int)=>Option.bind (Lz.f143F (s1.1,s1.2.1,s1.2.2.1,s1.2.2.2.1,s1.2.2.2.2.1,s1.2.2.2.2.2.1,
 s1.2.2.2.2.2.2.1,s1.2.2.2.2.2.2.2)) fun(v2:(Int×Int×Bool)×Int×Int×Int×Int×Int×List (Int×Int×Bool)×List Int×List Int)=>if(!v2.1.2.2)=true then some (Sum.inl (v2.2.1,v2.2.2.1,v2.2.2.2.1,v2.2.2.2.2.1,
 v2.2.2.2.2.2.1,v2.2.2.2.2.2.2.1,v2.2.2.2.2.2.2.2.1,v2.2.2.2.2.2.2.2.2)) else some (Sum.inr (v2.2.1,v2.2.2.1,v2.2.2.2.1,v2.2.2.2.2.1,v2.2.2.2.2.2.1,v2.2.2.2.2.2.2.1,v2.2.2.2.2.2.2.2.1,v2.2.2.2.2.2.2.2.2))) (x.1,x.2.1,(0:Int),
 IntKind.i64.wrap (x.2.2.2.1 - (1:Int)),x.2.2.2.2.1,x.2.2.2.2.2.1,x.2.2.2.2.2.2.1,x.2.2.2.2.2.2.2)) fun(v1:Int×Int×Int×Int×Int×List (Int×Int×Bool)×List Int×List Int)=>some (v1.1,v1.2.1,v1.2.2.1,v1.2.2.2.1,
 v1.2.2.2.2.1,v1.2.2.2.2.2.1,v1.2.2.2.2.2.2.1,v1.2.2.2.2.2.2.2) else some (x.1,x.2.1,x.2.2.1,x.2.2.2.1,x.2.2.2.2.1,x.2.2.2.2.2.1,x.2.2.2.2.2.2.1,x.2.2.2.2.2.2.2)
theorem Lz.f117eq: ∀ x,zl Lz.C Lz.f117Γ Lz.f117sig Lz.f117ann Go.Proofs.Tryz.f117 x=Lz.f117F x:=by
 intro x
 kernel_rfl
noncomputable def Lz.f117con:Con:=⟨117,Lz.f117sig,Lz.f117F⟩
theorem Lz.f117ok:Con.Ok Go.Proofs.Tryz.prog Lz.C Lz.f117con:=
 zb (Γ:=Lz.f117Γ) (an:=Lz.f117ann) ⟨Lz.Cok,(List.forall_mem_cons.2 ⟨Lz.f143ok,(fun _ h=>nomatch h)⟩),Lz.mixed⟩ Go.Proofs.Tryz.func117 rfl rfl (fun x y h=>(Lz.f117eq x).trans h) (by decide)
def Lz.f75sig:Sig:=⟨⟨[.ptr 0 0, .hole (.sl (.int .i64)), .hole (.int .i64)], [.cells [.hole (.int .i64), .own 1, .hole (.int .i64), .hole (.int .i64), .hole (.int .i64), .hole (.int .i64), .own 2, .own 3], .arr 117 (.st (.pair (.int
 .i64) (.pair (.int .i64) .bool))), .arr 3 (.int .i64), .arr 3 (.int .i64)]⟩,⟨[], [.cells [.hole (.int .i64), .own 4, .hole (.int .i64), .hole (.int .i64), .hole (.int .i64), .hole (.int .i64), .own 5, .own 6], .gone, .gone, .gone, .arr 117
 (.st (.pair (.int .i64) (.pair (.int .i64) .bool))), .arr 3 (.int .i64), .arr 3 (.int .i64)]⟩⟩
noncomputable def Lz.f75Γ:List Con:= [Lz.f111con,Lz.f110con,Lz.f112con,Lz.f113con,Lz.f114con,Lz.f116con,Lz.f115con,Lz.f117con,Lz.f74con,Lz.f118con]
def Lz.f75ann:Ann:=(.seq .leaf (.seq (.join [⟨.normal, [], [.cells [.hole (.int .i64), .own 4, .hole (.int .i64), .hole (.int .i64), .hole (.int .i64), .hole (.int .i64), .own 5, .own 6], .gone, .gone, .gone, .arr 117 (.st (.pair (.int
 .i64) (.pair (.int .i64) .bool))), .arr 3 (.int .i64), .arr 3 (.int .i64)]⟩] (.seq .leaf (.block (.seq (.join [⟨.normal, [(12, .hole .bool)], [.cells [.hole (.int .i64), .own 1, .hole (.int .i64), .hole (.int .i64), .hole (.int .i64), .hole
 (.int .i64), .own 2, .own 3], .arr 117 (.st (.pair (.int .i64) (.pair (.int .i64) .bool))), .arr 3 (.int .i64), .arr 3 (.int .i64)]⟩] (.seq .leaf (.cond .leaf (.seq .leaf (.cond .leaf (.seq .leaf (.cond .leaf (.seq .leaf (.cond .leaf (.seq
 .leaf (.cond .leaf .leaf))))))))))) (.cond .leaf .leaf))))) (.seq .leaf (.block (.seq .leaf (.cond .leaf (.seq .leaf (.cond .leaf (.seq .leaf (.cond .leaf (.seq .leaf (.cond .leaf (.seq .leaf (.cond .leaf (.seq .leaf (.cond .leaf (.seq
 (.join [⟨.normal, [(54, .hole .bool)], [.cells [.hole (.int .i64), .own 4, .hole (.int .i64), .hole (.int .i64), .hole (.int .i64), .hole (.int .i64), .own 5, .own 6], .gone, .gone, .gone, .arr 117 (.st (.pair (.int .i64) (.pair (.int .i64)
 .bool))), .arr 3 (.int .i64), .arr 3 (.int .i64)]⟩] (.seq .leaf (.cond .leaf (.seq .leaf (.cond .leaf .leaf))))) (.cond (.seq .leaf .leaf) (.seq .leaf (.cond (.seq .leaf .leaf) (.seq .leaf (.cond (.seq .leaf .leaf) (.seq (.seq .leaf (.cond
 .leaf .leaf)) .leaf)))))))))))))))))))))))
noncomputable def Lz.f75F:List Int×Int×Int×Int×Int×Int×Int×List (Int×Int×Bool)×List Int×List Int→Option (Int×Int×Int×Int×Int×List (Int×Int×Bool)×List Int×List Int):=fun(x:List Int×Int×Int
 ×Int×Int×Int×Int×List (Int×Int×Bool)×List Int×List Int)=>if(0:Int)≤x.2.1∧x.2.1<(x.1.length:Int) then Option.bind (Option.bind (if(List.getD x.1 (Int.toNat x.2.1) (0:Int)==(14:Int))=true then some
 (true,x.2.2.1,x.2.2.2.1,x.2.2.2.2.1,x.2.2.2.2.2.1,x.2.2.2.2.2.2.1,x.2.2.2.2.2.2.2.1,x.2.2.2.2.2.2.2.2.1,x.2.2.2.2.2.2.2.2.2) else if(List.getD x.1 (Int.toNat x.2.1) (0:Int)==(16:Int))=true then some (true,x.2.2.1,
 x.2.2.2.1,x.2.2.2.2.1,x.2.2.2.2.2.1,x.2.2.2.2.2.2.1,x.2.2.2.2.2.2.2.1,x.2.2.2.2.2.2.2.2.1,x.2.2.2.2.2.2.2.2.2) else if(List.getD x.1 (Int.toNat x.2.1) (0:Int)==(15:Int))=true then some (true,x.2.2.1,x.2.2.2.1,x.2.2.2.2.1,
 x.2.2.2.2.2.1,x.2.2.2.2.2.2.1,x.2.2.2.2.2.2.2.1,x.2.2.2.2.2.2.2.2.1,x.2.2.2.2.2.2.2.2.2) else if(List.getD x.1 (Int.toNat x.2.1) (0:Int)==(17:Int))=true then some (true,x.2.2.1,x.2.2.2.1,x.2.2.2.2.1,x.2.2.2.2.2.1,
 x.2.2.2.2.2.2.1,x.2.2.2.2.2.2.2.1,x.2.2.2.2.2.2.2.2.1,x.2.2.2.2.2.2.2.2.2) else if(List.getD x.1 (Int.toNat x.2.1) (0:Int)==(18:Int))=true then some (true,x.2.2.1,x.2.2.2.1,x.2.2.2.2.1,x.2.2.2.2.2.1,x.2.2.2.2.2.2.1,
 x.2.2.2.2.2.2.2.1,x.2.2.2.2.2.2.2.2.1,x.2.2.2.2.2.2.2.2.2) else some (List.getD x.1 (Int.toNat x.2.1) (0:Int)==(9:Int),x.2.2.1,x.2.2.2.1,x.2.2.2.2.1,x.2.2.2.2.2.1,x.2.2.2.2.2.2.1,x.2.2.2.2.2.2.2.1,x.2.2.2.2.2.2.2.2.1,
 x.2.2.2.2.2.2.2.2.2)) fun(v1:Bool×Int×Int×Int×Int×Int×List (Int×Int×Bool)×List Int×List Int)=>if v1.1=true then Option.bind (Lz.f111F (v1.2.1,v1.2.2.2.2.2.2.1,v1.2.2.1,v1.2.2.2.1,v1.2.2.2.2.1,v1.2.2.2.2.2.1,
 v1.2.2.2.2.2.2.2.1,v1.2.2.2.2.2.2.2.2)) fun v2=>Option.bind (Lz.f110F (v2.1,List.getD x.1 (Int.toNat x.2.1) (0:Int),v1.2.1,v1.2.2.1,v1.2.2.2.1,v1.2.2.2.2.1,v1.2.2.2.2.2.1,v1.2.2.2.2.2.2.1,v1.2.2.2.2.2.2.2.1,
 v1.2.2.2.2.2.2.2.2)) fun(v3:Int×Int×Int×Int×Int×List (Int×Int×Bool)×List Int×List Int)=>some (v3.1,v3.2.1,v3.2.2.1,v3.2.2.2.1,v3.2.2.2.2.1,v3.2.2.2.2.2.1,v3.2.2.2.2.2.2.1,v3.2.2.2.2.2.2.2) else some (v1.2.1,
 v1.2.2.1,v1.2.2.2.1,v1.2.2.2.2.1,v1.2.2.2.2.2.1,v1.2.2.2.2.2.2.1,v1.2.2.2.2.2.2.2.1,v1.2.2.2.2.2.2.2.2)) fun(v1:Int×Int×Int×Int×Int×List (Int×Int×Bool)×List Int×List Int)=>if(List.getD x.1 (Int.toNat x.2.1) (0
 :Int)==(14:Int))=true then Option.bind (Lz.f112F ((0:Int),(-1:Int),v1.1,v1.2.1,v1.2.2.1,v1.2.2.2.1,v1.2.2.2.2.1,v1.2.2.2.2.2.1,v1.2.2.2.2.2.2.1,v1.2.2.2.2.2.2.2)) fun(v2:Int×Int×Int×Int×Int×List (Int×Int×
 Bool)×List Int×List Int)=>some (v2.1,v2.2.1,v2.2.2.1,v2.2.2.2.1,v2.2.2.2.2.1,v2.2.2.2.2.2.1,v2.2.2.2.2.2.2.1,v2.2.2.2.2.2.2.2) else if(List.getD x.1 (Int.toNat x.2.1) (0:Int)==(16:Int))=true then Option.bind (Lz.f112F
 ((1:Int),(-1:Int),v1.1,v1.2.1,v1.2.2.1,v1.2.2.2.1,v1.2.2.2.2.1,v1.2.2.2.2.2.1,v1.2.2.2.2.2.2.1,v1.2.2.2.2.2.2.2)) fun(v2:Int×Int×Int×Int×Int×List (Int×Int×Bool)×List Int×List Int)=>some (v2.1,v2.2.1,
 v2.2.2.1,v2.2.2.2.1,v2.2.2.2.2.1,v2.2.2.2.2.2.1,v2.2.2.2.2.2.2.1,v2.2.2.2.2.2.2.2) else if(List.getD x.1 (Int.toNat x.2.1) (0:Int)==(15:Int))=true then Option.bind (Lz.f112F ((0:Int),(0:Int),v1.1,v1.2.1,v1.2.2.1,
 v1.2.2.2.1,v1.2.2.2.2.1,v1.2.2.2.2.2.1,v1.2.2.2.2.2.2.1,v1.2.2.2.2.2.2.2)) fun(v2:Int×Int×Int×Int×Int×List (Int×Int×Bool)×List Int×List Int)=>some (v2.1,v2.2.1,v2.2.2.1,v2.2.2.2.1,v2.2.2.2.2.1,v2.2.2.2.2.2.1,
 v2.2.2.2.2.2.2.1,v2.2.2.2.2.2.2.2) else if(List.getD x.1 (Int.toNat x.2.1) (0:Int)==(17:Int))=true then Option.bind (Lz.f112F ((1:Int),(1:Int),v1.1,v1.2.1,v1.2.2.1,v1.2.2.2.1,v1.2.2.2.2.1,v1.2.2.2.2.2.1,
 v1.2.2.2.2.2.2.1,v1.2.2.2.2.2.2.2)) fun(v2:Int×Int×Int×Int×Int×List (Int×Int×Bool)×List Int×List Int)=>some (v2.1,v2.2.1,v2.2.2.1,v2.2.2.2.1,v2.2.2.2.2.1,v2.2.2.2.2.2.1,v2.2.2.2.2.2.2.1,v2.2.2.2.2.2.2.2) else
 if(List.getD x.1 (Int.toNat x.2.1) (0:Int)==(18:Int))=true then Option.bind (Lz.f113F (v1.1,v1.2.1,v1.2.2.1,v1.2.2.2.1,v1.2.2.2.2.1,v1.2.2.2.2.2.1,v1.2.2.2.2.2.2.1,v1.2.2.2.2.2.2.2)) fun(v2:Int×Int×Int×Int×Int×
 List (Int×Int×Bool)×List Int×List Int)=>some (v2.1,v2.2.1,v2.2.2.1,v2.2.2.2.1,v2.2.2.2.2.1,v2.2.2.2.2.2.1,v2.2.2.2.2.2.2.1,v2.2.2.2.2.2.2.2) else if(List.getD x.1 (Int.toNat x.2.1) (0:Int)==(9:Int))=true then some
 (v1.1,v1.2.1,v1.2.2.1,v1.2.2.2.1,v1.2.2.2.2.1,v1.2.2.2.2.2.1,v1.2.2.2.2.2.2.1,v1.2.2.2.2.2.2.2) else Option.bind (if(List.getD x.1 (Int.toNat x.2.1) (0:Int)==(19:Int))=true then some (true,v1.1,v1.2.1,v1.2.2.1,
 v1.2.2.2.1,v1.2.2.2.2.1,v1.2.2.2.2.2.1,v1.2.2.2.2.2.2.1,v1.2.2.2.2.2.2.2) else if(List.getD x.1 (Int.toNat x.2.1) (0:Int)==(20:Int))=true then some (true,v1.1,v1.2.1,v1.2.2.1,v1.2.2.2.1,v1.2.2.2.2.1,v1.2.2.2.2.2.1,
 v1.2.2.2.2.2.2.1,v1.2.2.2.2.2.2.2) else some (List.getD x.1 (Int.toNat x.2.1) (0:Int)==(21:Int),v1.1,v1.2.1,v1.2.2.1,v1.2.2.2.1,v1.2.2.2.2.1,v1.2.2.2.2.2.1,v1.2.2.2.2.2.2.1,v1.2.2.2.2.2.2.2)) fun(v2:Bool×Int×Int×Int
 ×Int×Int×List (Int×Int×Bool)×List Int×List Int)=>if v2.1=true then Option.bind (Lz.f114F (List.getD x.1 (Int.toNat x.2.1) (0:Int),v2.2.1,v2.2.2.1,v2.2.2.2.1,v2.2.2.2.2.1,v2.2.2.2.2.2.1,v2.2.2.2.2.2.2.1,
 v2.2.2.2.2.2.2.2.1,v2.2.2.2.2.2.2.2.2)) fun(v3:Int×Int×Int×Int×Int×List (Int×Int×Bool)×List Int×List Int)=>Option.bind (Lz.f116F (x.1,x.2.1)) fun v4=>Option.bind (Lz.f115F (v4,v3.1,v3.2.1,v3.2.2.1,v3.2.2.2.1,
 v3.2.2.2.2.1,v3.2.2.2.2.2.1,v3.2.2.2.2.2.2.1,v3.2.2.2.2.2.2.2)) fun(v5:Int×Int×Int×Int×Int×List (Int×Int×Bool)×List Int×List Int)=>some (v5.1,v5.2.1,v5.2.2.1,v5.2.2.2.1,v5.2.2.2.2.1,v5.2.2.2.2.2.1,
 v5.2.2.2.2.2.2.1,v5.2.2.2.2.2.2.2) else if(List.getD x.1 (Int.toNat x.2.1) (0:Int)==(22:Int))=true then Option.bind (Lz.f117F (v2.2.1,v2.2.2.1,v2.2.2.2.1,v2.2.2.2.2.1,v2.2.2.2.2.2.1,v2.2.2.2.2.2.2.1,v2.2.2.2.2.2.2.2.1,
 v2.2.2.2.2.2.2.2.2)) fun(v3:Int×Int×Int×Int×Int×List (Int×Int×Bool)×List Int×List Int)=>Option.bind (Lz.f114F (List.getD x.1 (Int.toNat x.2.1) (0:Int),v3.1,v3.2.1,v3.2.2.1,v3.2.2.2.1,v3.2.2.2.2.1,
 v3.2.2.2.2.2.1,v3.2.2.2.2.2.2.1,v3.2.2.2.2.2.2.2)) fun(v4:Int×Int×Int×Int×Int×List (Int×Int×Bool)×List Int×List Int)=>some (v4.1,v4.2.1,v4.2.2.1,v4.2.2.2.1,v4.2.2.2.2.1,v4.2.2.2.2.2.1,v4.2.2.2.2.2.2.1,
 v4.2.2.2.2.2.2.2) else if(List.getD x.1 (Int.toNat x.2.1) (0:Int)==(10:Int))=true then Option.bind (Lz.f74F (v2.2.1,v2.2.2.1,v2.2.2.2.1,v2.2.2.2.2.1,v2.2.2.2.2.2.1,v2.2.2.2.2.2.2.1,v2.2.2.2.2.2.2.2.1,v2.2.2.2.2.2.2.2.2)) fun
 (v3:Int×Int×Int×Int×Int×List (Int×Int×Bool)×List Int×List Int)=>Option.bind (Lz.f110F (v3.1,List.getD x.1 (Int.toNat x.2.1) (0:Int),v3.1,v3.2.1,v3.2.2.1,v3.2.2.2.1,v3.2.2.2.2.1,v3.2.2.2.2.2.1,
 v3.2.2.2.2.2.2.1,v3.2.2.2.2.2.2.2)) fun(v4:Int×Int×Int×Int×Int×List (Int×Int×Bool)×List Int×List Int)=>some (v4.1,v4.2.1,v4.2.2.1,v4.2.2.2.1,v4.2.2.2.2.1,v4.2.2.2.2.2.1,v4.2.2.2.2.2.2.1,v4.2.2.2.2.2.2.2) else
 Option.bind (Lz.f118F (List.getD x.1 (Int.toNat x.2.1) (0:Int))) fun v3=>if(ByteArray.toList v3==ByteArray.toList { data:= #[]:ByteArray})=true then Option.bind (Lz.f114F ((0:Int),v2.2.1,v2.2.2.1,v2.2.2.2.1,v2.2.2.2.2.1,
 v2.2.2.2.2.2.1,v2.2.2.2.2.2.2.1,v2.2.2.2.2.2.2.2.1,v2.2.2.2.2.2.2.2.2)) fun(v4:Int×Int×Int×Int×Int×List (Int×Int×Bool)×List Int×List Int)=>some (v4.1,v4.2.1,v4.2.2.1,v4.2.2.2.1,v4.2.2.2.2.1,v4.2.2.2.2.2.1,
 v4.2.2.2.2.2.2.1,v4.2.2.2.2.2.2.2) else Option.bind (Lz.f114F (List.getD x.1 (Int.toNat x.2.1) (0:Int),v2.2.1,v2.2.2.1,v2.2.2.2.1,v2.2.2.2.2.1,v2.2.2.2.2.2.1,v2.2.2.2.2.2.2.1,v2.2.2.2.2.2.2.2.1,v2.2.2.2.2.2.2.2.2)) fun(v4:Int
 ×Int×Int×Int×Int×List (Int×Int×Bool)×List Int×List Int)=>some (v4.1,v4.2.1,v4.2.2.1,v4.2.2.2.1,v4.2.2.2.2.1,v4.2.2.2.2.2.1,v4.2.2.2.2.2.2.1,v4.2.2.2.2.2.2.2) else none
theorem Lz.f75eq: ∀ x,zl Lz.C Lz.f75Γ Lz.f75sig Lz.f75ann Go.Proofs.Tryz.f75 x=Lz.f75F x:=by
 intro x
 kernel_rfl
noncomputable def Lz.f75con:Con:=⟨75,Lz.f75sig,Lz.f75F⟩
theorem Lz.f75ok:Con.Ok Go.Proofs.Tryz.prog Lz.C Lz.f75con:=
 zb (Γ:=Lz.f75Γ) (an:=Lz.f75ann) ⟨Lz.Cok,(List.forall_mem_cons.2 ⟨Lz.f111ok,(List.forall_mem_cons.2 ⟨Lz.f110ok,(List.forall_mem_cons.2 ⟨Lz.f112ok,(List.forall_mem_cons.2 ⟨Lz.f113ok,(List.forall_mem_cons.2 ⟨Lz.f114ok,(List.forall_mem_cons.2 ⟨Lz.f116ok,(List.forall_mem_cons.2 ⟨Lz.f115ok,(List.forall_mem_cons.2 ⟨Lz.f117ok,(List.forall_mem_cons.2 ⟨Lz.f74ok,(List.forall_mem_cons.2 ⟨Lz.f118ok,(fun _ h=>nomatch h)⟩)⟩)⟩)⟩)⟩)⟩)⟩)⟩)⟩)⟩),Lz.mixed⟩ Go.Proofs.Tryz.func75 rfl rfl (fun x y h=>(Lz.f75eq x).trans h) (by decide)
def Lz.f43sig:Sig:=⟨⟨[.hole (.sl (.int .i64)), .hole (.int .i64)], []⟩,⟨[.ptr 0 0], [.cells [.hole (.int .i64), .own 1, .hole (.int .i64), .hole (.int .i64), .hole (.int .i64), .hole (.int .i64), .own 2, .own 3], .arr 117 (.st (.pair
 (.int .i64) (.pair (.int .i64) .bool))), .arr 3 (.int .i64), .arr 3 (.int .i64)]⟩⟩
noncomputable def Lz.f43Γ:List Con:= [Lz.f74con,Lz.f75con]
def Lz.f43ann:Ann:=(.seq .leaf (.seq .leaf (.seq (.join [⟨.normal, [], [.cells [.hole (.int .i64), .own 1, .hole (.int .i64), .hole (.int .i64), .hole (.int .i64), .hole (.int .i64), .own 2, .own 3], .arr 117 (.st (.pair (.int .i64)
 (.pair (.int .i64) .bool))), .arr 3 (.int .i64), .arr 3 (.int .i64)]⟩] (.seq .leaf (.cond .leaf .leaf))) (.seq .leaf (.seq (.seq .leaf (.block (.loop ⟨.normal, [(18, .hole (.int .i64))], [.cells [.hole (.int .i64), .own 7, .hole (.int
 .i64), .hole (.int .i64), .hole (.int .i64), .hole (.int .i64), .own 8, .own 9], .gone, .gone, .gone, .gone, .gone, .gone, .arr 117 (.st (.pair (.int .i64) (.pair (.int .i64) .bool))), .arr 3 (.int .i64), .arr 3 (.int .i64)]⟩ [⟨(.exit 0),
 [], [.cells [.hole (.int .i64), .own 7, .hole (.int .i64), .hole (.int .i64), .hole (.int .i64), .hole (.int .i64), .own 8, .own 9], .gone, .gone, .gone, .gone, .gone, .gone, .arr 117 (.st (.pair (.int .i64) (.pair (.int .i64) .bool))),
 .arr 3 (.int .i64), .arr 3 (.int .i64)]⟩] (.seq .leaf (.seq (.cond .leaf .leaf) (.seq (.block (.seq .leaf .leaf)) .leaf)))))) (.seq .leaf .leaf))))))
noncomputable def Lz.f43F:List Int×Int→Option (Int×Int×Int×Int×Int×List (Int×Int×Bool)×List Int×List Int):=fun(x:List Int×Int)=>Option.bind (if(x.2 !=(0:Int))=true then some ((1:Int),(0:Int),(0:
 Int),(0:Int),(0:Int), [], [], []) else some ((0:Int),(0:Int),(0:Int),(0:Int),(0:Int), [], [], [])) fun(v1:Int×Int×Int×Int×Int×List (Int×Int×Bool)×List Int×List Int)=>Option.bind (Lz.f74F (v1.1,
 v1.2.1,v1.2.2.1,v1.2.2.2.1,v1.2.2.2.2.1,v1.2.2.2.2.2.1,v1.2.2.2.2.2.2.1,v1.2.2.2.2.2.2.2)) fun(v2:Int×Int×Int×Int×Int×List (Int×Int×Bool)×List Int×List Int)=>Option.bind (iter (fun(s3:Int×Int×Int×Int×
 Int×Int×List (Int×Int×Bool)×List Int×List Int)=>if decide (s3.1<(x.1.length:Int))=true then Option.bind (Lz.f75F (x.1,s3.1,s3.2.1,s3.2.2.1,s3.2.2.2.1,s3.2.2.2.2.1,s3.2.2.2.2.2.1,s3.2.2.2.2.2.2.1,
 s3.2.2.2.2.2.2.2.1,s3.2.2.2.2.2.2.2.2)) fun(v4:Int×Int×Int×Int×Int×List (Int×Int×Bool)×List Int×List Int)=>some (Sum.inl (IntKind.i64.wrap (s3.1+(1:Int)),v4.1,v4.2.1,v4.2.2.1,v4.2.2.2.1,v4.2.2.2.2.1,
 v4.2.2.2.2.2.1,v4.2.2.2.2.2.2.1,v4.2.2.2.2.2.2.2)) else some (Sum.inr (s3.2.1,s3.2.2.1,s3.2.2.2.1,s3.2.2.2.2.1,s3.2.2.2.2.2.1,s3.2.2.2.2.2.2.1,s3.2.2.2.2.2.2.2.1,s3.2.2.2.2.2.2.2.2))) ((0:Int),v2.1,v2.2.1,v2.2.2.1,v2.2.2.2.1,
 v2.2.2.2.2.1,v2.2.2.2.2.2.1,v2.2.2.2.2.2.2.1,v2.2.2.2.2.2.2.2)) fun(v3:Int×Int×Int×Int×Int×List (Int×Int×Bool)×List Int×List Int)=>some (v3.1,v3.2.1,v3.2.2.1,v3.2.2.2.1,v3.2.2.2.2.1,v3.2.2.2.2.2.1,
 v3.2.2.2.2.2.2.1,v3.2.2.2.2.2.2.2)
theorem Lz.f43eq: ∀ x,zl Lz.C Lz.f43Γ Lz.f43sig Lz.f43ann Go.Proofs.Tryz.f43 x=Lz.f43F x:=by
 intro x
 kernel_rfl
noncomputable def Lz.f43con:Con:=⟨43,Lz.f43sig,Lz.f43F⟩
theorem Lz.f43ok:Con.Ok Go.Proofs.Tryz.prog Lz.C Lz.f43con:=
 zb (Γ:=Lz.f43Γ) (an:=Lz.f43ann) ⟨Lz.Cok,(List.forall_mem_cons.2 ⟨Lz.f74ok,(List.forall_mem_cons.2 ⟨Lz.f75ok,(fun _ h=>nomatch h)⟩)⟩),Lz.mixed⟩ Go.Proofs.Tryz.func43 rfl rfl (fun x y h=>(Lz.f43eq x).trans h) (by decide)
def Lz.f27sig:Sig:=⟨⟨[.hole (.sl (.int .i64)), .hole (.int .i64)], []⟩,⟨[.own 0, .own 1], [.arr 3 (.int .i64), .arr 3 (.int .i64)]⟩⟩
noncomputable def Lz.f27Γ:List Con:= [Lz.f43con]
def Lz.f27ann:Ann:=(.seq .leaf (.seq .leaf (.seq .leaf .leaf)))
noncomputable def Lz.f27F:List Int×Int→Option (List Int×List Int):=fun(x:List Int×Int)=>Option.bind (Lz.f43F (x.1,x.2)) fun(v1:Int×Int×Int×Int×Int×List (Int×Int×Bool)×List Int×List Int)=>some
 (v1.2.2.2.2.2.2.1,v1.2.2.2.2.2.2.2)
theorem Lz.f27eq: ∀ x,zl Lz.C Lz.f27Γ Lz.f27sig Lz.f27ann Go.Proofs.Tryz.f27 x=Lz.f27F x:=by
 intro x
 kernel_rfl
noncomputable def Lz.f27con:Con:=⟨27,Lz.f27sig,Lz.f27F⟩
theorem Lz.f27ok:Con.Ok Go.Proofs.Tryz.prog Lz.C Lz.f27con:=
 zb (Γ:=Lz.f27Γ) (an:=Lz.f27ann) ⟨Lz.Cok,(List.forall_mem_cons.2 ⟨Lz.f43ok,(fun _ h=>nomatch h)⟩),Lz.mixed⟩ Go.Proofs.Tryz.func27 rfl rfl (fun x y h=>(Lz.f27eq x).trans h) (by decide)
def Lz.s0sig:Sig:=⟨⟨[.own 0], [.arr 3 (.int .i64)]⟩,⟨[.own 1], [.arr 3 (.int .i64), .arr 3 (.int .i64)]⟩⟩
noncomputable def Lz.s0Γ:List Con:= []
def Lz.s0ann:Ann:=(.seq .leaf (.seq (.seq .leaf (.cond (.seq .leaf .leaf) .leaf)) (.seq .leaf .leaf)))
noncomputable def Lz.s0F:List Int→Option (List Int×List Int):=fun(x:List Int)=>if Nat.beq (List.length x) (0:Nat)=true then agree (some (x, [])) (if zj ((0:Nat)+List.length x) (8:Nat) then some (x, []++x) else
 none) else if zj ((0:Nat)+List.length x) (8:Nat) then some (x, []++x) else none
theorem Lz.s0eq: ∀ x,zl Lz.C Lz.s0Γ Lz.s0sig Lz.s0ann Go.Proofs.Tryz.f24 x=Lz.s0F x:=by
 intro x
 kernel_rfl
noncomputable def Lz.s0con:Con:=⟨24,Lz.s0sig,Lz.s0F⟩
theorem Lz.s0ok:Con.Ok Go.Proofs.Tryz.prog Lz.C Lz.s0con:=
 zb (Γ:=Lz.s0Γ) (an:=Lz.s0ann) ⟨Lz.Cok,(fun _ h=>nomatch h),Lz.mixed⟩ Go.Proofs.Tryz.func24 rfl rfl (fun x y h=>(Lz.s0eq x).trans h) (by decide)
def Lz.f54sig:Sig:=⟨⟨[.hole (.int .i64)], []⟩,⟨[.hole .bool], []⟩⟩
noncomputable def Lz.f54Γ:List Con:= [Lz.f77con,Lz.f76con]
def Lz.f54ann:Ann:=(.seq .leaf (.seq .leaf .leaf))
noncomputable def Lz.f54F:Int→Option (Bool):=fun(x:Int)=>Option.bind (Lz.f77F [(14:Int),(15:Int),(16:Int),(17:Int),(18:Int),(9:Int)]) fun v1=>Option.bind (Lz.f76F (x,v1)) fun v2=>some v2
theorem Lz.f54eq: ∀ x,zl Lz.C Lz.f54Γ Lz.f54sig Lz.f54ann Go.Proofs.Tryz.f54 x=Lz.f54F x:=by
 intro x
 kernel_rfl
noncomputable def Lz.f54con:Con:=⟨54,Lz.f54sig,Lz.f54F⟩
theorem Lz.f54ok:Con.Ok Go.Proofs.Tryz.prog Lz.C Lz.f54con:=
 zb (Γ:=Lz.f54Γ) (an:=Lz.f54ann) ⟨Lz.Cok,(List.forall_mem_cons.2 ⟨Lz.f77ok,(List.forall_mem_cons.2 ⟨Lz.f76ok,(fun _ h=>nomatch h)⟩)⟩),Lz.mixed⟩ Go.Proofs.Tryz.func54 rfl rfl (fun x y h=>(Lz.f54eq x).trans h) (by decide)
def Lz.f44sig:Sig:=⟨⟨[.hole (.sl (.int .i64)), .hole (.sl (.int .i64))], []⟩,⟨[.ptr 0 0], [.cells [.hole (.sl (.int .i64)), .hole (.sl (.int .i64)), .own 1, .own 2], .arr 3 (.int .i64), .arr 3 (.int .i64)]⟩⟩
noncomputable def Lz.f44Γ:List Con:= [Lz.f54con]
def Lz.f44ann:Ann:=(.seq .leaf (.seq .leaf (.seq (.seq .leaf (.block (.loop ⟨.normal, [(17, .hole (.int .i64))], [.arr 3 (.int .i64), .cells [.hole (.sl (.int .i64)), .hole (.sl (.int .i64)), .own 2, .own 0], .arr 3 (.int .i64)]⟩
 [⟨(.exit 0), [], [.arr 3 (.int .i64), .cells [.hole (.sl (.int .i64)), .hole (.sl (.int .i64)), .own 2, .own 0], .arr 3 (.int .i64)]⟩] (.seq .leaf (.seq (.cond .leaf .leaf) (.seq (.block (.seq .leaf (.seq .leaf (.seq .leaf (.cond (.seq
 (.tail 11) .leaf) .leaf))))) .leaf)))))) (.seq .leaf .leaf))))
noncomputable def Lz.f44F:List Int×List Int→Option (List Int×List Int×List Int×List Int):=fun(x:List Int×List Int)=>if(0:Int)≤(x.1.length:Int)∧(x.1.length:Int)≤(x.1.length:Int)∧zj (Int.toNat
 (x.1.length:Int)) (8:Nat) then Option.bind (iter (fun(s1:Int×List Int×List Int×List Int×List Int)=>if decide (s1.1<(x.1.length:Int))=true then if(0:Int)≤s1.1∧s1.1<(x.1.length:Int) then if(0:Int)≤s1.1∧
 s1.1<(s1.2.1.length:Int) then Option.bind (Lz.f54F (List.getD x.1 (Int.toNat s1.1) (0:Int))) fun v2=>if(!v2)=true then if(0:Int)≤s1.1∧s1.1<(↑(List.length (List.set s1.2.1 (Int.toNat s1.1) (-1:Int))):Int) then if
 zj (List.length s1.2.2.2.2+(1:Nat)) (8:Nat) then some (Sum.inl (IntKind.i64.wrap (s1.1+(1:Int)),List.set (List.set s1.2.1 (Int.toNat s1.1) (-1:Int)) (Int.toNat s1.1) (s1.2.2.2.2.length:Int),s1.2.2.1,s1.2.2.2.1,
 s1.2.2.2.2++ [s1.1])) else none else none else some (Sum.inl (IntKind.i64.wrap (s1.1+(1:Int)),List.set s1.2.1 (Int.toNat s1.1) (-1:Int),s1.2.2.1,s1.2.2.2.1,s1.2.2.2.2)) else none else none else some (Sum.inr (s1.2.1,s1.2.2.1,
 s1.2.2.2.1,s1.2.2.2.2))) ((0:Int),List.replicate (Int.toNat (x.1.length:Int)) (0:Int),x.1,x.2, [])) fun(v1:List Int×List Int×List Int×List Int)=>some (v1.2.1,v1.2.2.1,v1.2.2.2,v1.1) else none
theorem Lz.f44eq: ∀ x,zl Lz.C Lz.f44Γ Lz.f44sig Lz.f44ann Go.Proofs.Tryz.f44 x=Lz.f44F x:=by
 intro x
 kernel_rfl
noncomputable def Lz.f44con:Con:=⟨44,Lz.f44sig,Lz.f44F⟩
theorem Lz.f44ok:Con.Ok Go.Proofs.Tryz.prog Lz.C Lz.f44con:=
 zb (Γ:=Lz.f44Γ) (an:=Lz.f44ann) ⟨Lz.Cok,(List.forall_mem_cons.2 ⟨Lz.f54ok,(fun _ h=>nomatch h)⟩),Lz.mixed⟩ Go.Proofs.Tryz.func44 rfl rfl (fun x y h=>(Lz.f44eq x).trans h) (by decide)
def Lz.f46sig:Sig:=⟨⟨[.ro (.st (.pair (.sl (.int .i64)) (.pair (.sl (.int .i64)) (.pair (.sl (.int .i64)) (.sl (.int .i64))))))], []⟩,⟨[.hole (.sl (.sl (.int .i64)))], []⟩⟩
noncomputable def Lz.f46Γ:List Con:= []
def Lz.f46ann:Ann:=(.seq .leaf (.seq .leaf (.seq .leaf (.seq (.seq .leaf (.block (.loop ⟨.normal, [(3, .own 0),(4, .hole (.int .i64)),(5, .hole (.int .i64))], [.arr 22 (.osl (.int .i64))]⟩ [⟨(.exit 0), [(3, .own 0)], [.arr 22 (.osl
 (.int .i64))]⟩] (.seq (.seq .leaf (.cond .leaf .leaf)) (.seq (.block (.seq .leaf (.seq (.seq (.join [⟨.normal, [(63, .hole .bool)], [.arr 22 (.osl (.int .i64))]⟩] .leaf) (.cond .leaf .leaf)) (.seq .leaf .leaf)))) .leaf))))) (.seq .leaf
 .leaf)))))
noncomputable def Lz.f46F:List Int×List Int×List Int×List Int→Option (List (List Int)):=fun(x:List Int×List Int×List Int×List Int)=>Option.bind (iter (fun(s1:Int×Int×List (Bool×List Int))=>if decide (s1.2.1
 ≤(x.2.2.1.length:Int))=true then if(0:Int)≤IntKind.i64.wrap (s1.2.1 - (1:Int))∧IntKind.i64.wrap (s1.2.1 - (1:Int))<(x.2.2.1.length:Int) then Option.bind (if decide (s1.2.1<(x.2.2.1.length:Int))=true then if(0:
 Int)≤s1.2.1∧s1.2.1<(x.2.2.1.length:Int) then if(0:Int)≤List.getD x.2.2.1 (Int.toNat s1.2.1) (0:Int)∧List.getD x.2.2.1 (Int.toNat s1.2.1) (0:Int)<(x.2.1.length:Int) then if(0:Int)≤List.getD x.2.2.1 (Int.toNat
 (IntKind.i64.wrap (s1.2.1 - (1:Int)))) (0:Int)∧List.getD x.2.2.1 (Int.toNat (IntKind.i64.wrap (s1.2.1 - (1:Int)))) (0:Int)<(x.2.1.length:Int) then if(List.getD x.2.1 (Int.toNat (List.getD x.2.2.1 (Int.toNat s1.2.1) (0:
 Int))) (0:Int)==List.getD x.2.1 (Int.toNat (List.getD x.2.2.1 (Int.toNat (IntKind.i64.wrap (s1.2.1 - (1:Int)))) (0:Int))) (0:Int))=true then if(0:Int)≤List.getD x.2.2.1 (Int.toNat (IntKind.i64.wrap (s1.2.1 - (1:Int)))) (0
 :Int)∧List.getD x.2.2.1 (Int.toNat (IntKind.i64.wrap (s1.2.1 - (1:Int)))) (0:Int)<(x.1.length:Int) then some (List.getD x.1 (Int.toNat (List.getD x.2.2.1 (Int.toNat (IntKind.i64.wrap (s1.2.1 - (1:Int)))) (0:Int))) (0:Int)
 !=(10:Int),s1.2.2) else none else some (false,s1.2.2) else none else none else none else some (false,s1.2.2)) fun(v2:Bool×List (Bool×List Int))=>if v2.1=true then some (Sum.inl (s1.1,IntKind.i64.wrap (s1.2.1+(1:Int)),
 v2.2)) else if(0:Int)≤s1.2.1∧s1.2.1≤(x.2.2.1.length:Int) then if(0:Int)≤s1.2.1∧s1.2.1≤s1.2.1 then if(0:Int)≤s1.1∧s1.1≤s1.2.1 then if zj (List.length v2.2+(1:Nat)) (24:Nat) then some (Sum.inl (s1.2.1,
 IntKind.i64.wrap (s1.2.1+(1:Int)),v2.2++ [Ty.lift (Ty.osl (Ty.int IntKind.i64)) (List.drop (Int.toNat s1.1) (List.take (Int.toNat s1.2.1) x.2.2.1))])) else none else none else none else none else none else some (Sum.inr s1.2.2)) ((0:
 Int),(1:Int), [])) fun(v1:List (Bool×List Int))=>some (List.map (Ty.erD (Ty.osl (Ty.int IntKind.i64))) v1)
theorem Lz.f46eq: ∀ x,zl Lz.C Lz.f46Γ Lz.f46sig Lz.f46ann Go.Proofs.Tryz.f46 x=Lz.f46F x:=by
 intro x
 kernel_rfl
noncomputable def Lz.f46con:Con:=⟨46,Lz.f46sig,Lz.f46F⟩
theorem Lz.f46ok:Con.Ok Go.Proofs.Tryz.prog Lz.C Lz.f46con:=
 zb (Γ:=Lz.f46Γ) (an:=Lz.f46ann) ⟨Lz.Cok,(fun _ h=>nomatch h),Lz.mixed⟩ Go.Proofs.Tryz.func46 rfl rfl (fun x y h=>(Lz.f46eq x).trans h) (by decide)
def Lz.f78sig:Sig:=⟨⟨[.ro (.st (.pair (.sl (.int .i64)) (.pair (.sl (.int .i64)) (.pair (.sl (.int .i64)) (.sl (.int .i64)))))), .hole (.int .i64), .hole (.int .i64), .hole (.int .i64)], []⟩,⟨[.hole (.int .i64)], []⟩⟩
noncomputable def Lz.f78Γ:List Con:= []
def Lz.f78ann:Ann:=(.seq .leaf (.seq .leaf (.seq (.seq (.join [⟨.normal, [(29, .hole .bool)], []⟩] .leaf) (.cond (.seq .leaf .leaf) .leaf)) (.seq .leaf .leaf))))
noncomputable def Lz.f78F:(List Int×List Int×List Int×List Int)×Int×Int×Int→Option (Int):=fun(x:(List Int×List Int×List Int×List Int)×Int×Int×Int)=>if(0:Int)≤x.2.1∧x.2.1<(x.1.2.2.2.length:Int)
 then Option.bind (if decide (IntKind.i64.wrap (List.getD x.1.2.2.2 (Int.toNat x.2.1) (0:Int)+x.2.2.1)<(0:Int))=true then some true else some (decide (IntKind.i64.wrap (List.getD x.1.2.2.2 (Int.toNat x.2.1) (0:Int)+x.2.2.1)≥
 (x.1.2.2.1.length:Int)))) fun v1=>if v1=true then some x.2.2.2 else if(0:Int)≤IntKind.i64.wrap (List.getD x.1.2.2.2 (Int.toNat x.2.1) (0:Int)+x.2.2.1)∧IntKind.i64.wrap (List.getD x.1.2.2.2 (Int.toNat x.2.1) (0:Int)+
 x.2.2.1)<(x.1.2.2.1.length:Int) then if(0:Int)≤List.getD x.1.2.2.1 (Int.toNat (IntKind.i64.wrap (List.getD x.1.2.2.2 (Int.toNat x.2.1) (0:Int)+x.2.2.1))) (0:Int)∧List.getD x.1.2.2.1 (Int.toNat (IntKind.i64.wrap (List.getD
 x.1.2.2.2 (Int.toNat x.2.1) (0:Int)+x.2.2.1))) (0:Int)<(x.1.2.1.length:Int) then some (List.getD x.1.2.1 (Int.toNat (List.getD x.1.2.2.1 (Int.toNat (IntKind.i64.wrap (List.getD x.1.2.2.2 (Int.toNat x.2.1) (0:Int)+x.2.2.1))) (0
 :Int))) (0:Int)) else none else none else none
theorem Lz.f78eq: ∀ x,zl Lz.C Lz.f78Γ Lz.f78sig Lz.f78ann Go.Proofs.Tryz.f78 x=Lz.f78F x:=by
 intro x
 kernel_rfl
noncomputable def Lz.f78con:Con:=⟨78,Lz.f78sig,Lz.f78F⟩
theorem Lz.f78ok:Con.Ok Go.Proofs.Tryz.prog Lz.C Lz.f78con:=
 zb (Γ:=Lz.f78Γ) (an:=Lz.f78ann) ⟨Lz.Cok,(fun _ h=>nomatch h),Lz.mixed⟩ Go.Proofs.Tryz.func78 rfl rfl (fun x y h=>(Lz.f78eq x).trans h) (by decide)
def Lz.f79sig:Sig:=⟨⟨[.hole (.int .i64)], []⟩,⟨[.hole (.int .i64)], []⟩⟩
noncomputable def Lz.f79Γ:List Con:= []
def Lz.f79ann:Ann:=(.seq .leaf (.seq (.seq .leaf (.cond (.seq .leaf .leaf) .leaf)) (.seq .leaf .leaf)))
noncomputable def Lz.f79F:Int→Option (Int):=fun(x:Int)=>if(IntKind.i64.wrap (↑(BitVec.toNat (BitVec.ofInt (IntKind.bits IntKind.i64) x &&& BitVec.ofInt (IntKind.bits IntKind.i64) (1:Int))):Int)==(1:Int))=true then some
 (1:Int) else some (0:Int)
theorem Lz.f79eq: ∀ x,zl Lz.C Lz.f79Γ Lz.f79sig Lz.f79ann Go.Proofs.Tryz.f79 x=Lz.f79F x:=by
 intro x
 kernel_rfl
noncomputable def Lz.f79con:Con:=⟨79,Lz.f79sig,Lz.f79F⟩
theorem Lz.f79ok:Con.Ok Go.Proofs.Tryz.prog Lz.C Lz.f79con:=
 zb (Γ:=Lz.f79Γ) (an:=Lz.f79ann) ⟨Lz.Cok,(fun _ h=>nomatch h),Lz.mixed⟩ Go.Proofs.Tryz.func79 rfl rfl (fun x y h=>(Lz.f79eq x).trans h) (by decide)
def Lz.f48sig:Sig:=⟨⟨[.ro (.st (.pair (.sl (.int .i64)) (.pair (.sl (.int .i64)) (.pair (.sl (.int .i64)) (.sl (.int .i64)))))), .hole (.sl (.int .i64)), .hole (.int .i64)], []⟩,⟨[.hole (.st (.pair (.sl (.int .i64)) (.pair (.int .i64)
 (.pair (.int .i64) (.int .i64)))))], []⟩⟩
noncomputable def Lz.f48Γ:List Con:= [Lz.f47con,Lz.f78con,Lz.f79con]
def Lz.f48ann:Ann:=(.seq .leaf (.seq .leaf (.seq .leaf (.seq .leaf (.seq (.join [⟨.normal, [(10, .hole (.int .i64))], [.cells [.own 2, .hole (.int .i64), .hole (.int .i64), .hole (.int .i64)], .cells [.hole (.sl (.int .i64)), .hole
 (.int .i64), .hole (.int .i64), .hole (.int .i64)], .arr 3 (.int .i64)]⟩] (.seq .leaf (.seq (.join [⟨.normal, [(44, .hole .bool)], [.cells [.own 2, .hole (.int .i64), .hole (.int .i64), .hole (.int .i64)], .cells [.hole (.sl (.int .i64)),
 .hole (.int .i64), .hole (.int .i64), .hole (.int .i64)], .arr 3 (.int .i64)]⟩] .leaf) (.cond .leaf .leaf)))) (.seq (.eff 3 [] [0,1,0,0,0,28,63,127,0,256,768,1792,0,7936,16128,0,65280,131071,255,524287,1048575,2097151])
 (.seq .leaf .leaf)))))))
noncomputable def Lz.f48F:(List Int×List Int×List Int×List Int)×List Int×Int→Option (List Int×Int×Int×Int):=fun(x:(List Int×List Int×List Int×List Int)×List Int×Int)=>if(0:Int)≤(0:Int)∧(0:Int)
 <(x.2.1.length:Int) then if(0:Int)≤IntKind.i64.wrap ((x.2.1.length:Int) - (1:Int))∧IntKind.i64.wrap ((x.2.1.length:Int) - (1:Int))<(x.2.1.length:Int) then if(0:Int)≤List.getD x.2.1 (Int.toNat (0:Int)) (0:Int)
 ∧List.getD x.2.1 (Int.toNat (0:Int)) (0:Int)<(x.1.2.1.length:Int) then Option.bind (if(0:Int)≤List.getD x.2.1 (Int.toNat (IntKind.i64.wrap ((x.2.1.length:Int) - (1:Int)))) (0:Int)∧List.getD x.2.1 (Int.toNat
 (IntKind.i64.wrap ((x.2.1.length:Int) - (1:Int)))) (0:Int)<(x.1.1.length:Int) then Option.bind (if(List.getD x.1.1 (Int.toNat (List.getD x.2.1 (Int.toNat (IntKind.i64.wrap ((x.2.1.length:Int) - (1:Int)))) (0:Int))) (0:
 Int)!=(10:Int))=true then Option.bind (Lz.f47F (List.getD x.1.1 (Int.toNat (List.getD x.2.1 (Int.toNat (IntKind.i64.wrap ((x.2.1.length:Int) - (1:Int)))) (0:Int))) (0:Int))) fun v1=>some (!v1,(0:Int),(0:Int),(0:
 Int),x.2.1,List.getD x.1.2.1 (Int.toNat (List.getD x.2.1 (Int.toNat (0:Int)) (0:Int))) (0:Int),(0:Int),(0:Int), []) else some (false,(0:Int),(0:Int),(0:Int),x.2.1,List.getD x.1.2.1 (Int.toNat (List.getD x.2.1
 (Int.toNat (0:Int)) (0:Int))) (0:Int),(0:Int),(0:Int), [])) fun(v1:Bool×Int×Int×Int×List Int×Int×Int×Int×List Int)=>if v1.1=true then Option.bind (Lz.f78F (x.1,List.getD x.2.1 (Int.toNat (IntKind.i64.wrap
 ((x.2.1.length:Int) - (1:Int)))) (0:Int),(1:Int),x.2.2)) fun v2=>some (v2,v1.2.1,v1.2.2.1,v1.2.2.2.1,v1.2.2.2.2.1,v1.2.2.2.2.2.1,v1.2.2.2.2.2.2.1,v1.2.2.2.2.2.2.2.1,v1.2.2.2.2.2.2.2.2) else some (x.2.2,v1.2.1,v1.2.2.1,
 v1.2.2.2.1,v1.2.2.2.2.1,v1.2.2.2.2.2.1,v1.2.2.2.2.2.2.1,v1.2.2.2.2.2.2.2.1,v1.2.2.2.2.2.2.2.2) else none) fun(v1:Int×Int×Int×Int×List Int×Int×Int×Int×List Int)=>Option.bind (Lz.f78F (x.1,List.getD x.2.1 (Int.toNat
 (0:Int)) (0:Int),(-1:Int),x.2.2)) fun v2=>Option.bind (Lz.f79F (zlr v1.2.2.2.2.2.1 v2)) fun v3=>if(0:Int)≤List.getD x.2.1 (Int.toNat (IntKind.i64.wrap ((x.2.1.length:Int) - (1:Int)))) (0:Int)∧List.getD x.2.1
 (Int.toNat (IntKind.i64.wrap ((x.2.1.length:Int) - (1:Int)))) (0:Int)<(x.1.2.1.length:Int) then Option.bind (Lz.f79F (zlr (List.getD x.1.2.1 (Int.toNat (List.getD x.2.1 (Int.toNat (IntKind.i64.wrap ((x.2.1.length:Int) - (1:
 Int)))) (0:Int))) (0:Int)) v1.1)) fun v4=>some (v1.2.2.2.2.1,v1.2.2.2.2.2.1,v3,v4) else none else none else none else none
theorem Lz.f48eq: ∀ x,zl Lz.C Lz.f48Γ Lz.f48sig Lz.f48ann Go.Proofs.Tryz.f48 x=Lz.f48F x:=by
 intro x
 kernel_rfl
noncomputable def Lz.f48con:Con:=⟨48,Lz.f48sig,Lz.f48F⟩
theorem Lz.f48ok:Con.Ok Go.Proofs.Tryz.prog Lz.C Lz.f48con:=
 zb (Γ:=Lz.f48Γ) (an:=Lz.f48ann) ⟨Lz.Cok,(List.forall_mem_cons.2 ⟨Lz.f47ok,(List.forall_mem_cons.2 ⟨Lz.f78ok,(List.forall_mem_cons.2 ⟨Lz.f79ok,(fun _ h=>nomatch h)⟩)⟩)⟩),Lz.mixed⟩ Go.Proofs.Tryz.func48 rfl rfl (fun x y h=>(Lz.f48eq x).trans h) (by decide)
def Lz.f28sig:Sig:=⟨⟨[.hole (.sl (.int .i64)), .hole (.sl (.int .i64)), .hole (.int .i64)], []⟩,⟨[.hole (.sl (.st (.pair (.sl (.int .i64)) (.pair (.int .i64) (.pair (.int .i64) (.int .i64))))))], []⟩⟩
noncomputable def Lz.f28Γ:List Con:= [Lz.f44con,Lz.f45con,Lz.f46con,Lz.f47con,Lz.f48con]
def Lz.f28ann:Ann:=(.seq .leaf (.seq (.seq .leaf (.cond (.seq .leaf .leaf) .leaf)) (.seq .leaf (.seq .leaf (.seq .leaf (.seq .leaf (.seq (.seq .leaf (.block (.loop ⟨.normal, [(10, .own 4),(33, .hole (.int .i64))], [.gone, .gone, .gone,
 .map (.int .i64) (.int .i64), .arr 22 (.osl (.int .i64))]⟩ [⟨(.exit 0), [(10, .own 4)], [.gone, .gone, .gone, .gone, .arr 22 (.osl (.int .i64))]⟩] (.seq .leaf (.seq (.cond .leaf .leaf) (.seq (.block (.seq .leaf (.seq .leaf (.seq (.join
 [⟨.normal, [(13, .hole (.int .i64)),(10, .own 5)], [.gone, .gone, .gone, .map (.int .i64) (.int .i64), .gone, .arr 22 (.osl (.int .i64))]⟩] (.seq .leaf (.cond (.seq .leaf .leaf) .leaf))) (.seq .leaf (.seq .leaf (.seq (.join [⟨.normal,
 [(78, .hole .bool)], [.gone, .gone, .gone, .map (.int .i64) (.int .i64), .gone, .arr 22 (.osl (.int .i64)), .gone, .gone]⟩] .leaf) (.cond .leaf .leaf)))))))) .leaf)))))) (.seq .leaf (.seq (.seq .leaf (.block (.loop ⟨.normal, [(16, .own 5),
 (88, .hole (.int .i64))], [.gone, .gone, .gone, .gone, .arr 22 (.osl (.int .i64)), .arr 48 (.st (.pair (.sl (.int .i64)) (.pair (.int .i64) (.pair (.int .i64) (.int .i64)))))]⟩ [⟨(.exit 2), [(16, .own 5)], [.gone, .gone, .gone, .gone,
 .gone, .arr 48 (.st (.pair (.sl (.int .i64)) (.pair (.int .i64) (.pair (.int .i64) (.int .i64)))))]⟩] (.seq .leaf (.seq (.cond .leaf .leaf) (.seq (.block (.seq .leaf .leaf)) .leaf)))))) (.seq .leaf .leaf))))))))))
noncomputable def Lz.f28F:List Int×List Int×Int→Option (List (List Int×Int×Int×Int)):=fun(x:List Int×List Int×Int)=>if((x.1.length:Int)!=(x.2.1.length:Int))=true then some [] else Option.bind (Lz.f44F (x.1,
 x.2.1)) fun(v1:List Int×List Int×List Int×List Int)=>Option.bind (Lz.f45F x.1) fun(v2:List Int)=>Option.bind (Lz.f46F (v1.1,v1.2.1,v1.2.2.1,v1.2.2.2)) fun(v3:List (List Int))=>Option.bind (iter (fun(s4:Int×List
 (Int×Int)×List (Bool×List Int))=>if decide (s4.1<(v3.length:Int))=true then if(0:Int)≤s4.1∧s4.1<(v3.length:Int) then if(0:Int)≤(0:Int)∧(0:Int)<(↑(List.length (List.getD v3 (Int.toNat s4.1) [])):Int)
 then Option.bind (if(!Option.isSome (zpb (Ty.int IntKind.i64) (Ty.int IntKind.i64) s4.2.1 (List.getD (List.getD v3 (Int.toNat s4.1) []) (Int.toNat (0:Int)) (0:Int))))=true then if zj (List.length s4.2.2+(1:Nat)) (24:Nat)
 then some ((s4.2.2.length:Int),s4.2.1,s4.2.2++ [(true, [])]) else none else some (Option.getD (zpb (Ty.int IntKind.i64) (Ty.int IntKind.i64) s4.2.1 (List.getD (List.getD v3 (Int.toNat s4.1) []) (Int.toNat (0:Int)) (0:Int))) (0:
 Int),s4.2.1,s4.2.2)) fun(v5:Int×List (Int×Int)×List (Bool×List Int))=>if(0:Int)≤v5.1∧v5.1<(v5.2.2.length:Int) then if zut (List.getD v5.2.2 (Int.toNat v5.1) (false, [])).1 then if zj (List.length (List.getD
 v5.2.2 (Int.toNat v5.1) (false, [])).2+List.length (List.getD v3 (Int.toNat s4.1) [])) (8:Nat) then if(0:Int)≤v5.1∧v5.1<(↑(List.length (List.set v5.2.2 (Int.toNat v5.1) (false,(List.getD v5.2.2 (Int.toNat v5.1) (false,
 [])).2))):Int) then if(0:Int)≤IntKind.i64.wrap ((↑(List.length (List.getD v3 (Int.toNat s4.1) [])):Int) - (1:Int))∧IntKind.i64.wrap ((↑(List.length (List.getD v3 (Int.toNat s4.1) [])):Int) - (1:Int))<(↑(List.length
 (List.getD v3 (Int.toNat s4.1) [])):Int) then Option.bind (if(0:Int)≤List.getD (List.getD v3 (Int.toNat s4.1) []) (Int.toNat (IntKind.i64.wrap ((↑(List.length (List.getD v3 (Int.toNat s4.1) [])):Int) - (1:Int)))) (0:Int)∧
 List.getD (List.getD v3 (Int.toNat s4.1) []) (Int.toNat (IntKind.i64.wrap ((↑(List.length (List.getD v3 (Int.toNat s4.1) [])):Int) - (1:Int)))) (0:Int)<(x.1.length:Int) then Option.bind (Lz.f47F (List.getD x.1 (Int.toNat
 (List.getD (List.getD v3 (Int.toNat s4.1) []) (Int.toNat (IntKind.i64.wrap ((↑(List.length (List.getD v3 (Int.toNat s4.1) [])):Int) - (1:Int)))) (0:Int))) (0:Int))) fun v6=>if v6=true then if(0:Int)≤List.getD (List.getD v3
 (Int.toNat s4.1) []) (Int.toNat (IntKind.i64.wrap ((↑(List.length (List.getD v3 (Int.toNat s4.1) [])):Int) - (1:Int)))) (0:Int)∧List.getD (List.getD v3 (Int.toNat s4.1) []) (Int.toNat (IntKind.i64.wrap ((↑(List.length (List.getD v3
 (Int.toNat s4.1) [])):Int) - (1:Int)))) (0:Int)<(v2.length:Int) then some (List.getD v2 (Int.toNat (List.getD (List.getD v3 (Int.toNat s4.1) []) (Int.toNat (IntKind.i64.wrap ((↑(List.length (List.getD v3 (Int.toNat s4.1) [])):
 Int) - (1:Int)))) (0:Int))) (0:Int)!=(-1:Int),v5.2.1,List.set (List.set v5.2.2 (Int.toNat v5.1) (false,(List.getD v5.2.2 (Int.toNat v5.1) (false, [])).2)) (Int.toNat v5.1) (true,(List.getD v5.2.2 (Int.toNat v5.1) (false,
 [])).2++List.getD v3 (Int.toNat s4.1) [])) else none else some (false,v5.2.1,List.set (List.set v5.2.2 (Int.toNat v5.1) (false,(List.getD v5.2.2 (Int.toNat v5.1) (false, [])).2)) (Int.toNat v5.1) (true,(List.getD v5.2.2 (Int.toNat
 v5.1) (false, [])).2++List.getD v3 (Int.toNat s4.1) [])) else none) fun(v6:Bool×List (Int×Int)×List (Bool×List Int))=>if v6.1=true then if(0:Int)≤List.getD (List.getD v3 (Int.toNat s4.1) []) (Int.toNat
 (IntKind.i64.wrap ((↑(List.length (List.getD v3 (Int.toNat s4.1) [])):Int) - (1:Int)))) (0:Int)∧List.getD (List.getD v3 (Int.toNat s4.1) []) (Int.toNat (IntKind.i64.wrap ((↑(List.length (List.getD v3 (Int.toNat s4.1) [])):Int) -
 (1:Int)))) (0:Int)<(v2.length:Int) then some (Sum.inl (IntKind.i64.wrap (s4.1+(1:Int)),z0x (Ty.int IntKind.i64) (Ty.int IntKind.i64) v6.2.1 (List.getD v2 (Int.toNat (List.getD (List.getD v3 (Int.toNat s4.1) []) (Int.toNat
 (IntKind.i64.wrap ((↑(List.length (List.getD v3 (Int.toNat s4.1) [])):Int) - (1:Int)))) (0:Int))) (0:Int)) v5.1,v6.2.2)) else none else some (Sum.inl (IntKind.i64.wrap (s4.1+(1:Int)),v6.2.1,v6.2.2)) else none else none else
 none else none else none else none else none else some (Sum.inr s4.2.2)) ((0:Int), [], [])) fun(v4:List (Bool×List Int))=>Option.bind (iter (fun(s5:Int×List (Bool×List Int)×List (List Int×Int×Int×Int))=>if decide
 (s5.1<(v4.length:Int))=true then if(0:Int)≤s5.1∧s5.1<(s5.2.1.length:Int) then Option.bind (Lz.f48F ((v1.1,v1.2.1,v1.2.2.1,v1.2.2.2),(List.getD s5.2.1 (Int.toNat s5.1) (false, [])).2,x.2.2)) fun(v6:List Int×Int×
 Int×Int)=>if zj (List.length s5.2.2+(1:Nat)) (48:Nat) then some (Sum.inl (IntKind.i64.wrap (s5.1+(1:Int)),s5.2.1,s5.2.2++ [v6])) else none else none else some (Sum.inr s5.2.2)) ((0:Int),v4, [])) fun(v5:List (List
 Int×Int×Int×Int))=>some v5
theorem Lz.f28eq: ∀ x,zl Lz.C Lz.f28Γ Lz.f28sig Lz.f28ann Go.Proofs.Tryz.f28 x=Lz.f28F x:=by
 intro x
 kernel_rfl
noncomputable def Lz.f28con:Con:=⟨28,Lz.f28sig,Lz.f28F⟩
theorem Lz.f28ok:Con.Ok Go.Proofs.Tryz.prog Lz.C Lz.f28con:=
 zb (Γ:=Lz.f28Γ) (an:=Lz.f28ann) ⟨Lz.Cok,(List.forall_mem_cons.2 ⟨Lz.f44ok,(List.forall_mem_cons.2 ⟨Lz.f45ok,(List.forall_mem_cons.2 ⟨Lz.f46ok,(List.forall_mem_cons.2 ⟨Lz.f47ok,(List.forall_mem_cons.2 ⟨Lz.f48ok,(fun _ h=>nomatch h)⟩)⟩)⟩)⟩)⟩),Lz.mixed⟩ Go.Proofs.Tryz.func28 rfl rfl (fun x y h=>(Lz.f28eq x).trans h) (by decide)
def Lz.s1sig:Sig:=⟨⟨[.own 0, .hole (.sl (.int .i64))], [.arr 3 (.int .i64)]⟩,⟨[.hole (.sl (.int .i64))], [.arr 3 (.int .i64)]⟩⟩
noncomputable def Lz.s1Γ:List Con:= []
def Lz.s1ann:Ann:=(.seq .leaf (.seq .leaf (.seq (.seq .leaf (.block (.loop ⟨.normal, [(13, .hole (.int .i64))], [.arr 3 (.int .i64), .arr 3 (.int .i64)]⟩ [⟨(.exit 0), [], [.arr 3 (.int .i64), .arr 3 (.int .i64)]⟩] (.seq .leaf (.seq
 (.cond .leaf .leaf) (.seq (.block (.seq .leaf .leaf)) .leaf)))))) (.seq .leaf .leaf))))
noncomputable def Lz.s1F:List Int×List Int→Option (List Int×List Int):=fun(x:List Int×List Int)=>if(0:Int)≤(x.1.length:Int)∧(x.1.length:Int)≤(x.1.length:Int)∧zj (Int.toNat (x.1.length:Int)) (8:Nat)
 then Option.bind (iter (fun(s1:Int×List Int×List Int)=>if decide (s1.1<(x.1.length:Int))=true then if(0:Int)≤s1.1∧s1.1<(x.1.length:Int) then if(0:Int)≤List.getD x.1 (Int.toNat s1.1) (0:Int)∧List.getD x.1
 (Int.toNat s1.1) (0:Int)<(s1.2.1.length:Int) then if(0:Int)≤s1.1∧s1.1<(s1.2.2.length:Int) then some (Sum.inl (IntKind.i64.wrap (s1.1+(1:Int)),s1.2.1,List.set s1.2.2 (Int.toNat s1.1) (List.getD s1.2.1 (Int.toNat
 (List.getD x.1 (Int.toNat s1.1) (0:Int))) (0:Int)))) else none else none else none else some (Sum.inr (s1.2.1,s1.2.2))) ((0:Int),x.2,List.replicate (Int.toNat (x.1.length:Int)) (0:Int))) fun(v1:List Int×List Int)=>some
 (v1.2,v1.1) else none
theorem Lz.s1eq: ∀ x,zl Lz.C Lz.s1Γ Lz.s1sig Lz.s1ann Go.Proofs.Tryz.f49 x=Lz.s1F x:=by
 intro x
 kernel_rfl
noncomputable def Lz.s1con:Con:=⟨49,Lz.s1sig,Lz.s1F⟩
theorem Lz.s1ok:Con.Ok Go.Proofs.Tryz.prog Lz.C Lz.s1con:=
 zb (Γ:=Lz.s1Γ) (an:=Lz.s1ann) ⟨Lz.Cok,(fun _ h=>nomatch h),Lz.mixed⟩ Go.Proofs.Tryz.func49 rfl rfl (fun x y h=>(Lz.s1eq x).trans h) (by decide)
def Lz.f49sig:Sig:=⟨⟨[.hole (.sl (.int .i64)), .hole (.sl (.int .i64))], []⟩,⟨[.hole (.sl (.int .i64))], []⟩⟩
noncomputable def Lz.f49Γ:List Con:= []
def Lz.f49ann:Ann:=(.seq .leaf (.seq .leaf (.seq (.seq .leaf (.block (.loop ⟨.normal, [(13, .hole (.int .i64))], [.arr 3 (.int .i64)]⟩ [⟨(.exit 0), [], [.arr 3 (.int .i64)]⟩] (.seq .leaf (.seq (.cond .leaf .leaf) (.seq (.block (.seq
 .leaf .leaf)) .leaf)))))) (.seq .leaf .leaf))))
noncomputable def Lz.f49F:List Int×List Int→Option (List Int):=fun(x:List Int×List Int)=>if(0:Int)≤(x.2.length:Int)∧(x.2.length:Int)≤(x.2.length:Int)∧zj (Int.toNat (x.2.length:Int)) (8:Nat) then
 Option.bind (iter (fun(s1:Int×List Int)=>if decide (s1.1<(x.2.length:Int))=true then if(0:Int)≤s1.1∧s1.1<(x.2.length:Int) then if(0:Int)≤List.getD x.2 (Int.toNat s1.1) (0:Int)∧List.getD x.2 (Int.toNat s1.1)
 (0:Int)<(x.1.length:Int) then if(0:Int)≤s1.1∧s1.1<(s1.2.length:Int) then some (Sum.inl (IntKind.i64.wrap (s1.1+(1:Int)),List.set s1.2 (Int.toNat s1.1) (List.getD x.1 (Int.toNat (List.getD x.2 (Int.toNat s1.1) (0:
 Int))) (0:Int)))) else none else none else none else some (Sum.inr s1.2)) ((0:Int),List.replicate (Int.toNat (x.2.length:Int)) (0:Int))) fun(v1:List Int)=>some v1 else none
theorem Lz.f49eq: ∀ x,zl Lz.C Lz.f49Γ Lz.f49sig Lz.f49ann Go.Proofs.Tryz.f49 x=Lz.f49F x:=by
 intro x
 kernel_rfl
noncomputable def Lz.f49con:Con:=⟨49,Lz.f49sig,Lz.f49F⟩
theorem Lz.f49ok:Con.Ok Go.Proofs.Tryz.prog Lz.C Lz.f49con:=
 zb (Γ:=Lz.f49Γ) (an:=Lz.f49ann) ⟨Lz.Cok,(fun _ h=>nomatch h),Lz.mixed⟩ Go.Proofs.Tryz.func49 rfl rfl (fun x y h=>(Lz.f49eq x).trans h) (by decide)
def Lz.f80sig:Sig:=⟨⟨[.hole (.sl (.int .i64))], []⟩,⟨[.own 0], [.arr 3 (.int .i64)]⟩⟩
noncomputable def Lz.f80Γ:List Con:= [Lz.f118con]
def Lz.f80ann:Ann:=(.seq .leaf (.seq .leaf (.seq (.seq .leaf (.block (.loop ⟨.normal, [(11, .hole (.int .i64))], [.arr 3 (.int .i64)]⟩ [⟨(.exit 0), [], [.arr 3 (.int .i64)]⟩] (.seq .leaf (.seq (.cond .leaf .leaf) (.seq (.block (.seq
 .leaf (.seq .leaf (.seq .leaf (.cond .leaf .leaf))))) .leaf)))))) (.seq .leaf .leaf))))
noncomputable def Lz.f80F:List Int→Option (List Int):=fun(x:List Int)=>if(0:Int)≤(x.length:Int)∧(x.length:Int)≤(x.length:Int)∧zj (Int.toNat (x.length:Int)) (8:Nat) then Option.bind (iter (fun(s1:Int×
 List Int)=>if decide (s1.1<(x.length:Int))=true then if(0:Int)≤s1.1∧s1.1<(x.length:Int) then if(0:Int)≤s1.1∧s1.1<(s1.2.length:Int) then Option.bind (Lz.f118F (List.getD x (Int.toNat s1.1) (0:Int))) fun v2=>
 if(ByteArray.toList v2==ByteArray.toList { data:= #[]:ByteArray})=true then if(0:Int)≤s1.1∧s1.1<(↑(List.length (List.set s1.2 (Int.toNat s1.1) (List.getD x (Int.toNat s1.1) (0:Int)))):Int) then some (Sum.inl
 (IntKind.i64.wrap (s1.1+(1:Int)),List.set (List.set s1.2 (Int.toNat s1.1) (List.getD x (Int.toNat s1.1) (0:Int))) (Int.toNat s1.1) (0:Int))) else none else some (Sum.inl (IntKind.i64.wrap (s1.1+(1:Int)),List.set s1.2
 (Int.toNat s1.1) (List.getD x (Int.toNat s1.1) (0:Int)))) else none else none else some (Sum.inr s1.2)) ((0:Int),List.replicate (Int.toNat (x.length:Int)) (0:Int))) fun(v1:List Int)=>some v1 else none
theorem Lz.f80eq: ∀ x,zl Lz.C Lz.f80Γ Lz.f80sig Lz.f80ann Go.Proofs.Tryz.f80 x=Lz.f80F x:=by
 intro x
 kernel_rfl
noncomputable def Lz.f80con:Con:=⟨80,Lz.f80sig,Lz.f80F⟩
theorem Lz.f80ok:Con.Ok Go.Proofs.Tryz.prog Lz.C Lz.f80con:=
 zb (Γ:=Lz.f80Γ) (an:=Lz.f80ann) ⟨Lz.Cok,(List.forall_mem_cons.2 ⟨Lz.f118ok,(fun _ h=>nomatch h)⟩),Lz.mixed⟩ Go.Proofs.Tryz.func80 rfl rfl (fun x y h=>(Lz.f80eq x).trans h) (by decide)
def Lz.f82sig:Sig:=⟨⟨[.hole (.int .i64)], []⟩,⟨[.hole (.int .i64)], []⟩⟩
noncomputable def Lz.f82Γ:List Con:= []
def Lz.f82ann:Ann:=(.seq .leaf (.seq (.seq .leaf (.cond (.seq .leaf .leaf) .leaf)) (.seq .leaf .leaf)))
noncomputable def Lz.f82F:Int→Option (Int):=fun(x:Int)=>if(x !=(1:Int))=true then some (0:Int) else some x
theorem Lz.f82eq: ∀ x,zl Lz.C Lz.f82Γ Lz.f82sig Lz.f82ann Go.Proofs.Tryz.f82 x=Lz.f82F x:=by
 intro x
 kernel_rfl
noncomputable def Lz.f82con:Con:=⟨82,Lz.f82sig,Lz.f82F⟩
theorem Lz.f82ok:Con.Ok Go.Proofs.Tryz.prog Lz.C Lz.f82con:=
 zb (Γ:=Lz.f82Γ) (an:=Lz.f82ann) ⟨Lz.Cok,(fun _ h=>nomatch h),Lz.mixed⟩ Go.Proofs.Tryz.func82 rfl rfl (fun x y h=>(Lz.f82eq x).trans h) (by decide)
def Lz.f119sig:Sig:=⟨⟨[.own 0, .hole (.int .i64)], [.arr 3 (.int .i64)]⟩,⟨[], [.arr 3 (.int .i64)]⟩⟩
noncomputable def Lz.f119Γ:List Con:= [Lz.f47con]
def Lz.f119ann:Ann:=(.seq .leaf (.seq .leaf (.block (.loop ⟨.normal, [(4, .hole (.int .i64)),(10, .hole (.int .i64))], [.arr 3 (.int .i64)]⟩ [⟨(.exit 0), [], [.arr 3 (.int .i64)]⟩] (.seq .leaf (.seq (.cond .leaf .leaf) (.seq (.block
 (.seq .leaf (.seq (.join [⟨.normal, [], [.arr 3 (.int .i64)]⟩] (.seq .leaf (.cond .leaf .leaf))) (.seq .leaf (.seq (.join [⟨.normal, [(30, .hole .bool)], [.arr 3 (.int .i64)]⟩] .leaf) (.cond .leaf .leaf)))))) .leaf)))))))
noncomputable def Lz.f119F:Int×List Int→Option (List Int):=fun(x:Int×List Int)=>Option.bind (iter (fun(s1:Int×Int×List Int)=>if decide (s1.2.1<(x.2.length:Int))=true then if(0:Int)≤s1.2.1∧s1.2.1<
 (s1.2.2.length:Int) then Option.bind (if(List.getD s1.2.2 (Int.toNat s1.2.1) (0:Int)==(8:Int))=true then if(0:Int)≤s1.2.1∧s1.2.1<(s1.2.2.length:Int) then some (List.set s1.2.2 (Int.toNat s1.2.1) s1.1) else none else
 some s1.2.2) fun(v2:List Int)=>if(0:Int)≤s1.2.1∧s1.2.1<(v2.length:Int) then Option.bind (Option.bind (Lz.f47F (List.getD v2 (Int.toNat s1.2.1) (0:Int))) fun v3=>if v3=true then some (true,v2) else some (List.getD v2
 (Int.toNat s1.2.1) (0:Int)==(22:Int),v2)) fun(v3:Bool×List Int)=>if v3.1=true then some (Sum.inl ((13:Int),IntKind.i64.wrap (s1.2.1+(1:Int)),v3.2)) else some (Sum.inl (List.getD v2 (Int.toNat s1.2.1) (0:Int),
 IntKind.i64.wrap (s1.2.1+(1:Int)),v3.2)) else none else none else some (Sum.inr s1.2.2)) (x.1,(0:Int),x.2)) fun(v1:List Int)=>some v1
theorem Lz.f119eq: ∀ x,zl Lz.C Lz.f119Γ Lz.f119sig Lz.f119ann Go.Proofs.Tryz.f119 x=Lz.f119F x:=by
 intro x
 kernel_rfl
noncomputable def Lz.f119con:Con:=⟨119,Lz.f119sig,Lz.f119F⟩
theorem Lz.f119ok:Con.Ok Go.Proofs.Tryz.prog Lz.C Lz.f119con:=
 zb (Γ:=Lz.f119Γ) (an:=Lz.f119ann) ⟨Lz.Cok,(List.forall_mem_cons.2 ⟨Lz.f47ok,(fun _ h=>nomatch h)⟩),Lz.mixed⟩ Go.Proofs.Tryz.func119 rfl rfl (fun x y h=>(Lz.f119eq x).trans h) (by decide)
def Lz.f145sig:Sig:=⟨⟨[.hole (.int .i64)], []⟩,⟨[.hole .bool], []⟩⟩
noncomputable def Lz.f145Γ:List Con:= [Lz.f77con,Lz.f76con]
def Lz.f145ann:Ann:=(.seq .leaf (.seq .leaf .leaf))
noncomputable def Lz.f145F:Int→Option (Bool):=fun(x:Int)=>Option.bind (Lz.f77F [(0:Int),(1:Int),(2:Int)]) fun v1=>Option.bind (Lz.f76F (x,v1)) fun v2=>some v2
theorem Lz.f145eq: ∀ x,zl Lz.C Lz.f145Γ Lz.f145sig Lz.f145ann Go.Proofs.Tryz.f145 x=Lz.f145F x:=by
 intro x
 kernel_rfl
noncomputable def Lz.f145con:Con:=⟨145,Lz.f145sig,Lz.f145F⟩
theorem Lz.f145ok:Con.Ok Go.Proofs.Tryz.prog Lz.C Lz.f145con:=
 zb (Γ:=Lz.f145Γ) (an:=Lz.f145ann) ⟨Lz.Cok,(List.forall_mem_cons.2 ⟨Lz.f77ok,(List.forall_mem_cons.2 ⟨Lz.f76ok,(fun _ h=>nomatch h)⟩)⟩),Lz.mixed⟩ Go.Proofs.Tryz.func145 rfl rfl (fun x y h=>(Lz.f145eq x).trans h) (by decide)
def Lz.f146sig:Sig:=⟨⟨[.hole (.int .i64), .hole (.int .i64), .ptr 0 0, .ptr 1 0, .ptr 2 0, .ptr 3 0], [.cells [.own 4], .cells [.hole (.int .i64)], .cells [.hole (.int .i64)], .cells [.hole (.int .i64)], .arr 3 (.int .i64)]⟩,⟨[],
 [.cells [.own 4], .cells [.hole (.int .i64)], .cells [.hole (.int .i64)], .cells [.hole (.int .i64)], .arr 3 (.int .i64)]⟩⟩
noncomputable def Lz.f146Γ:List Con:= []
def Lz.f146ann:Ann:=(.seq (.join [⟨.normal, [(18, .hole .bool)], [.cells [.own 4], .cells [.hole (.int .i64)], .cells [.hole (.int .i64)], .cells [.hole (.int .i64)], .arr 3 (.int .i64)]⟩] .leaf) (.cond .leaf .leaf))
noncomputable def Lz.f146F:Int×Int×Int×Int×Int×List Int→Option (Int×Int×Int×List Int):=fun(x:Int×Int×Int×Int×Int×List Int)=>Option.bind (if(0:Int)≤x.1∧x.1<(x.2.2.2.2.2.length:Int) then if
 (List.getD x.2.2.2.2.2 (Int.toNat x.1) (0:Int)==x.2.2.1)=true then some (x.2.1==x.2.2.2.1,x.2.2.1,x.2.2.2.1,x.2.2.2.2.1,x.2.2.2.2.2) else some (false,x.2.2.1,x.2.2.2.1,x.2.2.2.2.1,x.2.2.2.2.2) else none) fun(v1:Bool×Int
 ×Int×Int×List Int)=>if v1.1=true then if(0:Int)≤x.1∧x.1<(v1.2.2.2.2.length:Int) then some (v1.2.1,v1.2.2.1,v1.2.2.2.1,List.set v1.2.2.2.2 (Int.toNat x.1) v1.2.2.2.1) else none else some (v1.2.1,v1.2.2.1,v1.2.2.2.1,
 v1.2.2.2.2)
theorem Lz.f146eq: ∀ x,zl Lz.C Lz.f146Γ Lz.f146sig Lz.f146ann Go.Proofs.Tryz.f146 x=Lz.f146F x:=by
 intro x
 kernel_rfl
noncomputable def Lz.f146con:Con:=⟨146,Lz.f146sig,Lz.f146F⟩
theorem Lz.f146ok:Con.Ok Go.Proofs.Tryz.prog Lz.C Lz.f146con:=
 zb (Γ:=Lz.f146Γ) (an:=Lz.f146ann) ⟨Lz.Cok,(fun _ h=>nomatch h),Lz.mixed⟩ Go.Proofs.Tryz.func146 rfl rfl (fun x y h=>(Lz.f146eq x).trans h) (by decide)
def Lz.f144sig:Sig:=⟨⟨[.own 4, .hole (.int .i64), .fnc 145 0, .fnc 146 4, .ptr 0 0, .ptr 1 0, .ptr 2 0, .ptr 3 0], [.cells [.own 4], .cells [.hole (.int .i64)], .cells [.hole (.int .i64)], .cells [.hole (.int .i64)], .arr 3 (.int
 .i64)]⟩,⟨[], [.cells [.own 4], .cells [.hole (.int .i64)], .cells [.hole (.int .i64)], .cells [.hole (.int .i64)], .arr 3 (.int .i64)]⟩⟩
noncomputable def Lz.f144Γ:List Con:= [Lz.f145con,Lz.f146con]
def Lz.f144ann:Ann:=(.seq .leaf (.seq .leaf (.block (.loop ⟨.normal, [(8, .hole (.int .i64)),(14, .hole (.int .i64))], [.cells [.own 4], .cells [.hole (.int .i64)], .cells [.hole (.int .i64)], .cells [.hole (.int .i64)], .arr 3 (.int
 .i64)]⟩ [⟨(.exit 0), [], [.cells [.own 4], .cells [.hole (.int .i64)], .cells [.hole (.int .i64)], .cells [.hole (.int .i64)], .arr 3 (.int .i64)]⟩] (.seq .leaf (.seq (.cond .leaf .leaf) (.seq (.block (.seq .leaf (.seq .leaf (.seq .leaf
 (.cond .leaf .leaf))))) .leaf)))))))
noncomputable def Lz.f144F:Int×Int×Int×Int×List Int→Option (Int×Int×Int×List Int):=fun(x:Int×Int×Int×Int×List Int)=>Option.bind (iter (fun(s1:Int×Int×Int×Int×Int×List Int)=>if decide (s1.2.1<
 (x.2.2.2.2.length:Int))=true then if(0:Int)≤s1.2.1∧s1.2.1<(s1.2.2.2.2.2.length:Int) then Option.bind (Lz.f146F (s1.2.1,s1.1,s1.2.2.1,s1.2.2.2.1,s1.2.2.2.2.1,s1.2.2.2.2.2)) fun(v2:Int×Int×Int×List Int)=>
 Option.bind (Lz.f145F (List.getD s1.2.2.2.2.2 (Int.toNat s1.2.1) (0:Int))) fun v3=>if v3=true then some (Sum.inl (List.getD s1.2.2.2.2.2 (Int.toNat s1.2.1) (0:Int),IntKind.i64.wrap (s1.2.1+(1:Int)),v2.1,v2.2.1,v2.2.2.1,
 v2.2.2.2)) else some (Sum.inl (s1.1,IntKind.i64.wrap (s1.2.1+(1:Int)),v2.1,v2.2.1,v2.2.2.1,v2.2.2.2)) else none else some (Sum.inr (s1.2.2.1,s1.2.2.2.1,s1.2.2.2.2.1,s1.2.2.2.2.2))) (x.1,(0:Int),x.2.1,x.2.2.1,x.2.2.2.1,
 x.2.2.2.2)) fun(v1:Int×Int×Int×List Int)=>some (v1.1,v1.2.1,v1.2.2.1,v1.2.2.2)
theorem Lz.f144eq: ∀ x,zl Lz.C Lz.f144Γ Lz.f144sig Lz.f144ann Go.Proofs.Tryz.f144 x=Lz.f144F x:=by
 intro x
 kernel_rfl
noncomputable def Lz.f144con:Con:=⟨144,Lz.f144sig,Lz.f144F⟩
theorem Lz.f144ok:Con.Ok Go.Proofs.Tryz.prog Lz.C Lz.f144con:=
 zb (Γ:=Lz.f144Γ) (an:=Lz.f144ann) ⟨Lz.Cok,(List.forall_mem_cons.2 ⟨Lz.f145ok,(List.forall_mem_cons.2 ⟨Lz.f146ok,(fun _ h=>nomatch h)⟩)⟩),Lz.mixed⟩ Go.Proofs.Tryz.func144 rfl rfl (fun x y h=>(Lz.f144eq x).trans h) (by decide)
def Lz.f120sig:Sig:=⟨⟨[.own 0, .hole (.int .i64), .hole (.int .i64), .hole (.int .i64), .hole (.int .i64)], [.arr 3 (.int .i64)]⟩,⟨[], [.arr 3 (.int .i64)]⟩⟩
noncomputable def Lz.f120Γ:List Con:= [Lz.f144con,Lz.f145con]
def Lz.f120ann:Ann:=(.seq .leaf .leaf)
noncomputable def Lz.f120F:Int×Int×Int×Int×List Int→Option (List Int):=fun(x:Int×Int×Int×Int×List Int)=>Option.bind (Lz.f144F (x.1,x.2.1,x.2.2.2.1,x.2.2.1,x.2.2.2.2)) fun(v1:Int×Int×Int×List Int)=>
 some v1.2.2.2
theorem Lz.f120eq: ∀ x,zl Lz.C Lz.f120Γ Lz.f120sig Lz.f120ann Go.Proofs.Tryz.f120 x=Lz.f120F x:=by
 intro x
 kernel_rfl
noncomputable def Lz.f120con:Con:=⟨120,Lz.f120sig,Lz.f120F⟩
theorem Lz.f120ok:Con.Ok Go.Proofs.Tryz.prog Lz.C Lz.f120con:=
 zb (Γ:=Lz.f120Γ) (an:=Lz.f120ann) ⟨Lz.Cok,(List.forall_mem_cons.2 ⟨Lz.f144ok,(List.forall_mem_cons.2 ⟨Lz.f145ok,(fun _ h=>nomatch h)⟩)⟩),Lz.mixed⟩ Go.Proofs.Tryz.func120 rfl rfl (fun x y h=>(Lz.f120eq x).trans h) (by decide)
def Lz.f121sig:Sig:=⟨⟨[.own 0, .hole (.int .i64), .hole (.sl (.int .i64))], [.arr 3 (.int .i64)]⟩,⟨[], [.arr 3 (.int .i64)]⟩⟩
noncomputable def Lz.f121Γ:List Con:= []
def Lz.f121ann:Ann:=(.seq .leaf (.block (.loop ⟨.normal, [(12, .hole (.int .i64))], [.arr 3 (.int .i64)]⟩ [⟨(.exit 0), [], [.arr 3 (.int .i64)]⟩] (.seq .leaf (.seq (.cond .leaf .leaf) (.seq (.block (.seq .leaf (.seq .leaf (.block (.loop
 ⟨.normal, [(19, .hole (.int .i64))], [.arr 3 (.int .i64)]⟩ [⟨(.exit 2), [], [.arr 3 (.int .i64)]⟩] (.seq .leaf (.seq (.cond .leaf .leaf) (.seq (.block (.seq .leaf (.seq .leaf (.cond .leaf .leaf)))) .leaf)))))))) .leaf))))))
noncomputable def Lz.f121F:Int×List Int×List Int→Option (List Int):=fun(x:Int×List Int×List Int)=>Option.bind (iter (fun(s1:Int×List Int)=>if decide (s1.1<(x.2.2.length:Int))=true then if(0:Int)≤s1.1∧
 s1.1<(s1.2.length:Int) then Option.bind (iter (fun(s2:Int×List Int)=>if decide (s2.1<(x.2.1.length:Int))=true then if(0:Int)≤s2.1∧s2.1<(x.2.1.length:Int) then if(List.getD s1.2 (Int.toNat s1.1) (0:Int)==
 List.getD x.2.1 (Int.toNat s2.1) (0:Int))=true then if(0:Int)≤s1.1∧s1.1<(s2.2.length:Int) then some (Sum.inl (IntKind.i64.wrap (s2.1+(1:Int)),List.set s2.2 (Int.toNat s1.1) x.1)) else none else some (Sum.inl
 (IntKind.i64.wrap (s2.1+(1:Int)),s2.2)) else none else some (Sum.inr s2.2)) ((0:Int),s1.2)) fun(v2:List Int)=>some (Sum.inl (IntKind.i64.wrap (s1.1+(1:Int)),v2)) else none else some (Sum.inr s1.2)) ((0:Int),x.2.2)) fun
 (v1:List Int)=>some v1
theorem Lz.f121eq: ∀ x,zl Lz.C Lz.f121Γ Lz.f121sig Lz.f121ann Go.Proofs.Tryz.f121 x=Lz.f121F x:=by
 intro x
 kernel_rfl
noncomputable def Lz.f121con:Con:=⟨121,Lz.f121sig,Lz.f121F⟩
theorem Lz.f121ok:Con.Ok Go.Proofs.Tryz.prog Lz.C Lz.f121con:=
 zb (Γ:=Lz.f121Γ) (an:=Lz.f121ann) ⟨Lz.Cok,(fun _ h=>nomatch h),Lz.mixed⟩ Go.Proofs.Tryz.func121 rfl rfl (fun x y h=>(Lz.f121eq x).trans h) (by decide)
def Lz.f122sig:Sig:=⟨⟨[.own 0], [.arr 3 (.int .i64)]⟩,⟨[], [.arr 3 (.int .i64)]⟩⟩
noncomputable def Lz.f122Γ:List Con:= []
def Lz.f122ann:Ann:=(.seq .leaf (.block (.loop ⟨.normal, [(2, .hole (.int .i64))], [.arr 3 (.int .i64)]⟩ [⟨(.exit 0), [], [.arr 3 (.int .i64)]⟩] (.seq (.seq .leaf (.cond .leaf .leaf)) (.seq (.block (.seq .leaf (.seq (.join [⟨.normal,
 [(49, .hole .bool)], [.arr 3 (.int .i64)]⟩] .leaf) (.cond .leaf .leaf)))) .leaf)))))
noncomputable def Lz.f122F:List Int→Option (List Int):=fun(x:List Int)=>Option.bind (iter (fun(s1:Int×List Int)=>if decide (IntKind.i64.wrap (s1.1+(1:Int))<(s1.2.length:Int))=true then if(0:Int)≤
 IntKind.i64.wrap (s1.1 - (1:Int))∧IntKind.i64.wrap (s1.1 - (1:Int))<(s1.2.length:Int) then if(0:Int)≤s1.1∧s1.1<(s1.2.length:Int) then if(0:Int)≤IntKind.i64.wrap (s1.1+(1:Int))∧IntKind.i64.wrap (s1.1+(1:
 Int))<(s1.2.length:Int) then Option.bind (if(List.getD s1.2 (Int.toNat (IntKind.i64.wrap (s1.1 - (1:Int)))) (0:Int)==List.getD s1.2 (Int.toNat (IntKind.i64.wrap (s1.1+(1:Int)))) (0:Int))=true then if(List.getD s1.2
 (Int.toNat (IntKind.i64.wrap (s1.1 - (1:Int)))) (0:Int)==(3:Int))=true then if(List.getD s1.2 (Int.toNat s1.1) (0:Int)==(4:Int))=true then some (true,s1.2) else if(List.getD s1.2 (Int.toNat s1.1) (0:Int)==(7:Int))
 =true then some (true,s1.2) else if(List.getD s1.2 (Int.toNat (IntKind.i64.wrap (s1.1 - (1:Int)))) (0:Int)==(6:Int))=true then some (List.getD s1.2 (Int.toNat s1.1) (0:Int)==(7:Int),s1.2) else some (false,s1.2) else if
 (List.getD s1.2 (Int.toNat (IntKind.i64.wrap (s1.1 - (1:Int)))) (0:Int)==(6:Int))=true then some (List.getD s1.2 (Int.toNat s1.1) (0:Int)==(7:Int),s1.2) else some (false,s1.2) else some (false,s1.2)) fun(v2:Bool×List
 Int)=>if v2.1=true then if(0:Int)≤s1.1∧s1.1<(v2.2.length:Int) then some (Sum.inl (IntKind.i64.wrap (s1.1+(1:Int)),List.set v2.2 (Int.toNat s1.1) (List.getD s1.2 (Int.toNat (IntKind.i64.wrap (s1.1 - (1:Int)))) (0:
 Int)))) else none else some (Sum.inl (IntKind.i64.wrap (s1.1+(1:Int)),v2.2)) else none else none else none else some (Sum.inr s1.2)) ((1:Int),x)) fun(v1:List Int)=>some v1
theorem Lz.f122eq: ∀ x,zl Lz.C Lz.f122Γ Lz.f122sig Lz.f122ann Go.Proofs.Tryz.f122 x=Lz.f122F x:=by
 intro x
 kernel_rfl
noncomputable def Lz.f122con:Con:=⟨122,Lz.f122sig,Lz.f122F⟩
theorem Lz.f122ok:Con.Ok Go.Proofs.Tryz.prog Lz.C Lz.f122con:=
 zb (Γ:=Lz.f122Γ) (an:=Lz.f122ann) ⟨Lz.Cok,(fun _ h=>nomatch h),Lz.mixed⟩ Go.Proofs.Tryz.func122 rfl rfl (fun x y h=>(Lz.f122eq x).trans h) (by decide)
def Lz.f123sig:Sig:=⟨⟨[.own 0], [.arr 3 (.int .i64)]⟩,⟨[], [.arr 3 (.int .i64)]⟩⟩
noncomputable def Lz.f123Γ:List Con:= []
def Lz.f123ann:Ann:=(.block (.seq .leaf (.seq .leaf (.block (.loop ⟨.normal, [(2, .hole (.int .i64))], [.arr 3 (.int .i64)]⟩ [⟨(.exit 0), [], [.arr 3 (.int .i64)]⟩] (.seq (.seq .leaf (.cond .leaf .leaf)) (.block (.seq (.seq .leaf (.cond
 (.seq .leaf .leaf) .leaf)) (.seq .leaf (.seq (.block (.loop ⟨.normal, [(3, .hole (.int .i64))], [.arr 3 (.int .i64)]⟩ [⟨(.exit 2), [(3, .hole (.int .i64))], [.arr 3 (.int .i64)]⟩] (.seq (.seq (.join [⟨.normal, [(27, .hole .bool)], [.arr 3
 (.int .i64)]⟩] .leaf) (.cond .leaf .leaf)) (.block .leaf)))) (.seq (.join [⟨.normal, [(4, .hole .bool)], [.arr 3 (.int .i64)]⟩] .leaf) (.block (.loop ⟨.normal, [(2, .hole (.int .i64))], [.arr 3 (.int .i64)]⟩ [⟨(.exit 4), [(2, .hole (.int
 .i64))], [.arr 3 (.int .i64)]⟩,⟨(.exit 1), [(2, .hole (.int .i64))], [.arr 3 (.int .i64)]⟩] (.seq (.seq .leaf (.cond .leaf .leaf)) (.seq (.block (.seq (.seq .leaf (.cond (.seq .leaf .leaf) .leaf)) .leaf)) .leaf)))))))))))))))
noncomputable def Lz.f123F:List Int→Option (List Int):=fun(x:List Int)=>Option.bind (iter (fun(s1:Int×List Int)=>if decide (s1.1<(s1.2.length:Int))=true then if(0:Int)≤s1.1∧s1.1<(s1.2.length:Int) then if
 (List.getD s1.2 (Int.toNat s1.1) (0:Int)!=(5:Int))=true then some (Sum.inl (IntKind.i64.wrap (s1.1+(1:Int)),s1.2)) else Option.bind (iter (fun(s2:Int×List Int)=>Option.bind (if decide (s2.1<(s2.2.length:Int))=true
 then if(0:Int)≤s2.1∧s2.1<(s2.2.length:Int) then some (List.getD s2.2 (Int.toNat s2.1) (0:Int)==(5:Int),s2.2) else none else some (false,s2.2)) fun(v3:Bool×List Int)=>if v3.1=true then some (Sum.inl
 (IntKind.i64.wrap (s2.1+(1:Int)),v3.2)) else some (Sum.inr (s2.1,v3.2))) (s1.1,s1.2)) fun(v2:Int×List Int)=>Option.bind (if decide (s1.1 > (0:Int))=true then if(0:Int)≤IntKind.i64.wrap (s1.1 - (1:Int))∧
 IntKind.i64.wrap (s1.1 - (1:Int))<(v2.2.length:Int) then if(List.getD v2.2 (Int.toNat (IntKind.i64.wrap (s1.1 - (1:Int)))) (0:Int)==(3:Int))=true then some (true,v2.2) else if decide (v2.1<(v2.2.length:Int))=true
 then if(0:Int)≤v2.1∧v2.1<(v2.2.length:Int) then some (List.getD v2.2 (Int.toNat v2.1) (0:Int)==(3:Int),v2.2) else none else some (false,v2.2) else none else if decide (v2.1<(v2.2.length:Int))=true then if(0:Int)
 ≤v2.1∧v2.1<(v2.2.length:Int) then some (List.getD v2.2 (Int.toNat v2.1) (0:Int)==(3:Int),v2.2) else none else some (false,v2.2)) fun(v3:Bool×List Int)=>Option.bind (iter (fun(s4:Int×List Int)=>if decide (s4.1<
 v2.1)=true then if(!v3.1)=true then some (Sum.inr (Sum.inr (v2.1,s4.2))) else if(0:Int)≤s4.1∧s4.1<(s4.2.length:Int) then some (Sum.inl (IntKind.i64.wrap (s4.1+(1:Int)),List.set s4.2 (Int.toNat s4.1) (3:Int))) else
 none else some (Sum.inr (Sum.inl (s4.1,s4.2)))) (s1.1,v3.2)) fun(v4:Int×List Int ⊕ Int×List Int)=>Sum.elim (fun(p5:Int×List Int)=>some (Sum.inl (p5.1,p5.2))) (fun(q5:Int×List Int)=>some (Sum.inl (q5.1,q5.2))) v4
 else none else some (Sum.inr s1.2)) ((0:Int),x)) fun(v1:List Int)=>some v1
theorem Lz.f123eq: ∀ x,zl Lz.C Lz.f123Γ Lz.f123sig Lz.f123ann Go.Proofs.Tryz.f123 x=Lz.f123F x:=by
 intro x
 kernel_rfl
noncomputable def Lz.f123con:Con:=⟨123,Lz.f123sig,Lz.f123F⟩
theorem Lz.f123ok:Con.Ok Go.Proofs.Tryz.prog Lz.C Lz.f123con:=
 zb (Γ:=Lz.f123Γ) (an:=Lz.f123ann) ⟨Lz.Cok,(fun _ h=>nomatch h),Lz.mixed⟩ Go.Proofs.Tryz.func123 rfl rfl (fun x y h=>(Lz.f123eq x).trans h) (by decide)
def Lz.f81sig:Sig:=⟨⟨[.own 0, .hole (.int .i64), .hole (.int .i64)], [.arr 3 (.int .i64)]⟩,⟨[], [.arr 3 (.int .i64)]⟩⟩
noncomputable def Lz.f81Γ:List Con:= [Lz.f119con,Lz.f120con,Lz.f121con,Lz.f122con,Lz.f123con]
def Lz.f81ann:Ann:=(.seq .leaf (.block (.seq .leaf (.cond .leaf (.seq .leaf (.cond .leaf (.seq .leaf (.cond .leaf (.seq .leaf (.cond .leaf (.seq .leaf (.cond .leaf (.seq .leaf (.cond .leaf (.seq .leaf (.cond .leaf .leaf))))))))))))))))
noncomputable def Lz.f81F:Int×Int×List Int→Option (List Int):=fun(x:Int×Int×List Int)=>if(x.2.1==(1:Int))=true then Option.bind (Lz.f119F (x.1,x.2.2)) fun(v1:List Int)=>some v1 else if(x.2.1==(2:Int))=
 true then Option.bind (Lz.f120F (x.1,(3:Int),(6:Int),(2:Int),x.2.2)) fun(v1:List Int)=>some v1 else if(x.2.1==(3:Int))=true then Option.bind (Lz.f121F ((1:Int), [(2:Int)],x.2.2)) fun(v1:List Int)=>some v1
 else if(x.2.1==(4:Int))=true then Option.bind (Lz.f122F x.2.2) fun(v1:List Int)=>some v1 else if(x.2.1==(5:Int))=true then Option.bind (Lz.f123F x.2.2) fun(v1:List Int)=>some v1 else if(x.2.1==(6:Int))=true
 then Option.bind (Lz.f121F ((13:Int), [(4:Int),(5:Int),(7:Int)],x.2.2)) fun(v1:List Int)=>some v1 else if(x.2.1==(7:Int))=true then Option.bind (Lz.f120F (x.1,(3:Int),(0:Int),(0:Int),x.2.2)) fun(v1:List
 Int)=>some v1 else some x.2.2
theorem Lz.f81eq: ∀ x,zl Lz.C Lz.f81Γ Lz.f81sig Lz.f81ann Go.Proofs.Tryz.f81 x=Lz.f81F x:=by
 intro x
 kernel_rfl
noncomputable def Lz.f81con:Con:=⟨81,Lz.f81sig,Lz.f81F⟩
theorem Lz.f81ok:Con.Ok Go.Proofs.Tryz.prog Lz.C Lz.f81con:=
 zb (Γ:=Lz.f81Γ) (an:=Lz.f81ann) ⟨Lz.Cok,(List.forall_mem_cons.2 ⟨Lz.f119ok,(List.forall_mem_cons.2 ⟨Lz.f120ok,(List.forall_mem_cons.2 ⟨Lz.f121ok,(List.forall_mem_cons.2 ⟨Lz.f122ok,(List.forall_mem_cons.2 ⟨Lz.f123ok,(fun _ h=>nomatch h)⟩)⟩)⟩)⟩)⟩),Lz.mixed⟩ Go.Proofs.Tryz.func81 rfl rfl (fun x y h=>(Lz.f81eq x).trans h) (by decide)
def Lz.f50sig:Sig:=⟨⟨[.hole (.sl (.int .i64)), .hole (.int .i64)], []⟩,⟨[.hole (.sl (.int .i64))], []⟩⟩
noncomputable def Lz.f50Γ:List Con:= [Lz.f80con,Lz.f82con,Lz.f81con]
def Lz.f50ann:Ann:=(.seq .leaf (.seq .leaf (.seq (.seq .leaf (.block (.loop ⟨.normal, [(9, .hole (.int .i64))], [.arr 3 (.int .i64)]⟩ [⟨(.exit 0), [], [.arr 3 (.int .i64)]⟩] (.seq .leaf (.seq (.cond .leaf .leaf) (.seq (.block (.seq
 .leaf .leaf)) .leaf)))))) (.seq .leaf .leaf))))
noncomputable def Lz.f50F:List Int×Int→Option (List Int):=fun(x:List Int×Int)=>Option.bind (Lz.f80F x.1) fun(v1:List Int)=>Option.bind (iter (fun(s2:Int×List Int)=>if decide (s2.1<(7:Int))=true then
 Option.bind (Lz.f82F x.2) fun v3=>Option.bind (Lz.f81F (v3,IntKind.i64.wrap (s2.1+(1:Int)),s2.2)) fun(v4:List Int)=>some (Sum.inl (IntKind.i64.wrap (s2.1+(1:Int)),v4)) else some (Sum.inr s2.2)) ((0:Int),v1)) fun(v2:
 List Int)=>some v2
theorem Lz.f50eq: ∀ x,zl Lz.C Lz.f50Γ Lz.f50sig Lz.f50ann Go.Proofs.Tryz.f50 x=Lz.f50F x:=by
 intro x
 kernel_rfl
noncomputable def Lz.f50con:Con:=⟨50,Lz.f50sig,Lz.f50F⟩
theorem Lz.f50ok:Con.Ok Go.Proofs.Tryz.prog Lz.C Lz.f50con:=
 zb (Γ:=Lz.f50Γ) (an:=Lz.f50ann) ⟨Lz.Cok,(List.forall_mem_cons.2 ⟨Lz.f80ok,(List.forall_mem_cons.2 ⟨Lz.f82ok,(List.forall_mem_cons.2 ⟨Lz.f81ok,(fun _ h=>nomatch h)⟩)⟩)⟩),Lz.mixed⟩ Go.Proofs.Tryz.func50 rfl rfl (fun x y h=>(Lz.f50eq x).trans h) (by decide)
def Lz.f24sig:Sig:=⟨⟨[.hole (.sl (.int .i64))], []⟩,⟨[.own 0], [.arr 3 (.int .i64)]⟩⟩
noncomputable def Lz.f24Γ:List Con:= []
def Lz.f24ann:Ann:=(.seq .leaf (.seq (.seq .leaf (.cond (.seq .leaf .leaf) .leaf)) (.seq .leaf .leaf)))
noncomputable def Lz.f24F:List Int→Option (List Int):=fun(x:List Int)=>if Nat.beq (List.length x) (0:Nat)=true then agree (some []) (if zj ((0:Nat)+List.length x) (8:Nat) then some ([]++x) else none) else if
 zj ((0:Nat)+List.length x) (8:Nat) then some ([]++x) else none
theorem Lz.f24eq: ∀ x,zl Lz.C Lz.f24Γ Lz.f24sig Lz.f24ann Go.Proofs.Tryz.f24 x=Lz.f24F x:=by
 intro x
 kernel_rfl
noncomputable def Lz.f24con:Con:=⟨24,Lz.f24sig,Lz.f24F⟩
theorem Lz.f24ok:Con.Ok Go.Proofs.Tryz.prog Lz.C Lz.f24con:=
 zb (Γ:=Lz.f24Γ) (an:=Lz.f24ann) ⟨Lz.Cok,(fun _ h=>nomatch h),Lz.mixed⟩ Go.Proofs.Tryz.func24 rfl rfl (fun x y h=>(Lz.f24eq x).trans h) (by decide)
def Lz.f148sig:Sig:=⟨⟨[.hole (.int .i64)], []⟩,⟨[.hole (.int .i64)], []⟩⟩
noncomputable def Lz.f148Γ:List Con:= []
def Lz.f148ann:Ann:=(.seq .leaf (.seq (.seq (.join [⟨.normal, [(8, .hole .bool)], []⟩] .leaf) (.cond (.seq .leaf .leaf) .leaf)) (.seq .leaf .leaf)))
noncomputable def Lz.f148F:Int→Option (Int):=fun(x:Int)=>Option.bind (if(x==(9001:Int))=true then some true else some (x==(9002:Int))) fun v1=>if v1=true then some (IntKind.i64.wrap (IntKind.i64.wrap (x - (9001:
 Int))+(12296:Int))) else some x
theorem Lz.f148eq: ∀ x,zl Lz.C Lz.f148Γ Lz.f148sig Lz.f148ann Go.Proofs.Tryz.f148 x=Lz.f148F x:=by
 intro x
 kernel_rfl
noncomputable def Lz.f148con:Con:=⟨148,Lz.f148sig,Lz.f148F⟩
theorem Lz.f148ok:Con.Ok Go.Proofs.Tryz.prog Lz.C Lz.f148con:=
 zb (Γ:=Lz.f148Γ) (an:=Lz.f148ann) ⟨Lz.Cok,(fun _ h=>nomatch h),Lz.mixed⟩ Go.Proofs.Tryz.func148 rfl rfl (fun x y h=>(Lz.f148eq x).trans h) (by decide)
def Lz.f125sig:Sig:=⟨⟨[.hole (.int .i64), .hole (.int .i64)], []⟩,⟨[.hole .bool], []⟩⟩
noncomputable def Lz.f125Γ:List Con:= [Lz.other,Lz.f148con]
def Lz.f125ann:Ann:=(.seq .leaf (.seq .leaf (.seq .leaf (.seq .leaf .leaf))))
noncomputable def Lz.f125F:Int×Int→Option (Bool):=fun(x:Int×Int)=>Option.bind (Lz.otherF x.1) fun v1=>Option.bind (Lz.otherF x.2) fun v2=>if v1.2.2=true then if v2.2.2=true then Option.bind (Lz.f148F x.1) fun v3=>
 Option.bind (Lz.f148F x.2) fun v4=>some (v3==v4) else some false else some false
theorem Lz.f125eq: ∀ x,zl Lz.C Lz.f125Γ Lz.f125sig Lz.f125ann Go.Proofs.Tryz.f125 x=Lz.f125F x:=by
 intro x
 kernel_rfl
noncomputable def Lz.f125con:Con:=⟨125,Lz.f125sig,Lz.f125F⟩
theorem Lz.f125ok:Con.Ok Go.Proofs.Tryz.prog Lz.C Lz.f125con:=
 zb (Γ:=Lz.f125Γ) (an:=Lz.f125ann) ⟨Lz.Cok,(List.forall_mem_cons.2 ⟨Lz.otherok,(List.forall_mem_cons.2 ⟨Lz.f148ok,(fun _ h=>nomatch h)⟩)⟩),Lz.mixed⟩ Go.Proofs.Tryz.func125 rfl rfl (fun x y h=>(Lz.f125eq x).trans h) (by decide)
def Lz.f159sig:Sig:=⟨⟨[.hole (.int .u32)], []⟩,⟨[.hole (.int .i64)], []⟩⟩
noncomputable def Lz.f159Γ:List Con:= []
def Lz.f159ann:Ann:=(.seq .leaf (.seq (.join [⟨.normal, [(0, .hole (.int .u32)),(2, .hole (.int .i64))], []⟩] (.seq .leaf (.cond (.seq .leaf .leaf) .leaf))) (.seq (.join [⟨.normal, [(0, .hole (.int .u32)),(2, .hole (.int .i64))], []⟩]
 (.seq .leaf (.cond (.seq .leaf .leaf) .leaf))) (.seq .leaf .leaf))))
noncomputable def Lz.f159F:Int→Option (Int):=fun(x:Int)=>Option.bind (if decide (x≥(65536:Int))=true then some (Int.fdiv x ((2:Int) ^ Min.min (Int.toNat (16:Int)) (IntKind.bits IntKind.u32)),(16:Int)) else some (x,
 (0:Int))) fun v1=>Option.bind (if decide (v1.1≥(256:Int))=true then some (Int.fdiv v1.1 ((2:Int) ^ Min.min (Int.toNat (8:Int)) (IntKind.bits IntKind.u32)),IntKind.i64.wrap (v1.2+(8:Int))) else some (v1.1,v1.2)) fun v2=>
 if(0:Int)≤IntKind.wrap IntKind.u8 v2.1∧IntKind.wrap IntKind.u8 v2.1<(↑(ByteArray.size { data:=List.toArray (List.append (List.append [(0:UInt8),(1:UInt8),(2:UInt8),(2:UInt8),(3:UInt8),(3:UInt8),(3:UInt8),(3:
 UInt8),(4:UInt8),(4:UInt8),(4:UInt8),(4:UInt8),(4:UInt8),(4:UInt8),(4:UInt8),(4:UInt8),(5:UInt8),(5:UInt8),(5:UInt8),(5:UInt8),(5:UInt8),(5:UInt8),(5:UInt8),(5:UInt8),(5:UInt8),(5:
 UInt8),(5:UInt8),(5:UInt8),(5:UInt8),(5:UInt8),(5:UInt8),(5:UInt8),(6:UInt8),(6:UInt8),(6:UInt8),(6:UInt8),(6:UInt8),(6:UInt8),(6:UInt8),(6:UInt8),(6:UInt8),(6:UInt8),(6:UInt8),(6:
 UInt8),(6:UInt8),(6:UInt8),(6:UInt8),(6:UInt8),(6:UInt8),(6:UInt8),(6:UInt8),(6:UInt8),(6:UInt8),(6:UInt8),(6:UInt8),(6:UInt8),(6:UInt8),(6:UInt8),(6:UInt8),(6:UInt8),(6:UInt8),(6:
 UInt8),(6:UInt8),(6:UInt8)] [(7:UInt8),(7:UInt8),(7:UInt8),(7:UInt8),(7:UInt8),(7:UInt8),(7:UInt8),(7:UInt8),(7:UInt8),(7:UInt8),(7:UInt8),(7:UInt8),(7:UInt8),(7:UInt8),(7:UInt8),(7:
 UInt8),(7:UInt8),(7:UInt8),(7:UInt8),(7:UInt8),(7:UInt8),(7:UInt8),(7:UInt8),(7:UInt8),(7:UInt8),(7:UInt8),(7:UInt8),(7:UInt8),(7:UInt8),(7:UInt8),(7:UInt8),(7:UInt8),(7:UInt8),(7:
 UInt8),(7:UInt8),(7:UInt8),(7:UInt8),(7:UInt8),(7:UInt8),(7:UInt8),(7:UInt8),(7:UInt8),(7:UInt8),(7:UInt8),(7:UInt8),(7:UInt8),(7:UInt8),(7:UInt8),(7:UInt8),(7:UInt8),(7:UInt8),(7:
 UInt8),(7:UInt8),(7:UInt8),(7:UInt8),(7:UInt8),(7:UInt8),(7:UInt8),(7:UInt8),(7:UInt8),(7:UInt8),(7:UInt8),(7:UInt8),(7:UInt8)]) (List.append [(8:UInt8),(8:UInt8),(8:UInt8),(8:UInt8),(8:
 UInt8),(8:UInt8),(8:UInt8),(8:UInt8),(8:UInt8),(8:UInt8),(8:UInt8),(8:UInt8),(8:UInt8),(8:UInt8),(8:UInt8),(8:UInt8),(8:UInt8),(8:UInt8),(8:UInt8),(8:UInt8),(8:UInt8),(8:UInt8),(8:
 UInt8),(8:UInt8),(8:UInt8),(8:UInt8),(8:UInt8),(8:UInt8),(8:UInt8),(8:UInt8),(8:UInt8),(8:UInt8),(8:UInt8),(8:UInt8),(8:UInt8),(8:UInt8),(8:UInt8),(8:UInt8),(8:UInt8),(8:UInt8),(8:
 UInt8),(8:UInt8),(8:UInt8),(8:UInt8),(8:UInt8),(8:UInt8),(8:UInt8),(8:UInt8),(8:UInt8),(8:UInt8),(8:UInt8),(8:UInt8),(8:UInt8),(8:UInt8),(8:UInt8),(8:UInt8),(8:UInt8),(8:UInt8),(8:
 UInt8),(8:UInt8),(8:UInt8),(8:UInt8),(8:UInt8),(8:UInt8)] [(8:UInt8),(8:UInt8),(8:UInt8),(8:UInt8),(8:UInt8),(8:UInt8),(8:UInt8),(8:UInt8),(8:UInt8),(8:UInt8),(8:UInt8),(8:UInt8),(8:
 UInt8),(8:UInt8),(8:UInt8),(8:UInt8),(8:UInt8),(8:UInt8),(8:UInt8),(8:UInt8),(8:UInt8),(8:UInt8),(8:UInt8),(8:UInt8),(8:UInt8),(8:UInt8),(8:UInt8),(8:UInt8),(8:UInt8),(8:UInt8),(8:
 UInt8),(8:UInt8),(8:UInt8),(8:UInt8),(8:UInt8),(8:UInt8),(8:UInt8),(8:UInt8),(8:UInt8),(8:UInt8),(8:UInt8),(8:UInt8),(8:UInt8),(8:UInt8),(8:UInt8),(8:UInt8),(8:UInt8),(8:UInt8),(8:
 UInt8),(8:UInt8),(8:UInt8),(8:UInt8),(8:UInt8),(8:UInt8),(8:UInt8),(8:UInt8),(8:UInt8),(8:UInt8),(8:UInt8),(8:UInt8),(8:UInt8),(8:UInt8),(8:UInt8),(8:UInt8)])):ByteArray}):Int) then some
 (IntKind.i64.wrap (v2.2+IntKind.i64.wrap (↑(UInt8.toNat (List.getD { data:=List.toArray (List.append (List.append [(0:UInt8),(1:UInt8),(2:UInt8),(2:UInt8),(3:UInt8),(3:UInt8),(3:UInt8),(3:UInt8),(4:UInt8),(4:
 UInt8),(4:UInt8),(4:UInt8),(4:UInt8),(4:UInt8),(4:UInt8),(4:UInt8),(5:UInt8),(5:UInt8),(5:UInt8),(5:UInt8),(5:UInt8),(5:UInt8),(5:UInt8),(5:UInt8),(5:UInt8),(5:UInt8),(5:UInt8),(5:
 UInt8),(5:UInt8),(5:UInt8),(5:UInt8),(5:UInt8),(6:UInt8),(6:UInt8),(6:UInt8),(6:UInt8),(6:UInt8),(6:UInt8),(6:UInt8),(6:UInt8),(6:UInt8),(6:UInt8),(6:UInt8),(6:UInt8),(6:UInt8),(6:
 UInt8),(6:UInt8),(6:UInt8),(6:UInt8),(6:UInt8),(6:UInt8),(6:UInt8),(6:UInt8),(6:UInt8),(6:UInt8),(6:UInt8),(6:UInt8),(6:UInt8),(6:UInt8),(6:UInt8),(6:UInt8),(6:UInt8),(6:UInt8),(6:
 UInt8)] [(7:UInt8),(7:UInt8),(7:UInt8),(7:UInt8),(7:UInt8),(7:UInt8),(7:UInt8),(7:UInt8),(7:UInt8),(7:UInt8),(7:UInt8),(7:UInt8),(7:UInt8),(7:UInt8),(7:UInt8),(7:UInt8),(7:UInt8),(7:
 UInt8),(7:UInt8),(7:UInt8),(7:UInt8),(7:UInt8),(7:UInt8),(7:UInt8),(7:UInt8),(7:UInt8),(7:UInt8),(7:UInt8),(7:UInt8),(7:UInt8),(7:UInt8),(7:UInt8),(7:UInt8),(7:UInt8),(7:UInt8),(7:
 UInt8),(7:UInt8),(7:UInt8),(7:UInt8),(7:UInt8),(7:UInt8),(7:UInt8),(7:UInt8),(7:UInt8),(7:UInt8),(7:UInt8),(7:UInt8),(7:UInt8),(7:UInt8),(7:UInt8),(7:UInt8),(7:UInt8),(7:UInt8),(7:
 UInt8),(7:UInt8),(7:UInt8),(7:UInt8),(7:UInt8),(7:UInt8),(7:UInt8),(7:UInt8),(7:UInt8),(7:UInt8),(7:UInt8)]) (List.append [(8:UInt8),(8:UInt8),(8:UInt8),(8:UInt8),(8:UInt8),(8:UInt8),(8:
 UInt8),(8:UInt8),(8:UInt8),(8:UInt8),(8:UInt8),(8:UInt8),(8:UInt8),(8:UInt8),(8:UInt8),(8:UInt8),(8:UInt8),(8:UInt8),(8:UInt8),(8:UInt8),(8:UInt8),(8:UInt8),(8:UInt8),(8:UInt8),(8:
 UInt8),(8:UInt8),(8:UInt8),(8:UInt8),(8:UInt8),(8:UInt8),(8:UInt8),(8:UInt8),(8:UInt8),(8:UInt8),(8:UInt8),(8:UInt8),(8:UInt8),(8:UInt8),(8:UInt8),(8:UInt8),(8:UInt8),(8:UInt8),(8:
 UInt8),(8:UInt8),(8:UInt8),(8:UInt8),(8:UInt8),(8:UInt8),(8:UInt8),(8:UInt8),(8:UInt8),(8:UInt8),(8:UInt8),(8:UInt8),(8:UInt8),(8:UInt8),(8:UInt8),(8:UInt8),(8:UInt8),(8:UInt8),(8:
 UInt8),(8:UInt8),(8:UInt8),(8:UInt8)] [(8:UInt8),(8:UInt8),(8:UInt8),(8:UInt8),(8:UInt8),(8:UInt8),(8:UInt8),(8:UInt8),(8:UInt8),(8:UInt8),(8:UInt8),(8:UInt8),(8:UInt8),(8:UInt8),(8:
 UInt8),(8:UInt8),(8:UInt8),(8:UInt8),(8:UInt8),(8:UInt8),(8:UInt8),(8:UInt8),(8:UInt8),(8:UInt8),(8:UInt8),(8:UInt8),(8:UInt8),(8:UInt8),(8:UInt8),(8:UInt8),(8:UInt8),(8:UInt8),(8:
 UInt8),(8:UInt8),(8:UInt8),(8:UInt8),(8:UInt8),(8:UInt8),(8:UInt8),(8:UInt8),(8:UInt8),(8:UInt8),(8:UInt8),(8:UInt8),(8:UInt8),(8:UInt8),(8:UInt8),(8:UInt8),(8:UInt8),(8:UInt8),(8:
 UInt8),(8:UInt8),(8:UInt8),(8:UInt8),(8:UInt8),(8:UInt8),(8:UInt8),(8:UInt8),(8:UInt8),(8:UInt8),(8:UInt8),(8:UInt8),(8:UInt8),(8:UInt8)])):ByteArray}.data.toList (Int.toNat (IntKind.wrap IntKind.u8
 v2.1)) (0:UInt8))):Int))) else none
theorem Lz.f159eq: ∀ x,zl Lz.C Lz.f159Γ Lz.f159sig Lz.f159ann Go.Proofs.Tryz.f159 x=Lz.f159F x:=by
 intro x
 kernel_rfl
noncomputable def Lz.f159con:Con:=⟨159,Lz.f159sig,Lz.f159F⟩
theorem Lz.f159ok:Con.Ok Go.Proofs.Tryz.prog Lz.C Lz.f159con:=
 zb (Γ:=Lz.f159Γ) (an:=Lz.f159ann) ⟨Lz.Cok,(fun _ h=>nomatch h),Lz.mixed⟩ Go.Proofs.Tryz.func159 rfl rfl (fun x y h=>(Lz.f159eq x).trans h) (by decide)
def Lz.f160sig:Sig:=⟨⟨[.hole (.int .u64)], []⟩,⟨[.hole (.int .i64)], []⟩⟩
noncomputable def Lz.f160Γ:List Con:= []
def Lz.f160ann:Ann:=(.seq .leaf (.seq (.join [⟨.normal, [(0, .hole (.int .u64)),(2, .hole (.int .i64))], []⟩] (.seq .leaf (.cond (.seq .leaf .leaf) .leaf))) (.seq (.join [⟨.normal, [(0, .hole (.int .u64)),(2, .hole (.int .i64))], []⟩]
 (.seq .leaf (.cond (.seq .leaf .leaf) .leaf))) (.seq (.join [⟨.normal, [(0, .hole (.int .u64)),(2, .hole (.int .i64))], []⟩] (.seq .leaf (.cond (.seq .leaf .leaf) .leaf))) (.seq .leaf .leaf)))))
noncomputable def Lz.f160F:Int→Option (Int):=fun(x:Int)=>Option.bind (if decide (x≥(4294967296:Int))=true then some (Int.fdiv x ((2:Int) ^ Min.min (Int.toNat (32:Int)) (IntKind.bits IntKind.u64)),(32:Int)) else some
 (x,(0:Int))) fun v1=>Option.bind (if decide (v1.1≥(65536:Int))=true then some (Int.fdiv v1.1 ((2:Int) ^ Min.min (Int.toNat (16:Int)) (IntKind.bits IntKind.u64)),IntKind.i64.wrap (v1.2+(16:Int))) else some (v1.1,v1.2))
 fun v2=>Option.bind (if decide (v2.1≥(256:Int))=true then some (Int.fdiv v2.1 ((2:Int) ^ Min.min (Int.toNat (8:Int)) (IntKind.bits IntKind.u64)),IntKind.i64.wrap (v2.2+(8:Int))) else some (v2.1,v2.2)) fun v3=>if(0:
 Int)≤IntKind.wrap IntKind.u8 v3.1∧IntKind.wrap IntKind.u8 v3.1<(↑(ByteArray.size { data:=List.toArray (List.append (List.append [(0:UInt8),(1:UInt8),(2:UInt8),(2:UInt8),(3:UInt8),(3:UInt8),(3:UInt8),(3:UInt8),
 (4:UInt8),(4:UInt8),(4:UInt8),(4:UInt8),(4:UInt8),(4:UInt8),(4:UInt8),(4:UInt8),(5:UInt8),(5:UInt8),(5:UInt8),(5:UInt8),(5:UInt8),(5:UInt8),(5:UInt8),(5:UInt8),(5:UInt8),(5:UInt8),(5:
 UInt8),(5:UInt8),(5:UInt8),(5:UInt8),(5:UInt8),(5:UInt8),(6:UInt8),(6:UInt8),(6:UInt8),(6:UInt8),(6:UInt8),(6:UInt8),(6:UInt8),(6:UInt8),(6:UInt8),(6:UInt8),(6:UInt8),(6:UInt8),(6:
 UInt8),(6:UInt8),(6:UInt8),(6:UInt8),(6:UInt8),(6:UInt8),(6:UInt8),(6:UInt8),(6:UInt8),(6:UInt8),(6:UInt8),(6:UInt8),(6:UInt8),(6:UInt8),(6:UInt8),(6:UInt8),(6:UInt8),(6:UInt8),(6:
 UInt8),(6:UInt8)] [(7:UInt8),(7:UInt8),(7:UInt8),(7:UInt8),(7:UInt8),(7:UInt8),(7:UInt8),(7:UInt8),(7:UInt8),(7:UInt8),(7:UInt8),(7:UInt8),(7:UInt8),(7:UInt8),(7:UInt8),(7:UInt8),(7:
 UInt8),(7:UInt8),(7:UInt8),(7:UInt8),(7:UInt8),(7:UInt8),(7:UInt8),(7:UInt8),(7:UInt8),(7:UInt8),(7:UInt8),(7:UInt8),(7:UInt8),(7:UInt8),(7:UInt8),(7:UInt8),(7:UInt8),(7:UInt8),(7:
 UInt8),(7:UInt8),(7:UInt8),(7:UInt8),(7:UInt8),(7:UInt8),(7:UInt8),(7:UInt8),(7:UInt8),(7:UInt8),(7:UInt8),(7:UInt8),(7:UInt8),(7:UInt8),(7:UInt8),(7:UInt8),(7:UInt8),(7:UInt8),(7:
 UInt8),(7:UInt8),(7:UInt8),(7:UInt8),(7:UInt8),(7:UInt8),(7:UInt8),(7:UInt8),(7:UInt8),(7:UInt8),(7:UInt8),(7:UInt8)]) (List.append [(8:UInt8),(8:UInt8),(8:UInt8),(8:UInt8),(8:UInt8),(8:
 UInt8),(8:UInt8),(8:UInt8),(8:UInt8),(8:UInt8),(8:UInt8),(8:UInt8),(8:UInt8),(8:UInt8),(8:UInt8),(8:UInt8),(8:UInt8),(8:UInt8),(8:UInt8),(8:UInt8),(8:UInt8),(8:UInt8),(8:UInt8),(8:
 UInt8),(8:UInt8),(8:UInt8),(8:UInt8),(8:UInt8),(8:UInt8),(8:UInt8),(8:UInt8),(8:UInt8),(8:UInt8),(8:UInt8),(8:UInt8),(8:UInt8),(8:UInt8),(8:UInt8),(8:UInt8),(8:UInt8),(8:UInt8),(8:
 UInt8),(8:UInt8),(8:UInt8),(8:UInt8),(8:UInt8),(8:UInt8),(8:UInt8),(8:UInt8),(8:UInt8),(8:UInt8),(8:UInt8),(8:UInt8),(8:UInt8),(8:UInt8),(8:UInt8),(8:UInt8),(8:UInt8),(8:UInt8),(8:
 UInt8),(8:UInt8),(8:UInt8),(8:UInt8),(8:UInt8)] [(8:UInt8),(8:UInt8),(8:UInt8),(8:UInt8),(8:UInt8),(8:UInt8),(8:UInt8),(8:UInt8),(8:UInt8),(8:UInt8),(8:UInt8),(8:UInt8),(8:UInt8),(8:
 UInt8),(8:UInt8),(8:UInt8),(8:UInt8),(8:UInt8),(8:UInt8),(8:UInt8),(8:UInt8),(8:UInt8),(8:UInt8),(8:UInt8),(8:UInt8),(8:UInt8),(8:UInt8),(8:UInt8),(8:UInt8),(8:UInt8),(8:UInt8),(8:
 UInt8),(8:UInt8),(8:UInt8),(8:UInt8),(8:UInt8),(8:UInt8),(8:UInt8),(8:UInt8),(8:UInt8),(8:UInt8),(8:UInt8),(8:UInt8),(8:UInt8),(8:UInt8),(8:UInt8),(8:UInt8),(8:UInt8),(8:UInt8),(8:
 UInt8),(8:UInt8),(8:UInt8),(8:UInt8),(8:UInt8),(8:UInt8),(8:UInt8),(8:UInt8),(8:UInt8),(8:UInt8),(8:UInt8),(8:UInt8),(8:UInt8),(8:UInt8),(8:UInt8)])):ByteArray}):Int) then some
 (IntKind.i64.wrap (v3.2+IntKind.i64.wrap (↑(UInt8.toNat (List.getD { data:=List.toArray (List.append (List.append [(0:UInt8),(1:UInt8),(2:UInt8),(2:UInt8),(3:UInt8),(3:UInt8),(3:UInt8),(3:UInt8),(4:UInt8),(4:
 UInt8),(4:UInt8),(4:UInt8),(4:UInt8),(4:UInt8),(4:UInt8),(4:UInt8),(5:UInt8),(5:UInt8),(5:UInt8),(5:UInt8),(5:UInt8),(5:UInt8),(5:UInt8),(5:UInt8),(5:UInt8),(5:UInt8),(5:UInt8),(5:
 UInt8),(5:UInt8),(5:UInt8),(5:UInt8),(5:UInt8),(6:UInt8),(6:UInt8),(6:UInt8),(6:UInt8),(6:UInt8),(6:UInt8),(6:UInt8),(6:UInt8),(6:UInt8),(6:UInt8),(6:UInt8),(6:UInt8),(6:UInt8),(6:
 UInt8),(6:UInt8),(6:UInt8),(6:UInt8),(6:UInt8),(6:UInt8),(6:UInt8),(6:UInt8),(6:UInt8),(6:UInt8),(6:UInt8),(6:UInt8),(6:UInt8),(6:UInt8),(6:UInt8),(6:UInt8),(6:UInt8),(6:UInt8),(6:
 UInt8)] [(7:UInt8),(7:UInt8),(7:UInt8),(7:UInt8),(7:UInt8),(7:UInt8),(7:UInt8),(7:UInt8),(7:UInt8),(7:UInt8),(7:UInt8),(7:UInt8),(7:UInt8),(7:UInt8),(7:UInt8),(7:UInt8),(7:UInt8),(7:
 UInt8),(7:UInt8),(7:UInt8),(7:UInt8),(7:UInt8),(7:UInt8),(7:UInt8),(7:UInt8),(7:UInt8),(7:UInt8),(7:UInt8),(7:UInt8),(7:UInt8),(7:UInt8),(7:UInt8),(7:UInt8),(7:UInt8),(7:UInt8),(7:
 UInt8),(7:UInt8),(7:UInt8),(7:UInt8),(7:UInt8),(7:UInt8),(7:UInt8),(7:UInt8),(7:UInt8),(7:UInt8),(7:UInt8),(7:UInt8),(7:UInt8),(7:UInt8),(7:UInt8),(7:UInt8),(7:UInt8),(7:UInt8),(7:
 UInt8),(7:UInt8),(7:UInt8),(7:UInt8),(7:UInt8),(7:UInt8),(7:UInt8),(7:UInt8),(7:UInt8),(7:UInt8),(7:UInt8)]) (List.append [(8:UInt8),(8:UInt8),(8:UInt8),(8:UInt8),(8:UInt8),(8:UInt8),(8:
 UInt8),(8:UInt8),(8:UInt8),(8:UInt8),(8:UInt8),(8:UInt8),(8:UInt8),(8:UInt8),(8:UInt8),(8:UInt8),(8:UInt8),(8:UInt8),(8:UInt8),(8:UInt8),(8:UInt8),(8:UInt8),(8:UInt8),(8:UInt8),(8:
 UInt8),(8:UInt8),(8:UInt8),(8:UInt8),(8:UInt8),(8:UInt8),(8:UInt8),(8:UInt8),(8:UInt8),(8:UInt8),(8:UInt8),(8:UInt8),(8:UInt8),(8:UInt8),(8:UInt8),(8:UInt8),(8:UInt8),(8:UInt8),(8:
 UInt8),(8:UInt8),(8:UInt8),(8:UInt8),(8:UInt8),(8:UInt8),(8:UInt8),(8:UInt8),(8:UInt8),(8:UInt8),(8:UInt8),(8:UInt8),(8:UInt8),(8:UInt8),(8:UInt8),(8:UInt8),(8:UInt8),(8:UInt8),(8:
 UInt8),(8:UInt8),(8:UInt8),(8:UInt8)] [(8:UInt8),(8:UInt8),(8:UInt8),(8:UInt8),(8:UInt8),(8:UInt8),(8:UInt8),(8:UInt8),(8:UInt8),(8:UInt8),(8:UInt8),(8:UInt8),(8:UInt8),(8:UInt8),(8:
 UInt8),(8:UInt8),(8:UInt8),(8:UInt8),(8:UInt8),(8:UInt8),(8:UInt8),(8:UInt8),(8:UInt8),(8:UInt8),(8:UInt8),(8:UInt8),(8:UInt8),(8:UInt8),(8:UInt8),(8:UInt8),(8:UInt8),(8:UInt8),(8:
 UInt8),(8:UInt8),(8:UInt8),(8:UInt8),(8:UInt8),(8:UInt8),(8:UInt8),(8:UInt8),(8:UInt8),(8:UInt8),(8:UInt8),(8:UInt8),(8:UInt8),(8:UInt8),(8:UInt8),(8:UInt8),(8:UInt8),(8:UInt8),(8:
 UInt8),(8:UInt8),(8:UInt8),(8:UInt8),(8:UInt8),(8:UInt8),(8:UInt8),(8:UInt8),(8:UInt8),(8:UInt8),(8:UInt8),(8:UInt8),(8:UInt8),(8:UInt8)])):ByteArray}.data.toList (Int.toNat (IntKind.wrap IntKind.u8
 v3.1)) (0:UInt8))):Int))) else none
theorem Lz.f160eq: ∀ x,zl Lz.C Lz.f160Γ Lz.f160sig Lz.f160ann Go.Proofs.Tryz.f160 x=Lz.f160F x:=by
 intro x
 kernel_rfl
noncomputable def Lz.f160con:Con:=⟨160,Lz.f160sig,Lz.f160F⟩
theorem Lz.f160ok:Con.Ok Go.Proofs.Tryz.prog Lz.C Lz.f160con:=
 zb (Γ:=Lz.f160Γ) (an:=Lz.f160ann) ⟨Lz.Cok,(fun _ h=>nomatch h),Lz.mixed⟩ Go.Proofs.Tryz.func160 rfl rfl (fun x y h=>(Lz.f160eq x).trans h) (by decide)
def Lz.f150sig:Sig:=⟨⟨[.hole (.int .u64)], []⟩,⟨[.hole (.int .i64)], []⟩⟩
noncomputable def Lz.f150Γ:List Con:= [Lz.f159con,Lz.f160con]
def Lz.f150ann:Ann:=(.seq .leaf (.seq (.cond .leaf .leaf) (.seq .leaf .leaf)))
noncomputable def Lz.f150F:Int→Option (Int):=fun(x:Int)=>Option.bind (Lz.f160F x) fun v1=>some v1
theorem Lz.f150eq: ∀ x,zl Lz.C Lz.f150Γ Lz.f150sig Lz.f150ann Go.Proofs.Tryz.f150 x=Lz.f150F x:=by
 intro x
 kernel_rfl
noncomputable def Lz.f150con:Con:=⟨150,Lz.f150sig,Lz.f150F⟩
theorem Lz.f150ok:Con.Ok Go.Proofs.Tryz.prog Lz.C Lz.f150con:=
 zb (Γ:=Lz.f150Γ) (an:=Lz.f150ann) ⟨Lz.Cok,(List.forall_mem_cons.2 ⟨Lz.f159ok,(List.forall_mem_cons.2 ⟨Lz.f160ok,(fun _ h=>nomatch h)⟩)⟩),Lz.mixed⟩ Go.Proofs.Tryz.func150 rfl rfl (fun x y h=>(Lz.f150eq x).trans h) (by decide)
def Lz.f127sig:Sig:=⟨⟨[.hole (.arr 2 (.int .i64)), .hole (.arr 2 (.int .i64))], []⟩,⟨[.hole (.int .i64)], []⟩⟩
noncomputable def Lz.f127Γ:List Con:= []
def Lz.f127ann:Ann:=(.seq .leaf (.seq .leaf .leaf))
noncomputable def Lz.f127F:List Int×List Int→Option (Int):=fun(x:List Int×List Int)=>if(0:Int)≤(0:Int)∧(0:Int)<(↑(2:Nat):Int) then if(0:Int)≤(0:Int)∧(0:Int)<(↑(2:Nat):Int) then some
 (IntKind.i64.wrap (List.getD x.1 (nat_lit 0) (0:Int) - List.getD x.2 (nat_lit 0) (0:Int))) else none else none
theorem Lz.f127eq: ∀ x,zl Lz.C Lz.f127Γ Lz.f127sig Lz.f127ann Go.Proofs.Tryz.f127 x=Lz.f127F x:=by
 intro x
 kernel_rfl
noncomputable def Lz.f127con:Con:=⟨127,Lz.f127sig,Lz.f127F⟩
theorem Lz.f127ok:Con.Ok Go.Proofs.Tryz.prog Lz.C Lz.f127con:=
 zb (Γ:=Lz.f127Γ) (an:=Lz.f127ann) ⟨Lz.Cok,(fun _ h=>nomatch h),Lz.mixed⟩ Go.Proofs.Tryz.func127 rfl rfl (fun x y h=>(Lz.f127eq x).trans h) (by decide)
def Lz.f151sig:Sig:=⟨⟨[.own 0, .hole (.int .i64), .hole (.int .i64), .fnc 127 0], [.arr 82 (.arr 2 (.int .i64))]⟩,⟨[], [.arr 82 (.arr 2 (.int .i64))]⟩⟩
noncomputable def Lz.f151Γ:List Con:= [Lz.f127con]
def Lz.f151ann:Ann:=(.seq .leaf (.block (.loop ⟨.normal, [(8, .hole (.int .i64))], [.arr 82 (.arr 2 (.int .i64))]⟩ [⟨(.exit 0), [], [.arr 82 (.arr 2 (.int .i64))]⟩] (.seq (.seq .leaf (.cond .leaf .leaf)) (.seq (.block (.seq .leaf
 (.block (.loop ⟨.normal, [(9, .hole (.int .i64))], [.arr 82 (.arr 2 (.int .i64))]⟩ [⟨(.exit 2), [], [.arr 82 (.arr 2 (.int .i64))]⟩] (.seq (.seq (.join [⟨.normal, [(34, .hole .bool)], [.arr 82 (.arr 2 (.int .i64))]⟩] .leaf) (.cond .leaf
 .leaf)) (.seq (.block (.eff 1 [] [0,0,0,0,8,0,0,64,224,480,0,0,3072,7168,16355,32739,65535,131071])) .leaf)))))) .leaf)))))
noncomputable def Lz.f151F:Int×Int×List (List Int)→Option (List (List Int)):=fun(x:Int×Int×List (List Int))=>Option.bind (iter (fun(s1:Int×List (List Int))=>if decide (s1.1<x.2.1)=true then Option.bind (iter
 (fun(s2:Int×List (List Int))=>Option.bind (if decide (s2.1 > x.1)=true then if(0:Int)≤s2.1∧s2.1<(s2.2.length:Int) then if(0:Int)≤IntKind.i64.wrap (s2.1 - (1:Int))∧IntKind.i64.wrap (s2.1 - (1:Int))<
 (s2.2.length:Int) then Option.bind (Lz.f127F (List.getD s2.2 (Int.toNat s2.1) (List.replicate (2:Nat) (0:Int)),List.getD s2.2 (Int.toNat (IntKind.i64.wrap (s2.1 - (1:Int)))) (List.replicate (2:Nat) (0:Int)))) fun v3=>some
 (decide (v3<(0:Int)),s2.2) else none else none else some (false,s2.2)) fun(v3:Bool×List (List Int))=>if v3.1=true then if(0:Int)≤IntKind.i64.wrap (s2.1 - (1:Int))∧IntKind.i64.wrap (s2.1 - (1:Int))<(v3.2.length:
 Int) then if(0:Int)≤s2.1∧s2.1<(v3.2.length:Int) then if(0:Int)≤s2.1∧s2.1<(v3.2.length:Int) then if(0:Int)≤IntKind.i64.wrap (s2.1 - (1:Int))∧IntKind.i64.wrap (s2.1 - (1:Int))<(↑(List.length (List.set v3.2
 (Int.toNat s2.1) (List.getD v3.2 (Int.toNat (IntKind.i64.wrap (s2.1 - (1:Int)))) (List.replicate (2:Nat) (0:Int))))):Int) then some (Sum.inl (IntKind.i64.wrap (s2.1 - (1:Int)),List.set (List.set v3.2 (Int.toNat s2.1) (List.getD
 v3.2 (Int.toNat (IntKind.i64.wrap (s2.1 - (1:Int)))) (List.replicate (2:Nat) (0:Int)))) (Int.toNat (IntKind.i64.wrap (s2.1 - (1:Int)))) (List.getD v3.2 (Int.toNat s2.1) (List.replicate (2:Nat) (0:Int))))) else none else none
 else none else none else some (Sum.inr v3.2)) (s1.1,s1.2)) fun(v2:List (List Int))=>some (Sum.inl (IntKind.i64.wrap (s1.1+(1:Int)),v2)) else some (Sum.inr s1.2)) (IntKind.i64.wrap (x.1+(1:Int)),x.2.2)) fun(v1:List (List
 Int))=>some v1
theorem Lz.f151eq: ∀ x,zl Lz.C Lz.f151Γ Lz.f151sig Lz.f151ann Go.Proofs.Tryz.f151 x=Lz.f151F x:=by
 intro x
 kernel_rfl
noncomputable def Lz.f151con:Con:=⟨151,Lz.f151sig,Lz.f151F⟩
theorem Lz.f151ok:Con.Ok Go.Proofs.Tryz.prog Lz.C Lz.f151con:=
 zb (Γ:=Lz.f151Γ) (an:=Lz.f151ann) ⟨Lz.Cok,(List.forall_mem_cons.2 ⟨Lz.f127ok,(fun _ h=>nomatch h)⟩),Lz.mixed⟩ Go.Proofs.Tryz.func151 rfl rfl (fun x y h=>(Lz.f151eq x).trans h) (by decide)
def Lz.f161sig:Sig:=⟨⟨[.own 0, .hole (.int .i64), .hole (.int .i64), .hole (.int .i64), .fnc 127 0], [.arr 82 (.arr 2 (.int .i64))]⟩,⟨[], [.arr 82 (.arr 2 (.int .i64))]⟩⟩
noncomputable def Lz.f161Γ:List Con:= [Lz.f127con]
def Lz.f161ann:Ann:=(.seq .leaf (.block (.loop ⟨.normal, [(10, .hole (.int .i64))], [.arr 82 (.arr 2 (.int .i64))]⟩ [⟨(.exit 0), [], [.arr 82 (.arr 2 (.int .i64))]⟩,⟨.ret, [], [.arr 82 (.arr 2 (.int .i64))]⟩] (.block (.seq .leaf (.seq
 (.seq .leaf (.cond .leaf .leaf)) (.seq (.join [⟨.normal, [(11, .hole (.int .i64))], [.arr 82 (.arr 2 (.int .i64))]⟩] (.seq (.join [⟨.normal, [(40, .hole .bool)], [.arr 82 (.arr 2 (.int .i64))]⟩] .leaf) (.cond .leaf .leaf))) (.seq (.seq
 .leaf (.cond .leaf .leaf)) (.seq (.eff 1 [] [0,0,0,6,0,0,0,96,0,0,0,1536,3840,7936,0,0,0,98304,245760,507904,1048335,2096911,4194303,8388607]) .leaf)))))))))
noncomputable def Lz.f161F:Int×Int×Int×List (List Int)→Option (List (List Int)):=fun(x:Int×Int×Int×List (List Int))=>Option.bind (iter (fun(s1:Int×List (List Int))=>if decide (IntKind.i64.wrap (IntKind.i64.wrap
 ((2:Int)*s1.1)+(1:Int))≥x.2.1)=true then some (Sum.inr (Sum.inl s1.2)) else Option.bind (Option.bind (if decide (IntKind.i64.wrap (IntKind.i64.wrap (IntKind.i64.wrap ((2:Int)*s1.1)+(1:Int))+(1:Int))<x.2.1)=true
 then if(0:Int)≤IntKind.i64.wrap (x.2.2.1+IntKind.i64.wrap (IntKind.i64.wrap ((2:Int)*s1.1)+(1:Int)))∧IntKind.i64.wrap (x.2.2.1+IntKind.i64.wrap (IntKind.i64.wrap ((2:Int)*s1.1)+(1:Int)))<(s1.2.length:Int) then
 if(0:Int)≤IntKind.i64.wrap (IntKind.i64.wrap (x.2.2.1+IntKind.i64.wrap (IntKind.i64.wrap ((2:Int)*s1.1)+(1:Int)))+(1:Int))∧IntKind.i64.wrap (IntKind.i64.wrap (x.2.2.1+IntKind.i64.wrap (IntKind.i64.wrap ((2:Int)*
 s1.1)+(1:Int)))+(1:Int))<(s1.2.length:Int) then Option.bind (Lz.f127F (List.getD s1.2 (Int.toNat (IntKind.i64.wrap (x.2.2.1+IntKind.i64.wrap (IntKind.i64.wrap ((2:Int)*s1.1)+(1:Int))))) (List.replicate (2:Nat) (0:
 Int)),List.getD s1.2 (Int.toNat (IntKind.i64.wrap (IntKind.i64.wrap (x.2.2.1+IntKind.i64.wrap (IntKind.i64.wrap ((2:Int)*s1.1)+(1:Int)))+(1:Int)))) (List.replicate (2:Nat) (0:Int)))) fun v2=>some (decide (v2<(0:
 Int)),s1.2) else none else none else some (false,s1.2)) fun(v2:Bool×List (List Int))=>if v2.1=true then some (IntKind.i64.wrap (IntKind.i64.wrap (IntKind.i64.wrap ((2:Int)*s1.1)+(1:Int))+(1:Int)),v2.2) else some
 (IntKind.i64.wrap (IntKind.i64.wrap ((2:Int)*s1.1)+(1:Int)),v2.2)) fun(v2:Int×List (List Int))=>if(0:Int)≤IntKind.i64.wrap (x.2.2.1+s1.1)∧IntKind.i64.wrap (x.2.2.1+s1.1)<(v2.2.length:Int) then if(0:Int)≤
 IntKind.i64.wrap (x.2.2.1+v2.1)∧IntKind.i64.wrap (x.2.2.1+v2.1)<(v2.2.length:Int) then Option.bind (Lz.f127F (List.getD v2.2 (Int.toNat (IntKind.i64.wrap (x.2.2.1+s1.1))) (List.replicate (2:Nat) (0:Int)),List.getD v2.2
 (Int.toNat (IntKind.i64.wrap (x.2.2.1+v2.1))) (List.replicate (2:Nat) (0:Int)))) fun v3=>if(!decide (v3<(0:Int)))=true then some (Sum.inr (Sum.inr v2.2)) else if(0:Int)≤IntKind.i64.wrap (x.2.2.1+v2.1)∧
 IntKind.i64.wrap (x.2.2.1+v2.1)<(v2.2.length:Int) then if(0:Int)≤IntKind.i64.wrap (x.2.2.1+s1.1)∧IntKind.i64.wrap (x.2.2.1+s1.1)<(v2.2.length:Int) then if(0:Int)≤IntKind.i64.wrap (x.2.2.1+s1.1)∧IntKind.i64.wrap
 (x.2.2.1+s1.1)<(v2.2.length:Int) then if(0:Int)≤IntKind.i64.wrap (x.2.2.1+v2.1)∧IntKind.i64.wrap (x.2.2.1+v2.1)<(↑(List.length (List.set v2.2 (Int.toNat (IntKind.i64.wrap (x.2.2.1+s1.1))) (List.getD v2.2 (Int.toNat
 (IntKind.i64.wrap (x.2.2.1+v2.1))) (List.replicate (2:Nat) (0:Int))))):Int) then some (Sum.inl (v2.1,List.set (List.set v2.2 (Int.toNat (IntKind.i64.wrap (x.2.2.1+s1.1))) (List.getD v2.2 (Int.toNat (IntKind.i64.wrap (x.2.2.1+
 v2.1))) (List.replicate (2:Nat) (0:Int)))) (Int.toNat (IntKind.i64.wrap (x.2.2.1+v2.1))) (List.getD v2.2 (Int.toNat (IntKind.i64.wrap (x.2.2.1+s1.1))) (List.replicate (2:Nat) (0:Int))))) else none else none else none else none
 else none else none) (x.1,x.2.2.2)) fun(v1:List (List Int) ⊕ List (List Int))=>Sum.elim (fun(p2:List (List Int))=>some p2) (fun(q2:List (List Int))=>some q2) v1
theorem Lz.f161eq: ∀ x,zl Lz.C Lz.f161Γ Lz.f161sig Lz.f161ann Go.Proofs.Tryz.f161 x=Lz.f161F x:=by
 intro x
 kernel_rfl
noncomputable def Lz.f161con:Con:=⟨161,Lz.f161sig,Lz.f161F⟩
theorem Lz.f161ok:Con.Ok Go.Proofs.Tryz.prog Lz.C Lz.f161con:=
 zb (Γ:=Lz.f161Γ) (an:=Lz.f161ann) ⟨Lz.Cok,(List.forall_mem_cons.2 ⟨Lz.f127ok,(fun _ h=>nomatch h)⟩),Lz.mixed⟩ Go.Proofs.Tryz.func161 rfl rfl (fun x y h=>(Lz.f161eq x).trans h) (by decide)
def Lz.f152sig:Sig:=⟨⟨[.own 0, .hole (.int .i64), .hole (.int .i64), .fnc 127 0], [.arr 82 (.arr 2 (.int .i64))]⟩,⟨[], [.arr 82 (.arr 2 (.int .i64))]⟩⟩
noncomputable def Lz.f152Γ:List Con:= [Lz.f161con,Lz.f127con]
def Lz.f152ann:Ann:=(.seq .leaf (.seq .leaf (.seq .leaf (.seq (.seq .leaf (.block (.loop ⟨.normal, [(11, .hole (.int .i64))], [.arr 82 (.arr 2 (.int .i64))]⟩ [⟨(.exit 0), [], [.arr 82 (.arr 2 (.int .i64))]⟩] (.seq (.seq .leaf (.cond
 .leaf .leaf)) (.seq (.block .leaf) .leaf))))) (.seq .leaf (.block (.loop ⟨.normal, [(12, .hole (.int .i64))], [.arr 82 (.arr 2 (.int .i64))]⟩ [⟨(.exit 2), [], [.arr 82 (.arr 2 (.int .i64))]⟩] (.seq (.seq .leaf (.cond .leaf .leaf)) (.seq
 (.block (.seq (.eff 1 [] [0,0,0,0,0,24,0,0,0,384,960,1984,0,0,12288,28672,65475,131011,262143,524287]) .leaf)) .leaf)))))))))
noncomputable def Lz.f152F:Int×Int×List (List Int)→Option (List (List Int)):=fun(x:Int×Int×List (List Int))=>Option.bind (iter (fun(s1:Int×List (List Int))=>if decide (s1.1≥(0:Int))=true then Option.bind
 (Lz.f161F (s1.1,IntKind.i64.wrap (x.2.1 - x.1),x.1,s1.2)) fun(v2:List (List Int))=>some (Sum.inl (IntKind.i64.wrap (s1.1 - (1:Int)),v2)) else some (Sum.inr s1.2)) (IntKind.i64.wrap (Int.tdiv (IntKind.i64.wrap (IntKind.i64.wrap
 (x.2.1 - x.1) - (1:Int))) (2:Int)),x.2.2)) fun(v1:List (List Int))=>Option.bind (iter (fun(s2:Int×List (List Int))=>if decide (s2.1≥(0:Int))=true then if(0:Int)≤IntKind.i64.wrap (x.1+s2.1)∧IntKind.i64.wrap
 (x.1+s2.1)<(s2.2.length:Int) then if(0:Int)≤x.1∧x.1<(s2.2.length:Int) then if(0:Int)≤x.1∧x.1<(s2.2.length:Int) then if(0:Int)≤IntKind.i64.wrap (x.1+s2.1)∧IntKind.i64.wrap (x.1+s2.1)<(↑(List.length
 (List.set s2.2 (Int.toNat x.1) (List.getD s2.2 (Int.toNat (IntKind.i64.wrap (x.1+s2.1))) (List.replicate (2:Nat) (0:Int))))):Int) then Option.bind (Lz.f161F ((0:Int),s2.1,x.1,List.set (List.set s2.2 (Int.toNat x.1) (List.getD
 s2.2 (Int.toNat (IntKind.i64.wrap (x.1+s2.1))) (List.replicate (2:Nat) (0:Int)))) (Int.toNat (IntKind.i64.wrap (x.1+s2.1))) (List.getD s2.2 (Int.toNat x.1) (List.replicate (2:Nat) (0:Int))))) fun(v3:List (List Int))=>some
 (Sum.inl (IntKind.i64.wrap (s2.1 - (1:Int)),v3)) else none else none else none else none else some (Sum.inr s2.2)) (IntKind.i64.wrap (IntKind.i64.wrap (x.2.1 - x.1) - (1:Int)),v1)) fun(v2:List (List Int))=>some v2
theorem Lz.f152eq: ∀ x,zl Lz.C Lz.f152Γ Lz.f152sig Lz.f152ann Go.Proofs.Tryz.f152 x=Lz.f152F x:=by
 intro x
 kernel_rfl
noncomputable def Lz.f152con:Con:=⟨152,Lz.f152sig,Lz.f152F⟩
theorem Lz.f152ok:Con.Ok Go.Proofs.Tryz.prog Lz.C Lz.f152con:=
 zb (Γ:=Lz.f152Γ) (an:=Lz.f152ann) ⟨Lz.Cok,(List.forall_mem_cons.2 ⟨Lz.f161ok,(List.forall_mem_cons.2 ⟨Lz.f127ok,(fun _ h=>nomatch h)⟩)⟩),Lz.mixed⟩ Go.Proofs.Tryz.func152 rfl rfl (fun x y h=>(Lz.f152eq x).trans h) (by decide)
def Lz.f162sig:Sig:=⟨⟨[.hole (.int .i64)], []⟩,⟨[.hole (.int .u64)], []⟩⟩
noncomputable def Lz.f162Γ:List Con:= [Lz.f150con]
def Lz.f162ann:Ann:=(.seq .leaf (.seq .leaf .leaf))
noncomputable def Lz.f162F:Int→Option (Int):=fun(x:Int)=>Option.bind (Lz.f150F (IntKind.wrap IntKind.u64 x)) fun v1=>if v1<(0:Int) then none else some (IntKind.wrap IntKind.u64 ((1:Int)*(2:Int) ^ Min.min (Int.toNat
 v1) (IntKind.bits IntKind.u64)))
theorem Lz.f162eq: ∀ x,zl Lz.C Lz.f162Γ Lz.f162sig Lz.f162ann Go.Proofs.Tryz.f162 x=Lz.f162F x:=by
 intro x
 kernel_rfl
noncomputable def Lz.f162con:Con:=⟨162,Lz.f162sig,Lz.f162F⟩
theorem Lz.f162ok:Con.Ok Go.Proofs.Tryz.prog Lz.C Lz.f162con:=
 zb (Γ:=Lz.f162Γ) (an:=Lz.f162ann) ⟨Lz.Cok,(List.forall_mem_cons.2 ⟨Lz.f150ok,(fun _ h=>nomatch h)⟩),Lz.mixed⟩ Go.Proofs.Tryz.func162 rfl rfl (fun x y h=>(Lz.f162eq x).trans h) (by decide)
def Lz.f163sig:Sig:=⟨⟨[.ptr 0 0], [.cells [.hole (.int .u64)]]⟩,⟨[.hole (.int .u64)], [.cells [.hole (.int .u64)]]⟩⟩
noncomputable def Lz.f163Γ:List Con:= []
def Lz.f163ann:Ann:=(.seq .leaf (.seq (.tail 9) (.seq (.tail 9) (.seq (.tail 9) (.seq .leaf .leaf)))))
noncomputable def Lz.f163F:Int→Option (Int×Int):=fun(x:Int)=>some (IntKind.wrap IntKind.u64 (↑(BitVec.toNat (BitVec.ofInt (IntKind.bits IntKind.u64) (IntKind.wrap IntKind.u64 (↑(BitVec.toNat (BitVec.ofInt (IntKind.bits
 IntKind.u64) (IntKind.wrap IntKind.u64 (↑(BitVec.toNat (BitVec.ofInt (IntKind.bits IntKind.u64) x ^^^ BitVec.ofInt (IntKind.bits IntKind.u64) (IntKind.wrap IntKind.u64 (x*(2:Int) ^ Min.min (Int.toNat (13:Int)) (IntKind.bits
 IntKind.u64))))):Int)) ^^^ BitVec.ofInt (IntKind.bits IntKind.u64) (Int.fdiv (IntKind.wrap IntKind.u64 (↑(BitVec.toNat (BitVec.ofInt (IntKind.bits IntKind.u64) x ^^^ BitVec.ofInt (IntKind.bits IntKind.u64) (IntKind.wrap IntKind.u64 (x*
 (2:Int) ^ Min.min (Int.toNat (13:Int)) (IntKind.bits IntKind.u64))))):Int)) ((2:Int) ^ Min.min (Int.toNat (7:Int)) (IntKind.bits IntKind.u64))))):Int)) ^^^ BitVec.ofInt (IntKind.bits IntKind.u64) (IntKind.wrap IntKind.u64
 (IntKind.wrap IntKind.u64 (↑(BitVec.toNat (BitVec.ofInt (IntKind.bits IntKind.u64) (IntKind.wrap IntKind.u64 (↑(BitVec.toNat (BitVec.ofInt (IntKind.bits IntKind.u64) x ^^^ BitVec.ofInt (IntKind.bits IntKind.u64) (IntKind.wrap IntKind.u64 (x
 *(2:Int) ^ Min.min (Int.toNat (13:Int)) (IntKind.bits IntKind.u64))))):Int)) ^^^ BitVec.ofInt (IntKind.bits IntKind.u64) (Int.fdiv (IntKind.wrap IntKind.u64 (↑(BitVec.toNat (BitVec.ofInt (IntKind.bits IntKind.u64) x ^^^ BitVec.ofInt
 (IntKind.bits IntKind.u64) (IntKind.wrap IntKind.u64 (x*(2:Int) ^ Min.min (Int.toNat (13:Int)) (IntKind.bits IntKind.u64))))):Int)) ((2:Int) ^ Min.min (Int.toNat (7:Int)) (IntKind.bits IntKind.u64))))):Int)*(2:Int) ^
 Min.min (Int.toNat (17:Int)) (IntKind.bits IntKind.u64))))):Int),IntKind.wrap IntKind.u64 (↑(BitVec.toNat (BitVec.ofInt (IntKind.bits IntKind.u64) (IntKind.wrap IntKind.u64 (↑(BitVec.toNat (BitVec.ofInt (IntKind.bits IntKind.u64)
 (IntKind.wrap IntKind.u64 (↑(BitVec.toNat (BitVec.ofInt (IntKind.bits IntKind.u64) x ^^^ BitVec.ofInt (IntKind.bits IntKind.u64) (IntKind.wrap IntKind.u64 (x*(2:Int) ^ Min.min (Int.toNat (13:Int)) (IntKind.bits IntKind.u64))))):
 Int)) ^^^ BitVec.ofInt (IntKind.bits IntKind.u64) (Int.fdiv (IntKind.wrap IntKind.u64 (↑(BitVec.toNat (BitVec.ofInt (IntKind.bits IntKind.u64) x ^^^ BitVec.ofInt (IntKind.bits IntKind.u64) (IntKind.wrap IntKind.u64 (x*(2:Int) ^ Min.min
 (Int.toNat (13:Int)) (IntKind.bits IntKind.u64))))):Int)) ((2:Int) ^ Min.min (Int.toNat (7:Int)) (IntKind.bits IntKind.u64))))):Int)) ^^^ BitVec.ofInt (IntKind.bits IntKind.u64) (IntKind.wrap IntKind.u64 (IntKind.wrap IntKind.u64
 (↑(BitVec.toNat (BitVec.ofInt (IntKind.bits IntKind.u64) (IntKind.wrap IntKind.u64 (↑(BitVec.toNat (BitVec.ofInt (IntKind.bits IntKind.u64) x ^^^ BitVec.ofInt (IntKind.bits IntKind.u64) (IntKind.wrap IntKind.u64 (x*(2:Int) ^ Min.min
 (Int.toNat (13:Int)) (IntKind.bits IntKind.u64))))):Int)) ^^^ BitVec.ofInt (IntKind.bits IntKind.u64) (Int.fdiv (IntKind.wrap IntKind.u64 (↑(BitVec.toNat (BitVec.ofInt (IntKind.bits IntKind.u64) x ^^^ BitVec.ofInt (IntKind.bits
 IntKind.u64) (IntKind.wrap IntKind.u64 (x*(2:Int) ^ Min.min (Int.toNat (13:Int)) (IntKind.bits IntKind.u64))))):Int)) ((2:Int) ^ Min.min (Int.toNat (7:Int)) (IntKind.bits IntKind.u64))))):Int)*(2:Int) ^ Min.min (Int.toNat
 (17:Int)) (IntKind.bits IntKind.u64))))):Int))
theorem Lz.f163eq: ∀ x,zl Lz.C Lz.f163Γ Lz.f163sig Lz.f163ann Go.Proofs.Tryz.f163 x=Lz.f163F x:=by
 intro x
 kernel_rfl
noncomputable def Lz.f163con:Con:=⟨163,Lz.f163sig,Lz.f163F⟩
theorem Lz.f163ok:Con.Ok Go.Proofs.Tryz.prog Lz.C Lz.f163con:=
 zb (Γ:=Lz.f163Γ) (an:=Lz.f163ann) ⟨Lz.Cok,(fun _ h=>nomatch h),Lz.mixed⟩ Go.Proofs.Tryz.func163 rfl rfl (fun x y h=>(Lz.f163eq x).trans h) (by decide)
def Lz.f153sig:Sig:=⟨⟨[.own 0, .hole (.int .i64), .hole (.int .i64), .fnc 127 0], [.arr 82 (.arr 2 (.int .i64))]⟩,⟨[], [.arr 82 (.arr 2 (.int .i64))]⟩⟩
noncomputable def Lz.f153Γ:List Con:= [Lz.f162con,Lz.f163con,Lz.f127con]
def Lz.f153ann:Ann:=(.seq .leaf (.seq .leaf (.cond (.seq .leaf (.seq .leaf (.seq .leaf (.block (.loop ⟨.normal, [(11, .hole (.int .i64))], [.arr 82 (.arr 2 (.int .i64)), .cells [.hole (.int .u64)]]⟩ [⟨(.exit 0), [], [.arr 82 (.arr 2
 (.int .i64)), .gone]⟩] (.seq (.seq .leaf (.cond .leaf .leaf)) (.seq (.block (.seq .leaf (.seq (.join [⟨.normal, [(12, .hole (.int .i64))], [.arr 82 (.arr 2 (.int .i64)), .cells [.hole (.int .u64)]]⟩] (.seq .leaf (.cond .leaf .leaf))) (.eff
 2 [] [0,0,0,0,0,24,0,0,0,384,960,1984,0,0,12288,28672,65475,131011,262143,524287])))) .leaf))))))) .leaf)))
noncomputable def Lz.f153F:Int×Int×List (List Int)→Option (List (List Int)):=fun(x:Int×Int×List (List Int))=>if decide (IntKind.i64.wrap (x.2.1 - x.1)≥(8:Int))=true then Option.bind (Lz.f162F (IntKind.i64.wrap
 (x.2.1 - x.1))) fun v1=>Option.bind (iter (fun(s2:Int×List (List Int)×Int)=>if decide (s2.1≤IntKind.i64.wrap (IntKind.i64.wrap (x.1+IntKind.i64.wrap (IntKind.i64.wrap (Int.tdiv (IntKind.i64.wrap (x.2.1 - x.1)) (4:Int))*(2
 :Int)))+(1:Int)))=true then Option.bind (Lz.f163F s2.2.2) fun v3=>Option.bind (if decide (IntKind.i64.wrap (IntKind.wrap IntKind.u64 (↑(BitVec.toNat (BitVec.ofInt (IntKind.bits IntKind.u64) v3.1 &&& BitVec.ofInt (IntKind.bits
 IntKind.u64) (IntKind.wrap IntKind.u64 (v1 - (1:Int))))):Int))≥IntKind.i64.wrap (x.2.1 - x.1))=true then some (IntKind.i64.wrap (IntKind.i64.wrap (IntKind.wrap IntKind.u64 (↑(BitVec.toNat (BitVec.ofInt (IntKind.bits IntKind.u64)
 v3.1 &&& BitVec.ofInt (IntKind.bits IntKind.u64) (IntKind.wrap IntKind.u64 (v1 - (1:Int))))):Int)) - IntKind.i64.wrap (x.2.1 - x.1)),s2.2.1,v3.2) else some (IntKind.i64.wrap (IntKind.wrap IntKind.u64 (↑(BitVec.toNat (BitVec.ofInt
 (IntKind.bits IntKind.u64) v3.1 &&& BitVec.ofInt (IntKind.bits IntKind.u64) (IntKind.wrap IntKind.u64 (v1 - (1:Int))))):Int)),s2.2.1,v3.2)) fun(v4:Int×List (List Int)×Int)=>if(0:Int)≤IntKind.i64.wrap (x.1+v4.1)∧
 IntKind.i64.wrap (x.1+v4.1)<(v4.2.1.length:Int) then if(0:Int)≤s2.1∧s2.1<(v4.2.1.length:Int) then if(0:Int)≤s2.1∧s2.1<(v4.2.1.length:Int) then if(0:Int)≤IntKind.i64.wrap (x.1+v4.1)∧IntKind.i64.wrap (x.1
 +v4.1)<(↑(List.length (List.set v4.2.1 (Int.toNat s2.1) (List.getD v4.2.1 (Int.toNat (IntKind.i64.wrap (x.1+v4.1))) (List.replicate (2:Nat) (0:Int))))):Int) then some (Sum.inl (IntKind.i64.wrap (s2.1+(1:Int)),List.set
 (List.set v4.2.1 (Int.toNat s2.1) (List.getD v4.2.1 (Int.toNat (IntKind.i64.wrap (x.1+v4.1))) (List.replicate (2:Nat) (0:Int)))) (Int.toNat (IntKind.i64.wrap (x.1+v4.1))) (List.getD v4.2.1 (Int.toNat s2.1) (List.replicate (2:Nat)
 (0:Int))),v4.2.2)) else none else none else none else none else some (Sum.inr s2.2.1)) (IntKind.i64.wrap (IntKind.i64.wrap (x.1+IntKind.i64.wrap (IntKind.i64.wrap (Int.tdiv (IntKind.i64.wrap (x.2.1 - x.1)) (4:Int))*(2:Int))) - (1
 :Int)),x.2.2,IntKind.wrap IntKind.u64 (IntKind.i64.wrap (x.2.1 - x.1)))) fun(v2:List (List Int))=>some v2 else some x.2.2
theorem Lz.f153eq: ∀ x,zl Lz.C Lz.f153Γ Lz.f153sig Lz.f153ann Go.Proofs.Tryz.f153 x=Lz.f153F x:=by
 intro x
 kernel_rfl
noncomputable def Lz.f153con:Con:=⟨153,Lz.f153sig,Lz.f153F⟩
theorem Lz.f153ok:Con.Ok Go.Proofs.Tryz.prog Lz.C Lz.f153con:=
 zb (Γ:=Lz.f153Γ) (an:=Lz.f153ann) ⟨Lz.Cok,(List.forall_mem_cons.2 ⟨Lz.f162ok,(List.forall_mem_cons.2 ⟨Lz.f163ok,(List.forall_mem_cons.2 ⟨Lz.f127ok,(fun _ h=>nomatch h)⟩)⟩)⟩),Lz.mixed⟩ Go.Proofs.Tryz.func153 rfl rfl (fun x y h=>(Lz.f153eq x).trans h) (by decide)
def Lz.f166sig:Sig:=⟨⟨[.own 0, .hole (.int .i64), .hole (.int .i64), .ptr 1 0, .fnc 127 0], [.arr 82 (.arr 2 (.int .i64)), .cells [.hole (.int .i64)]]⟩,⟨[.hole (.int .i64), .hole (.int .i64)], [.arr 82 (.arr 2 (.int .i64)), .cells
 [.hole (.int .i64)]]⟩⟩
noncomputable def Lz.f166Γ:List Con:= [Lz.f127con]
def Lz.f166ann:Ann:=(.seq .leaf (.seq (.seq .leaf (.cond (.seq .leaf (.seq .leaf .leaf)) .leaf)) (.seq .leaf .leaf)))
noncomputable def Lz.f166F:Int×Int×List (List Int)×Int→Option (Int×Int×List (List Int)×Int):=fun(x:Int×Int×List (List Int)×Int)=>if(0:Int)≤x.2.1∧x.2.1<(x.2.2.1.length:Int) then if(0:Int)≤x.1∧
 x.1<(x.2.2.1.length:Int) then Option.bind (Lz.f127F (List.getD x.2.2.1 (Int.toNat x.2.1) (List.replicate (2:Nat) (0:Int)),List.getD x.2.2.1 (Int.toNat x.1) (List.replicate (2:Nat) (0:Int)))) fun v1=>if decide (v1<(0:Int))
 =true then some (x.2.1,x.1,x.2.2.1,IntKind.i64.wrap (x.2.2.2+(1:Int))) else some (x.1,x.2.1,x.2.2.1,x.2.2.2) else none else none
theorem Lz.f166eq: ∀ x,zl Lz.C Lz.f166Γ Lz.f166sig Lz.f166ann Go.Proofs.Tryz.f166 x=Lz.f166F x:=by
 intro x
 kernel_rfl
noncomputable def Lz.f166con:Con:=⟨166,Lz.f166sig,Lz.f166F⟩
theorem Lz.f166ok:Con.Ok Go.Proofs.Tryz.prog Lz.C Lz.f166con:=
 zb (Γ:=Lz.f166Γ) (an:=Lz.f166ann) ⟨Lz.Cok,(List.forall_mem_cons.2 ⟨Lz.f127ok,(fun _ h=>nomatch h)⟩),Lz.mixed⟩ Go.Proofs.Tryz.func166 rfl rfl (fun x y h=>(Lz.f166eq x).trans h) (by decide)
def Lz.f165sig:Sig:=⟨⟨[.own 0, .hole (.int .i64), .hole (.int .i64), .hole (.int .i64), .ptr 1 0, .fnc 127 0], [.arr 82 (.arr 2 (.int .i64)), .cells [.hole (.int .i64)]]⟩,⟨[.hole (.int .i64)], [.arr 82 (.arr 2 (.int .i64)), .cells
 [.hole (.int .i64)]]⟩⟩
noncomputable def Lz.f165Γ:List Con:= [Lz.f166con,Lz.f127con]
def Lz.f165ann:Ann:=(.seq .leaf (.seq .leaf (.seq .leaf (.seq .leaf (.seq .leaf .leaf)))))
noncomputable def Lz.f165F:Int×Int×Int×List (List Int)×Int→Option (Int×List (List Int)×Int):=fun(x:Int×Int×Int×List (List Int)×Int)=>Option.bind (Lz.f166F (x.1,x.2.1,x.2.2.2.1,x.2.2.2.2)) fun(v1:Int×
 Int×List (List Int)×Int)=>Option.bind (Lz.f166F (v1.2.1,x.2.2.1,v1.2.2.1,v1.2.2.2)) fun(v2:Int×Int×List (List Int)×Int)=>Option.bind (Lz.f166F (v1.1,v2.1,v2.2.2.1,v2.2.2.2)) fun(v3:Int×Int×List (List Int)×
 Int)=>some (v3.2.1,v3.2.2.1,v3.2.2.2)
theorem Lz.f165eq: ∀ x,zl Lz.C Lz.f165Γ Lz.f165sig Lz.f165ann Go.Proofs.Tryz.f165 x=Lz.f165F x:=by
 intro x
 kernel_rfl
noncomputable def Lz.f165con:Con:=⟨165,Lz.f165sig,Lz.f165F⟩
theorem Lz.f165ok:Con.Ok Go.Proofs.Tryz.prog Lz.C Lz.f165con:=
 zb (Γ:=Lz.f165Γ) (an:=Lz.f165ann) ⟨Lz.Cok,(List.forall_mem_cons.2 ⟨Lz.f166ok,(List.forall_mem_cons.2 ⟨Lz.f127ok,(fun _ h=>nomatch h)⟩)⟩),Lz.mixed⟩ Go.Proofs.Tryz.func165 rfl rfl (fun x y h=>(Lz.f165eq x).trans h) (by decide)
def Lz.f164sig:Sig:=⟨⟨[.own 0, .hole (.int .i64), .ptr 1 0, .fnc 127 0], [.arr 82 (.arr 2 (.int .i64)), .cells [.hole (.int .i64)]]⟩,⟨[.hole (.int .i64)], [.arr 82 (.arr 2 (.int .i64)), .cells [.hole (.int .i64)]]⟩⟩
noncomputable def Lz.f164Γ:List Con:= [Lz.f165con,Lz.f127con]
def Lz.f164ann:Ann:=(.seq .leaf (.seq .leaf .leaf))
end Go.Sx
