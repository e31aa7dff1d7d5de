import Derived.Test.YtpmbmobjnknnhaaGreatDoorSxP
import Derived.Test.YtpmbmobjnknnhaaGreatDoorSxO
import Derived.Test.YtpmbmobjnknnhaaGreatDoorSxS
import Derived.Test.YtpmbmobjnknnhaaGreatDoorProg
import Derived.KernelRfl
set_option maxRecDepth 100000
set_option maxHeartbeats 0
set_option linter.unusedVariables false
set_option linter.unusedSimpArgs false
namespace Go.Sx
open Go.Proofs
def R.words:List ByteArray:= [⟨#[76]⟩,⟨#[82]⟩,⟨#[65,76]⟩,⟨#[69,78]⟩,⟨#[69,83]⟩,⟨#[69,84]⟩,⟨#[65,78]⟩,⟨#[67,83]⟩,⟨#[78,83,77]⟩,⟨#[66,78]⟩,⟨#[66]⟩,⟨#[83]⟩,⟨#[87,83]⟩,⟨#[79,78]⟩,⟨#[76,82,69]⟩,⟨#[76,82,79]⟩,
 ⟨#[82,76,69]⟩,⟨#[82,76,79]⟩,⟨#[80,68,70]⟩,⟨#[76,82,73]⟩,⟨#[82,76,73]⟩,⟨#[70,83,73]⟩,⟨#[80,68,73]⟩]
def R.brk:List (Int×Int):= [(0x28,0x29),(0x5b,0x5d),(0x7b,0x7d),(0x2329,0x232a),(0x3008,0x3009),(0x300a,0x300b),(0x300c,0x300d),(0x300e,0x300f),(0x3010,0x3011)]
def R.otherF (c:Int):Option (Int×Bool×Bool):=some (match R.brk.find? (fun p=>p.1==c) with|some p=>(p.2,true,true)|none=>match R.brk.find? (fun p=>p.2==c) with|some p=>(p.1,false,true)|none=>(0,false,
 false))
def R.other:Con:=⟨148,⟨⟨[.hole (.int .i64)], []⟩,⟨[.hole (.int .i64), .hole .bool, .hole .bool], []⟩⟩,R.otherF⟩
def R.TT:List (TypeId×TI):= [ (3,⟨(.int .i64),1,8,some (.int .i64), [.val (.int .i64) (0:Int)]⟩),(4,⟨.bool,1,1,some .bool, [.bit false]⟩),(5,⟨(.int .u8),1,1,some (.int .u8), [.val (.int .u8) (0:Int)]⟩),(9,⟨.str,1,
 16,some .str, [.val .str ByteArray.empty]⟩),(22,⟨(.slice 3),1,24,some (.sl (.int .i64)), [.nils]⟩),(24,⟨(.slice 46),1,24,some (.sl (.st (.pair (.int .i64) (.pair (.int .i64) (.sl (.int .i64)))))), [.nils]⟩),(25,⟨(.int .i64),1,
 8,some (.int .i64), [.val (.int .i64) (0:Int)]⟩),(26,⟨.other,1,0,none, [.und]⟩),(31,⟨(.struct [(3,0,1,false),(3,1,1,false)]),2,16,some (.st (.pair (.int .i64) (.int .i64))), [.val (.int .i64) (0:Int), .val (.int .i64)
 (0:Int)]⟩),(33,⟨(.slice 44),1,24,some (.sl (.st (.pair (.int .i64) (.pair (.int .i64) (.int .i64))))), [.nils]⟩),(35,⟨.other,1,0,none, [.und]⟩),(40,⟨(.array 3 5),3,3,some (.arr 3 (.int .u8)), [.val (.int .u8) (0:Int), .val (.int .u8) (0:Int), .val (.int .u8) (0:Int)]⟩),(42,⟨.other,1,8,none, [.und]⟩),(44,⟨(.struct [(3,0,1,false),(3,1,1,
 false),(3,2,1,false)]),3,24,some (.st (.pair (.int .i64) (.pair (.int .i64) (.int .i64)))), [.val (.int .i64) (0:Int), .val (.int .i64) (0:Int), .val (.int .i64) (0:Int)]⟩),(46,⟨(.struct [(3,0,1,false),(3,1,1,false),
 (22,2,1,false)]),3,40,some (.st (.pair (.int .i64) (.pair (.int .i64) (.sl (.int .i64))))), [.val (.int .i64) (0:Int), .val (.int .i64) (0:Int), .nils]⟩),(49,⟨(.array 3 3),3,24,some (.arr 3 (.int .i64)), [.val (.int .i64) (0
 :Int), .val (.int .i64) (0:Int), .val (.int .i64) (0:Int)]⟩),(51,⟨(.slice 5),1,24,some (.sl (.int .u8)), [.nils]⟩),(54,⟨(.slice 31),1,24,some (.sl (.st (.pair (.int .i64) (.int .i64)))), [.nils]⟩),(55,⟨.other,1,0,none, [.und]⟩),(57,⟨.other,1,0,none, [.und]⟩),(64,⟨(.ptr
 67),1,8,none, [.nilp]⟩),(67,⟨(.struct [(22,0,1,false),(22,1,1,false),(22,2,1,false),(22,3,1,false),(3,4,1,false)]),5,104,some (.st (.pair (.sl (.int .i64)) (.pair (.sl (.int .i64)) (.pair (.sl (.int .i64)) (.pair
 (.sl (.int .i64)) (.int .i64)))))), [.nils, .nils, .nils, .nils, .val (.int .i64) (0:Int)]⟩),(68,⟨(.slice 4),1,24,some (.sl .bool), [.nils]⟩),(74,⟨.other,1,0,none, [.und]⟩),(76,⟨(.slice 79),1,24,some (.sl (.st (.pair (.sl
 (.int .i64)) (.pair (.int .i64) (.pair (.int .i64) (.int .i64)))))), [.nils]⟩),(79,⟨(.struct [(22,0,1,false),(3,1,1,false),(3,2,1,false),(3,3,1,false)]),4,48,some (.st (.pair (.sl (.int .i64)) (.pair (.int .i64) (.pair
 (.int .i64) (.int .i64))))), [.nils, .val (.int .i64) (0:Int), .val (.int .i64) (0:Int), .val (.int .i64) (0:Int)]⟩),(87,⟨(.slice 124),1,24,some (.sl (.st (.pair (.int .i64) (.pair (.int .i64) (.int .i64))))), [.nils]⟩),(91,
 ⟨(.ptr 95),1,8,none, [.nilp]⟩),(93,⟨(.slice 148),1,24,some (.sl (.st (.pair (.int .i64) (.pair (.int .i64) .bool)))), [.nils]⟩),(95,⟨(.struct [(3,0,1,false),(93,1,1,false),(3,2,1,false),(3,3,1,false),(3,4,1,
 false),(3,5,1,false),(22,6,1,false),(22,7,1,false)]),8,112,some (.st (.pair (.int .i64) (.pair (.sl (.st (.pair (.int .i64) (.pair (.int .i64) .bool)))) (.pair (.int .i64) (.pair (.int .i64) (.pair (.int .i64) (.pair (.int
 .i64) (.pair (.sl (.int .i64)) (.sl (.int .i64)))))))))), [.val (.int .i64) (0:Int), .nils, .val (.int .i64) (0:Int), .val (.int .i64) (0:Int), .val (.int .i64) (0:Int), .val (.int .i64) (0:Int), .nils, .nils]⟩),(96,⟨(.ptr 130),
 1,8,none, [.nilp]⟩),(98,⟨(.map 3 3),1,8,none, [.und]⟩),(99,⟨(.slice 22),1,24,some (.sl (.sl (.int .i64))), [.nils]⟩),(101,⟨.other,1,0,none, [.und]⟩),(104,⟨(.int .u64),1,8,some (.int .u64), [.val (.int .u64) (0:
 Int)]⟩),(116,⟨(.slice 118),1,24,some (.sl (.arr 2 (.int .i64))), [.nils]⟩),(118,⟨(.array 2 3),2,16,some (.arr 2 (.int .i64)), [.val (.int .i64) (0:Int), .val (.int .i64) (0:Int)]⟩),(119,⟨.other,1,0,none, [.und]⟩),(124,
 ⟨(.struct [(3,0,1,false),(3,1,1,false),(3,2,1,false)]),3,24,some (.st (.pair (.int .i64) (.pair (.int .i64) (.int .i64)))), [.val (.int .i64) (0:Int), .val (.int .i64) (0:Int), .val (.int .i64) (0:Int)]⟩),(126,⟨.other,
 1,8,none, [.und]⟩),(130,⟨(.struct [(22,0,1,false),(22,1,1,false),(22,2,1,false),(22,3,1,false)]),4,96,some (.st (.pair (.sl (.int .i64)) (.pair (.sl (.int .i64)) (.pair (.sl (.int .i64)) (.sl (.int .i64)))))), [.nils,
 .nils, .nils, .nils]⟩),(132,⟨(.ptr 134),1,8,none, [.nilp]⟩),(134,⟨(.struct [(22,0,1,false),(22,1,1,false),(3,2,1,false),(3,3,1,false)]),4,64,some (.st (.pair (.sl (.int .i64)) (.pair (.sl (.int .i64)) (.pair (.int
 .i64) (.int .i64))))), [.nils, .nils, .val (.int .i64) (0:Int), .val (.int .i64) (0:Int)]⟩),(136,⟨.other,1,8,none, [.und]⟩),(143,⟨.other,1,0,none, [.und]⟩),(148,⟨(.struct [(3,0,1,false),(3,1,1,false),(4,2,1,
 false)]),3,24,some (.st (.pair (.int .i64) (.pair (.int .i64) .bool))), [.val (.int .i64) (0:Int), .val (.int .i64) (0:Int), .bit false]⟩),(152,⟨(.slice 154),1,24,some (.sl (.st (.pair (.int .i64) (.int .i64)))), [.nils]⟩),
 (154,⟨(.struct [(3,0,1,false),(3,1,1,false)]),2,16,some (.st (.pair (.int .i64) (.int .i64))), [.val (.int .i64) (0:Int), .val (.int .i64) (0:Int)]⟩),(156,⟨.other,1,8,none, [.und]⟩),(161,⟨(.array 23 9),23,368,some
 (.arr 23 .str), [.val .str ByteArray.empty, .val .str ByteArray.empty, .val .str ByteArray.empty, .val .str ByteArray.empty, .val .str ByteArray.empty, .val .str ByteArray.empty, .val .str ByteArray.empty, .val .str ByteArray.empty, .val
 .str ByteArray.empty, .val .str ByteArray.empty, .val .str ByteArray.empty, .val .str ByteArray.empty, .val .str ByteArray.empty, .val .str ByteArray.empty, .val .str ByteArray.empty, .val .str ByteArray.empty, .val .str ByteArray.empty,
 .val .str ByteArray.empty, .val .str ByteArray.empty, .val .str ByteArray.empty, .val .str ByteArray.empty, .val .str ByteArray.empty, .val .str ByteArray.empty]⟩),(167,⟨(.int .i64),1,8,some (.int .i64), [.val (.int .i64) (0:Int)]⟩),
 (168,⟨.other,1,0,none, [.und]⟩),(174,⟨(.int .u32),1,4,some (.int .u32), [.val (.int .u32) (0:Int)]⟩),(176,⟨(.int .u64),1,8,some (.int .u64), [.val (.int .u64) (0:Int)]⟩),(177,⟨(.int .u64),1,8,some (.int .u64), [.val
 (.int .u64) (0:Int)]⟩),(181,⟨(.ptr 3),1,8,none, [.nilp]⟩),(183,⟨(.ptr 177),1,8,none, [.nilp]⟩)]
noncomputable def R.C:Ctx:=⟨R.TT, [(0,⟨.arr 23 .str,R.words⟩)], [(22,(.osl (.int .i64)))], [22], [43,44]⟩
theorem R.Cok:R.C.ok Go.Proofs.Tryz.prog:=zsk (by kernel_rfl)
theorem R.mixed:Go.Proofs.Tryz.prog.follows .mixedOrders=true:=by kernel_rfl
def R.fuel:Nat:=1000000000
def R.f171sig:Sig:=⟨⟨[], []⟩,⟨[.mp 0], [.map (.int .i64) (.int .i64)]⟩⟩
def R.f171F:Unit→Option (List (Int×Int)):=fun _=>some R.brk
def R.f171ann:Ann:= .seq .leaf (.seq .leaf .leaf)
theorem R.f171eq: ∀ x,zk R.C [] R.f171sig R.f171ann Go.Proofs.Tryz.f171 x=R.f171F x:=by
 intro x
 kernel_rfl
def R.f171con:Con:=⟨171,R.f171sig,R.f171F⟩
theorem R.f171ok:Con.Ok Go.Proofs.Tryz.prog R.C R.f171con:=
 zb (Γ:= []) (an:=R.f171ann) ⟨R.Cok,(fun _ h=>nomatch h),R.mixed⟩ Go.Proofs.Tryz.func171 rfl rfl (fun x y h=>(R.f171eq x).trans h) (by decide)
section other
open Go.ChangeMaps (setBlock)
open Go.RowKit
def R.oK:Ks (Bool×List SV×List HO):={ n:=fun fr hp=>some (false,fr,hp),e:=fun _ _ _=>none,r:=fun fr hp=>some (true,fr,hp)}
theorem R.oK_at {lv:Lv} {fr fr':List SV} {hp hp':List HO} {b:Bool} (h:R.oK.at lv fr hp=some (b,fr',hp')):fr=fr'∧hp=hp'∧((b=false∧lv= .normal)∨(b=true∧lv= .ret)):=by
 cases lv<;>simp[R.oK,Ks.at] at h<;>obtain⟨h1,h2,h3⟩:=h<;>simp[h1.symm,h2,h3]
theorem R.otherF_hit {c:Int} {x:Int} (h:zem (K:= .int .i64) (V:= .int .i64) R.brk c=some x):R.otherF c=some (x,true,true):=by
 have key: ∀ es:List (Int×Int),zem (K:= .int .i64) (V:= .int .i64) es c=some x→ ∃ p,es.find? (fun p=>p.1==c)=some p∧p.2=x:=by
  intro es
  induction es with
  |nil=>intro h;simp[zem] at h
  |cons p es ih=>
   intro h
   simp only[zem,Ty.eqb] at h
   rw[List.find?_cons]
   by_cases hc:c=p.1
   ·subst hc
    simp at h
    exact⟨p,by simp,h⟩
   ·have h1:(c==p.1)=false:=by simpa using hc
    have h2:(p.1==c)=false:=by simpa using fun e=>hc e.symm
    rw[h1] at h
    rw[h2]
    exact ih h
 obtain⟨p,h1,h2⟩:=key _ h
 simp only[R.otherF,h1,h2]
theorem R.mget_none {c:Int} (es:List (Int×Int)) (h:zem (K:= .int .i64) (V:= .int .i64) es c=none):es.find? (fun p=>p.1==c)=none:=by
 induction es with
 |nil=>rfl
 |cons p es ih=>
  simp only[zem,Ty.eqb] at h
  rw[List.find?_cons]
  by_cases hc:c=p.1
  ·subst hc;simp at h
  ·have h1:(c==p.1)=false:=by simpa using hc
   have h2:(p.1==c)=false:=by simpa using fun e=>hc e.symm
   rw[h1] at h
   rw[h2]
   exact ih h
theorem R.otherF_miss {c:Int} (h:zem (K:= .int .i64) (V:= .int .i64) R.brk c=none) (h2: ∀ p∈R.brk,p.2≠c):R.otherF c=some (0,false,false):=by
 have h3:R.brk.find? (fun p=>p.2==c)=none:=by
  rw[List.find?_eq_none]
  intro p hp;simpa using h2 p hp
 simp only[R.otherF,R.mget_none _ h,h3]
theorem R.otherF_back {c:Int} (h:zem (K:= .int .i64) (V:= .int .i64) R.brk c=none) {p:Int×Int} (hp:p∈R.brk) (h2:p.2=c):R.otherF c=some (p.1,false,true):=by
 have h3:R.brk.find? (fun q=>q.2==c)=some p:=by
  subst h2
  simp only[R.brk,List.mem_cons,List.not_mem_nil,or_false] at hp
  rcases hp with rfl|rfl|rfl|rfl|rfl|rfl|rfl|rfl|rfl<;>rfl
 simp only[R.otherF,R.mget_none _ h,h3]
def R.fr2 (c:Int):List SV:=((((((.val (.int .i64) c::List.replicate 27 .skip:List SV).set 2 (.val (.int .i64) (0:Int))).set 3 (.bit false)).set 4 (.bit false)).set 8 (.mp 0)).set 5 (.mp 0))
def R.fr3 (c:Int) (m:Option Int):List SV:=((((((((R.fr2 c).set 10 (.mp 0)).set 11 (.val (.int .i64) c)).set 12 (.tup [.val (.int .i64) (m.getD 0), .val .bool m.isSome])).set 9 (.tup [.val (.int .i64) (m.getD 0), .val .bool
 m.isSome])).set 13 (.val (.int .i64) (m.getD 0))).set 14 (.val .bool m.isSome)).set 2 (.val (.int .i64) (m.getD 0))).set 4 (.val .bool m.isSome)
def R.frN (c:Int) (m:Option Int):List SV:=(R.fr3 c m).set 15 (.bit false)
def R.frR (c:Int) (m:Option Int):List SV:=(((((R.fr3 c m).set 15 (.bit true)).set 16 (.val (.int .i64) (m.getD 0))).set 2 (.val (.int .i64) (m.getD 0))).set 3 (.bit true)).set 4 (.bit true)
theorem R.at3 {E:Env} {fr:List SV} {a:Act} (hf:SV.satL E fr a.tmps.toList) {i:Nat} {s:SV} (hs:fr[i]? =some s) {p:Value→Prop} (hp: ∀ v,s.sat E v→p v):p (a.eval (.tmp i)):=by
 obtain⟨v,hv,hsv⟩:=jx hf hs
 have hev:a.eval (.tmp i)=v:=by simp[Act.eval,Array.getD_eq_getD_getElem?,hv]
 rw[hev];exact hp v hsv
theorem R.otherok:R.other.Ok Go.Proofs.Tryz.prog R.C where
 there:=⟨_,Go.Proofs.Tryz.func148,rfl,rfl⟩
 calls:=by
  intro E w args (c:Int) (y:Int×Bool×Bool) W hg hs hh hxy
  have hargs: ∃ v,args= [v]∧(SV.val (.int .i64) c).sat E v:=by
   obtain⟨v,ws,e,h1,h2⟩:=(show SV.satL E [.val (.int .i64) c] args from hs)
   simp only[SV.satL] at h2
   subst h2
   exact⟨v,e,h1⟩
  obtain⟨v0,rfl,hv0⟩:=hargs
  have hG:Given Go.Proofs.Tryz.prog R.C [R.f171con]:=⟨R.Cok,(List.forall_mem_cons.2 ⟨R.f171ok,(fun _ h=>nomatch h)⟩),R.mixed⟩
  have hh0:Hp ⟨w,W,E.M⟩ E [] w:=hh
  have ev0:v0= .int .i64 c:=xo (by simpa only[SV.sat] using hv0)
  refine calls_of_wp Go.Proofs.Tryz.func148 (c:=_) rfl ?_
  have hfr:SV.satL E (.val (.int .i64) c::List.replicate 27 .skip) (#[v0]++Array.replicate (Go.Proofs.Tryz.f148.ntmps - #[v0].size) undef).toList:=by
   have hsk: ∀ n,SV.satL E (List.replicate n SV.skip) (List.replicate n undef):=by
    intro n
    induction n with
    |zero=>simp[SV.satL]
    |succ n ih=>rw[List.replicate_succ,List.replicate_succ];simp only[SV.satL];exact⟨_,_,rfl,by simp[SV.sat],ih⟩
   rw[show Go.Proofs.Tryz.f148.ntmps - #[v0].size=27 by kernel_rfl,Array.toList_append,Array.toList_replicate]
   show SV.satL E _ (v0::List.replicate 27 undef)
   simp only[SV.satL]
   exact⟨_,_,rfl,by simpa only[SV.sat] using hv0,hsk 27⟩
  generalize hQ:bodyPost Go.Proofs.Tryz.prog Go.Proofs.Tryz.f148 _=Q
  have fin: ∀ (a':Act) (w':World) (E':Env) (hp':List HO),a'.defers= []→Hp ⟨w,W,E.M⟩ E' hp' w'→a'.eval (.tmp 2)= .int .i64 y.1→a'.eval (.tmp 3)= .bool y.2.1→a'.eval (.tmp 4)= .bool y.2.2→Q .ret a' w':=by
   intro a' w' E' hp' h1 h2 h3 h4 h5
   subst hQ
   refine⟨h1,retVal [.int .i64 y.1, .bool y.2.1, .bool y.2.2], ?_,⟨E'.M, []⟩,_,rfl, ?_,h2.nil,fun j e hj=>by simp[R.other] at hj⟩
   ·simp only[Act.eval] at h3 h4 h5
    refine ziy (vs:= [.int .i64 y.1, .bool y.2.1, .bool y.2.2]) ?_
    rw[show Go.Proofs.Tryz.f148.results= #[.tmp 2, .tmp 3, .tmp 4] from rfl]
    rw[Array.getD_eq_getD_getElem?] at h3 h4 h5
    simp[h3,h4,h5]
   ·show SV.satL _ [.val (.int .i64) y.1, .val .bool y.2.1, .val .bool y.2.2] _
    simp only[SV.satL]
    exact⟨_,_,rfl,qt _,_,_,rfl,qv _,_,_,rfl,qv _,rfl⟩
  refine wp_seq ?_
  refine z8 (an:= .leaf) (r:=(false,((((.val (.int .i64) c::List.replicate 27 .skip:List SV).set 2 (.val (.int .i64) (0:Int))).set 3 (.bit false)).set 4 (.bit false)), [])) (K:=R.oK) hG hh0 hfr hg (by kernel_rfl) ?_
  intro lv E1 fr1 hp1 a1 w1 le1 hh1 hf1 kp1 hk1
  obtain⟨rfl,rfl,⟨_,rfl⟩|⟨h,_⟩⟩:=R.oK_at hk1
  case inr=>cases h
  show Code.wp _ _ _ _ _
  refine wp_seq ?_
  refine z8 (an:= .leaf) (r:=(false,((((((.val (.int .i64) c::List.replicate 27 .skip:List SV).set 2 (.val (.int .i64) (0:Int))).set 3 (.bit false)).set 4 (.bit false)).set 8 (.mp 0)).set 5 (.mp 0)), [.map (.int .i64) (.int .i64) R.brk])) (K:=R.oK) hG hh1 hf1 (R.C.globsOk_mono le1.1 hg) (by kernel_rfl) ?_
  intro lv E2 fr2 hp2 a2 w2 le2 hh2 hf2 kp2 hk2
  obtain⟨rfl,rfl,⟨_,rfl⟩|⟨h,_⟩⟩:=R.oK_at hk2
  case inr=>cases h
  have hg2:=R.C.globsOk_mono le2.1 (R.C.globsOk_mono le1.1 hg)
  show Code.wp _ _ _ _ _
  refine wp_seq ?_
  generalize hm:zem (K:= .int .i64) (V:= .int .i64) R.brk c=m
  have hX: ∀ (X:Code),X=X→True:=fun _ _=>trivial
  clear hX
  refine z8 (an:= .seq .leaf (.seq .leaf (.cond (.seq .leaf .leaf) .leaf))) (r:=if m.isSome=true then(true,R.frR c m, [.map (.int .i64) (.int .i64) R.brk]) else(false,R.frN c m, [.map (.int .i64) (.int .i64) R.brk])) (K:=R.oK) hG hh2 hf2 hg2 ?_ ?_
  ·subst hm
   refine Eq.trans (b:=if(zem (K:= .int .i64) (V:= .int .i64) R.brk c).isSome=true then some (true,R.frR c (zem (K:= .int .i64) (V:= .int .i64) R.brk c), [.map (.int .i64) (.int .i64) R.brk]) else some (false,R.frN c (zem (K:= .int .i64) (V:= .int .i64) R.brk c), [.map (.int .i64) (.int .i64) R.brk])) (by kernel_rfl) ?_
   split<;>rfl
  intro lv E3 fr3 hp3 a3 w3 le3 hh3 hf3 kp3 hk3
  have hdef:a3.defers= []:=by rw[kp3.defers,kp2.defers,kp1.defers]
  cases m with
  |some x=>
   obtain⟨rfl,rfl,⟨h,_⟩|⟨_,rfl⟩⟩:=R.oK_at (b:=true) hk3
   ·cases h
   have hy:y=(x,true,true):=by
    have:=R.otherF_hit hm
    have h2:R.otherF c=some y:=hxy
    rw[this] at h2
    exact(Option.some.inj h2).symm
   subst hy
   refine fin a3 w3 E3 _ hdef hh3 ?_ ?_ ?_
   ·exact R.at3 hf3 (i:=2) (s:= .val (.int .i64) x) (p:=fun v=>v= .int .i64 x) rfl fun v hv=>xo (by simpa only[SV.sat] using hv)
   ·exact R.at3 hf3 (i:=3) (s:= .bit true) rfl fun v hv=>by simpa only[SV.sat] using hv
   ·exact R.at3 hf3 (i:=4) (s:= .bit true) rfl fun v hv=>by simpa only[SV.sat] using hv
  |none=>
   obtain⟨rfl,rfl,⟨_,rfl⟩|⟨h,_⟩⟩:=R.oK_at (b:=false) hk3
   case inr=>cases h
   have hc0:a3.eval (.tmp 0)= .int .i64 c:=R.at3 hf3 (i:=0) (s:= .val (.int .i64) c) (p:=fun v=>v= .int .i64 c) rfl fun v hv=>xo (by simpa only[SV.sat] using hv)
   have h5: ∃ e b,E3.L[0]? =some e∧e.blk=some b∧a3.eval (.tmp 5)= .map (some b):=R.at3 hf3 (i:=5) (s:= .mp 0) (p:=fun v=> ∃ e b,E3.L[0]? =some e∧e.blk=some b∧v= .map (some b)) rfl fun v hv=>by simpa only[SV.sat] using hv
   obtain⟨le,b,he5,hb5,hv5⟩:=h5
   obtain⟨b',arr,clock,g1,g2,g3,gst⟩:=hh3.ob 0 _ _ rfl he5
   rw[hb5] at g1
   cases g1
   obtain⟨rm1,rm2⟩:=zr4 g3
   have hbl:b<w3.heap.size:=(Array.getElem?_eq_some_iff.1 g2).1
   have hs3:a3.tmps.size=28:=by
    have:=SV.satL_length hf3
    simpa [R.frN,R.fr3,R.fr2] using this
   show Code.wp _ _ _ _ _
   refine wp_seq (wp_seq (wp_region_list ?_))
   refine zC rfl (v:= .map (some b)) (w':=w3) (by simp[execOp,hv5]) ?_
   refine zC rfl (v:= .pointer (some ⟨w3.heap.size,0,none⟩)) (w':=w3.alloc (.mapIter (some b) clock #[] clock)) ?_ ?_
   ·simp only[execOp]
    rw[zj (by omega)]
    have:=run_range_map (P:=Go.Proofs.Tryz.prog) w3 98 3 3 b arr clock (by kernel_rfl) g2
    simp[this]
   refine wpList_nil ?_
   show Code.wp _ _ _ _ _
   refine wp_block (wp_loop_rounds (arr.size+1) ?_)
   refine zk4 (I:=fun n a' w'=> ∃ seen,(leftOf arr seen).size<n∧a'.eval (.tmp 0)= .int .i64 c∧a'.eval (.tmp 18)= .pointer (some ⟨w3.heap.size,0,none⟩)∧a'.tmps.size=28∧a'.defers= []∧Below w3.heap.size w3 w'∧
     w'.heap[w3.heap.size]? =some (.mapIter (some b) clock seen clock)∧(∀ e∈arr.toList,seen.contains e.born=true→e.val≠ .int .i64 c)) ?_ ?_ (arr.size+1) _ _ ?_
   ·rintro a w ⟨seen,h,_⟩;omega
   ·rintro n a' w' Kx hKx ⟨seen,hlt,k0,k18,ksz,kdef,kbel,khp,kseen⟩
    have hb':w'.heap[b]? =some (.map arr clock):=by rw[kbel.block b hbl];exact g2
    refine wp_seq (wp_region_list ?_)
    rcases run_next_at (P:=Go.Proofs.Tryz.prog) w' 0 w3.heap.size b clock clock seen arr clock khp hb' gst.1 (Nat.le_refl _) with ⟨q1,q2⟩|⟨e,q1,w1,q2,q3⟩
    ·refine zC rfl (v:= .tuple #[.bool false]) (w':=w') (by simp[execOp,k18,q2]) ?_
     refine zC rfl (v:= .bool false) (w':=w') ?_ ?_
     ·simp only[execOp]
      rw[zj (by omega)]
      simp[Instr.extract]
     refine wpList_nil ?_
     show Code.wp _ _ _ _ _
     refine wp_seq (wp_cond_false ?_ (wp_exit ?_))
     ·exact zj (by rw[zV];omega)
     show Code.wp _ _ _ _ _
     have hmiss:R.otherF c=some (0,false,false):=by
      refine R.otherF_miss hm fun p hp e=> ?_
      obtain⟨m',hm',_,cv,hcv,hval⟩:=rm2 p hp
      have hsn:=all_seen arr seen q1 m' hm'
      refine kseen m' hm' hsn ?_
      simp only[Rep] at hcv
      rw[hval,hcv, ← e];rfl
     have hy:y=(0,false,false):=by
      have h2:R.otherF c=some y:=hxy
      rw[hmiss] at h2
      exact(Option.some.inj h2).symm
     subst hy
     refine wp_seq (wp_region_list ?_)
     refine zC rfl (v:= .int .i64 0) (w':=w') (by simp[execOp,j8]) ?_
     refine zC rfl (v:= .bool false) (w':=w') (by simp[execOp,j8]) ?_
     refine zC rfl (v:= .bool false) (w':=w') (by simp[execOp,j8]) ?_
     refine wpList_nil ?_
     show Code.wp _ _ _ _ _
     refine wp_ret (fin _ w' E3 _ ?_ (hh3.grow kbel) ?_ ?_ ?_)
     ·simp only[j5];exact kdef
     ·rw[zw (by decide),zw (by decide)];exact zj (by simp only[zV];omega)
     ·rw[zw (by decide)];exact zj (by simp only[zV];omega)
     ·exact zj (by simp only[zV];omega)
    ·have kbel1:Below w3.heap.size w3 w1:=by
      rcases q2 with rfl|rfl
      ·exact kbel
      ·exact kbel.drew
     have khp1:w1.heap[w3.heap.size]? =some (.mapIter (some b) clock seen clock):=by
      rcases q2 with rfl|rfl<;>exact khp
     obtain⟨hmem,hns⟩:=mem_left q1
     have khp2:=zgn khp1 (.mapIter (some b) clock (seen.push e.born) clock)
     have kbel2:=zjl kbel1 (Nat.le_refl _) khp1 (.mapIter (some b) clock (seen.push e.born) clock)
     generalize hw2:setBlock w1 w3.heap.size (.mapIter (some b) clock (seen.push e.born) clock)=w2 at q3 khp2 kbel2
     have hb2:w2.heap[b]? =some (.map arr clock):=by rw[kbel2.block b hbl];exact g2
     have hen:=run_entry_at (P:=Go.Proofs.Tryz.prog) w2 w3.heap.size b clock seen arr clock e khp2 hb2 hmem gst.2
     obtain⟨p,hp,⟨ck,hck,hkey⟩,cv,hcv,hval⟩:=rm1 e hmem
     have hkey':e.key= .int .i64 p.1:=by rw[hkey];simp only[Rep] at hck;rw[hck];rfl
     have hval':e.val= .int .i64 p.2:=by rw[hval];simp only[Rep] at hcv;rw[hcv];rfl
     rw[hkey',hval'] at q3 hen
     refine zC rfl (v:= .tuple #[.bool true, .int .i64 p.1, .int .i64 p.2]) (w':=w2) (by simp[execOp,k18,q3]) ?_
     refine zC rfl (v:= .bool true) (w':=w2) ?_ ?_
     ·simp only[execOp]
      rw[zj (by omega)]
      simp[Instr.extract]
     refine wpList_nil ?_
     show Code.wp _ _ _ _ _
     refine wp_seq (wp_cond_true ?_ (wp_skip ?_))
     ·exact zj (by rw[zV];omega)
     show Code.wp _ _ _ _ _
     refine wp_block (wp_seq (wp_region_list ?_))
     refine zC rfl (v:= .tuple #[.int .i64 p.1, .int .i64 p.2]) (w':=w2) ?_ ?_
     ·simp only[execOp]
      rw[zw (by decide),zw (by decide),k18]
      simp[hen]
     refine zC rfl (v:= .int .i64 p.1) (w':=w2) ?_ ?_
     ·simp only[execOp]
      rw[zj (by simp only[zV];omega)]
      simp[Instr.extract]
     refine zC rfl (v:= .int .i64 p.2) (w':=w2) ?_ ?_
     ·simp only[execOp]
      rw[zw (by decide),zj (by simp only[zV];omega)]
      simp[Instr.extract]
     refine zC rfl (v:= .int .i64 p.1) (w':=w2) ?_ ?_
     ·simp only[execOp]
      rw[zw (by decide),zj (by simp only[zV];omega)]
      simp
     refine zC rfl (v:= .int .i64 p.2) (w':=w2) ?_ ?_
     ·simp only[execOp]
      rw[zw (by decide),zj (by simp only[zV];omega)]
      simp
     refine wpList_nil ?_
     show Code.wp _ _ _ _ _
     generalize hA:Act.put _ (some 7) (Value.int .i64 p.2)=A
     have A0:A.eval (.tmp 0)= .int .i64 c:=by
      subst hA
      iterate 7 rw[zw (by decide)]
      exact k0
     have A18:A.eval (.tmp 18)= .pointer (some ⟨w3.heap.size,0,none⟩):=by
      subst hA
      iterate 7 rw[zw (by decide)]
      exact k18
     have A6:A.eval (.tmp 6)= .int .i64 p.1:=by
      subst hA
      rw[zw (by decide)]
      exact zj (by simp only[zV];omega)
     have A7:A.eval (.tmp 7)= .int .i64 p.2:=by
      subst hA
      exact zj (by simp only[zV];omega)
     have As:A.tmps.size=28:=by subst hA;simp only[zV];exact ksz
     have Ad:A.defers= []:=by subst hA;simp only[j5];exact kdef
     clear hA
     refine wp_seq (wp_region_list ?_)
     refine zC rfl (v:= .int .i64 p.2) (w':=w2) (by simp[execOp,A7]) ?_
     refine zC rfl (v:= .int .i64 c) (w':=w2) ?_ ?_
     ·simp only[execOp]
      rw[zw (by decide),A0]
      simp
     refine zC rfl (v:= .bool (p.2==c)) (w':=w2) ?_ ?_
     ·simp only[execOp]
      rw[zw (by decide),zj (by omega),zj (by simp only[zV];omega)]
      simp[eqGuard,binOp,Op.intCmp]
     refine wpList_nil ?_
     show Code.wp _ _ _ _ _
     generalize hA2:Act.put _ (some 26) (Value.bool (p.2==c))=A2
     have B0:A2.eval (.tmp 0)= .int .i64 c:=by
      subst hA2
      iterate 3 rw[zw (by decide)]
      exact A0
     have B18:A2.eval (.tmp 18)= .pointer (some ⟨w3.heap.size,0,none⟩):=by
      subst hA2
      iterate 3 rw[zw (by decide)]
      exact A18
     have B6:A2.eval (.tmp 6)= .int .i64 p.1:=by
      subst hA2
      iterate 3 rw[zw (by decide)]
      exact A6
     have B26:A2.eval (.tmp 26)= .bool (p.2==c):=by
      subst hA2
      exact zj (by simp only[zV];omega)
     have Bs:A2.tmps.size=28:=by subst hA2;simp only[zV];exact As
     have Bd:A2.defers= []:=by subst hA2;simp only[j5];exact Ad
     clear hA2
     by_cases hpc:p.2=c
     ·have hback:=R.otherF_back hm hp hpc
      have hy:y=(p.1,false,true):=by
       have h2:R.otherF c=some y:=hxy
       rw[hback] at h2
       exact(Option.some.inj h2).symm
      subst hy
      refine wp_cond_true (by rw[B26];simp[hpc]) (wp_seq (wp_region_list ?_))
      refine zC rfl (v:= .int .i64 p.1) (w':=w2) (by simp[execOp,B6]) ?_
      refine zC rfl (v:= .int .i64 p.1) (w':=w2) ?_ ?_
      ·simp only[execOp]
       rw[zj (by omega)]
       simp
      refine zC rfl (v:= .bool false) (w':=w2) (by simp[execOp,j8]) ?_
      refine zC rfl (v:= .bool true) (w':=w2) (by simp[execOp,j8]) ?_
      refine wpList_nil ?_
      show Code.wp _ _ _ _ _
      refine wp_ret (fin _ w2 E3 _ ?_ (hh3.grow kbel2) ?_ ?_ ?_)
      ·simp only[j5];exact Bd
      ·rw[zw (by decide),zw (by decide)];exact zj (by simp only[zV];omega)
      ·rw[zw (by decide)];exact zj (by simp only[zV];omega)
      ·exact zj (by simp only[zV];omega)
     ·refine wp_cond_false (by rw[B26];simp[hpc]) (wp_skip ?_)
      refine hKx _ _ ⟨seen.push e.born, ?_,B0,B18,Bs,Bd,kbel2,khp2,fun x hx hs=> ?_⟩
      ·have:=left_shrinks arr seen e q1;omega
      ·rw[Array.contains_eq_mem] at hs
       simp only[Array.mem_push,decide_eq_true_eq] at hs
       rcases hs with hs|hs
       ·exact kseen x hx (by rw[Array.contains_eq_mem];simpa using hs)
       ·have:x=e:=by
         have hnd:=gst.2
         have f1:=find_born x _ hnd hx
         have f2:=find_born e _ hnd hmem
         rw[hs,f2] at f1
         exact(Option.some.inj f1).symm
        subst this
        rw[hval']
        intro e;cases e;exact hpc rfl
   ·refine⟨#[], ?_, ?_, ?_, ?_, ?_,(Below.refl _ _).alloc (Nat.le_refl _) _,heap_alloc_new w3 _,fun e _ h=>by simp at h⟩
    ·have:(leftOf arr #[]).size≤arr.size:=by unfold leftOf;exact Array.size_filter_le
     omega
    ·rw[zw (by decide),zw (by decide)];exact hc0
    ·exact zj (by simp only[zV];omega)
    ·simp only[zV];exact hs3
    ·simp only[j5];exact hdef
end other
def R.f24sig:Sig:=⟨⟨[.hole (.sl (.int .i64)), .hole (.int .i64)], []⟩,⟨[.hole (.sl (.st (.pair (.int .i64) (.int .i64)))), .hole (.int .i64)], []⟩⟩
noncomputable def R.f24Γ:List Con:= []
def R.f24ann:Ann:=(.seq .leaf (.seq .leaf (.seq .leaf (.seq (.seq .leaf (.block (.loop ⟨.normal, [(6, .own 0),(7, .hole (.int .i64)),(12, .hole (.int .i64))], [.arr 31 (.st (.pair (.int .i64) (.int .i64)))]⟩ [⟨(.exit 0), [(6, .own 0),
 (7, .hole (.int .i64))], [.arr 31 (.st (.pair (.int .i64) (.int .i64)))]⟩,⟨.ret, [(4, .own 0),(5, .hole (.int .i64))], [.arr 31 (.st (.pair (.int .i64) (.int .i64)))]⟩] (.seq .leaf (.seq (.cond .leaf .leaf) (.seq (.block (.seq .leaf (.seq
 (.seq .leaf (.cond (.seq .leaf .leaf) .leaf)) (.seq .leaf .leaf)))) .leaf)))))) (.seq (.seq .leaf (.cond (.seq .leaf .leaf) .leaf)) (.seq .leaf .leaf))))))
noncomputable def R.f24F:List Int×Int→Option (List (Int×Int)×Int):=fun(x:List Int×Int)=>Option.bind (iter (fun(s1:Int×Int×List (Int×Int))=>if decide (s1.2.1<(x.1.length:Int))=true then if(0:Int)≤
 s1.2.1∧s1.2.1<(x.1.length:Int) then if decide (List.getD x.1 (Int.toNat s1.2.1) (0:Int)≤s1.1)=true then some (Sum.inr (Sum.inr ((3:Int), []))) else if zi (List.length s1.2.2+(1:Nat)) (16:Nat) then some (Sum.inl
 (List.getD x.1 (Int.toNat s1.2.1) (0:Int),IntKind.i64.wrap (s1.2.1+(1:Int)),s1.2.2++ [(s1.1,List.getD x.1 (Int.toNat s1.2.1) (0:Int))])) else none else none else some (Sum.inr (Sum.inl (s1.1,s1.2.2)))) ((0:Int),(0:Int),
 [])) fun(v1:Int×List (Int×Int) ⊕ Int×List (Int×Int))=>Sum.elim (fun(p2:Int×List (Int×Int))=>if(p2.1 !=x.2)=true then some ([],(3:Int)) else some (p2.2,(0:Int))) (fun(q2:Int×List (Int×Int))=>some
 (q2.2,q2.1)) v1
theorem R.f24eq: ∀ x,zk R.C R.f24Γ R.f24sig R.f24ann Go.Proofs.Tryz.f24 x=R.f24F x:=by
 intro x
 kernel_rfl
noncomputable def R.f24con:Con:=⟨24,R.f24sig,R.f24F⟩
theorem R.f24ok:Con.Ok Go.Proofs.Tryz.prog R.C R.f24con:=
 zb (Γ:=R.f24Γ) (an:=R.f24ann) ⟨R.Cok,(fun _ h=>nomatch h),R.mixed⟩ Go.Proofs.Tryz.func24 rfl rfl (fun x y h=>(R.f24eq x).trans h) (by decide)
def R.f66sig:Sig:=⟨⟨[], []⟩,⟨[.hole (.sl (.st (.pair (.int .i64) (.pair (.int .i64) (.int .i64)))))], []⟩⟩
noncomputable def R.f66Γ:List Con:= []
def R.f66ann:Ann:=(.seq .leaf (.seq .leaf .leaf))
noncomputable def R.f66F:PUnit→Option (List (Int×Int×Int)):=fun(x:PUnit)=>some [((0:Int),(8:Int),(9:Int)),((9:Int),(9:Int),(11:Int)),((10:Int),(10:Int),(10:Int)),((11:Int),(11:Int),(11:
 Int)),((12:Int),(12:Int),(12:Int)),((13:Int),(13:Int),(10:Int)),((14:Int),(27:Int),(9:Int)),((28:Int),(30:Int),(10:Int)),((31:Int),(31:Int),(11:Int)),((32:Int),(32:Int),(12:Int)),((33:
 Int),(34:Int),(13:Int)),((35:Int),(37:Int),(5:Int)),((38:Int),(42:Int),(13:Int)),((43:Int),(43:Int),(4:Int)),((44:Int),(44:Int),(7:Int)),((45:Int),(45:Int),(4:Int)),((46:Int),(47:
 Int),(7:Int)),((48:Int),(57:Int),(3:Int)),((58:Int),(58:Int),(7:Int)),((59:Int),(64:Int),(13:Int)),((91:Int),(96:Int),(13:Int)),((123:Int),(126:Int),(13:Int)),((127:Int),(132:Int),(9:
 Int)),((133:Int),(133:Int),(10:Int)),((134:Int),(159:Int),(9:Int)),((160:Int),(160:Int),(7:Int)),((161:Int),(161:Int),(13:Int)),((162:Int),(165:Int),(5:Int)),((166:Int),(169:Int),(13:
 Int)),((171:Int),(172:Int),(13:Int)),((173:Int),(173:Int),(9:Int)),((174:Int),(175:Int),(13:Int)),((176:Int),(177:Int),(5:Int)),((178:Int),(179:Int),(3:Int)),((180:Int),(180:Int),(13:
 Int)),((182:Int),(184:Int),(13:Int)),((185:Int),(185:Int),(3:Int)),((187:Int),(191:Int),(13:Int)),((215:Int),(215:Int),(13:Int)),((247:Int),(247:Int),(13:Int)),((768:Int),(879:Int),(8:
 Int)),((1425:Int),(1469:Int),(8:Int)),((1470:Int),(1470:Int),(1:Int)),((1471:Int),(1471:Int),(8:Int)),((1472:Int),(1472:Int),(1:Int)),((1473:Int),(1474:Int),(8:Int)),((1488:Int),(1524:Int),
 (1:Int)),((1536:Int),(1541:Int),(6:Int)),((1542:Int),(1543:Int),(13:Int)),((1544:Int),(1544:Int),(2:Int)),((1545:Int),(1546:Int),(5:Int)),((1547:Int),(1547:Int),(2:Int)),((1548:Int),(1548:
 Int),(7:Int)),((1549:Int),(1549:Int),(2:Int)),((1552:Int),(1562:Int),(8:Int)),((1563:Int),(1610:Int),(2:Int)),((1611:Int),(1631:Int),(8:Int)),((1632:Int),(1641:Int),(6:Int)),((1642:Int),
 (1642:Int),(5:Int)),((1643:Int),(1644:Int),(6:Int)),((1645:Int),(1647:Int),(2:Int)),((1648:Int),(1648:Int),(8:Int)),((1649:Int),(1749:Int),(2:Int)),((8203:Int),(8205:Int),(9:Int)),((8207:
 Int),(8207:Int),(1:Int)),((8208:Int),(8231:Int),(13:Int)),((8232:Int),(8232:Int),(12:Int)),((8233:Int),(8233:Int),(10:Int)),((8234:Int),(8234:Int),(14:Int)),((8235:Int),(8235:Int),(16:
 Int)),((8236:Int),(8236:Int),(18:Int)),((8237:Int),(8237:Int),(15:Int)),((8238:Int),(8238:Int),(17:Int)),((8239:Int),(8239:Int),(7:Int)),((8240:Int),(8244:Int),(5:Int)),((8245:Int),(8259:
 Int),(13:Int)),((8294:Int),(8294:Int),(19:Int)),((8295:Int),(8295:Int),(20:Int)),((8296:Int),(8296:Int),(21:Int)),((8297:Int),(8297:Int),(22:Int)),((8304:Int),(8304:Int),(3:Int)),((8308:
 Int),(8313:Int),(3:Int)),((8352:Int),(8384:Int),(5:Int)),((8592:Int),(8721:Int),(13:Int)),((8722:Int),(8722:Int),(4:Int)),((8723:Int),(8723:Int),(5:Int)),((8724:Int),(9013:Int),(13:Int)),
 ((12296:Int),(12305:Int),(13:Int)),((65279:Int),(65279:Int),(9:Int)),((128512:Int),(128591:Int),(13:Int))]
theorem R.f66eq: ∀ x,zk R.C R.f66Γ R.f66sig R.f66ann Go.Proofs.Tryz.f66 x=R.f66F x:=by
 intro x
 kernel_rfl
noncomputable def R.f66con:Con:=⟨66,R.f66sig,R.f66F⟩
theorem R.f66ok:Con.Ok Go.Proofs.Tryz.prog R.C R.f66con:=
 zb (Γ:=R.f66Γ) (an:=R.f66ann) ⟨R.Cok,(fun _ h=>nomatch h),R.mixed⟩ Go.Proofs.Tryz.func66 rfl rfl (fun x y h=>(R.f66eq x).trans h) (by decide)
def R.f99sig:Sig:=⟨⟨[.hole (.st (.pair (.int .i64) (.pair (.int .i64) (.int .i64)))), .hole (.int .i64)], []⟩,⟨[.hole (.int .i64)], []⟩⟩
noncomputable def R.f99Γ:List Con:= []
def R.f99ann:Ann:=(.seq .leaf (.seq (.block (.seq .leaf (.cond (.seq .leaf .leaf) (.seq .leaf (.cond (.seq .leaf .leaf) .leaf))))) (.seq .leaf .leaf)))
noncomputable def R.f99F:(Int×Int×Int)×Int→Option (Int):=fun(x:(Int×Int×Int)×Int)=>if decide (x.1.2.1<x.2)=true then some (-1:Int) else if decide (x.1.1 > x.2)=true then some (1:Int) else some (0:Int)
theorem R.f99eq: ∀ x,zk R.C R.f99Γ R.f99sig R.f99ann Go.Proofs.Tryz.f99 x=R.f99F x:=by
 intro x
 kernel_rfl
noncomputable def R.f99con:Con:=⟨99,R.f99sig,R.f99F⟩
theorem R.f99ok:Con.Ok Go.Proofs.Tryz.prog R.C R.f99con:=
 zb (Γ:=R.f99Γ) (an:=R.f99ann) ⟨R.Cok,(fun _ h=>nomatch h),R.mixed⟩ Go.Proofs.Tryz.func99 rfl rfl (fun x y h=>(R.f99eq x).trans h) (by decide)
def R.f98sig:Sig:=⟨⟨[.hole (.sl (.st (.pair (.int .i64) (.pair (.int .i64) (.int .i64))))), .hole (.int .i64), .fnc 99 0], []⟩,⟨[.hole (.int .i64), .hole .bool], []⟩⟩
noncomputable def R.f98Γ:List Con:= [R.f99con]
def R.f98ann:Ann:=(.seq .leaf (.seq .leaf (.seq .leaf (.seq (.block (.loop ⟨.normal, [(9, .hole (.int .i64)),(10, .hole (.int .i64))], []⟩ [⟨(.exit 0), [(9, .hole (.int .i64))], []⟩] (.seq (.seq .leaf (.cond .leaf .leaf)) (.block (.seq
 .leaf (.seq .leaf (.cond .leaf .leaf))))))) (.seq .leaf .leaf)))))
noncomputable def R.f98F:List (Int×Int×Int)×Int→Option (Int×Bool):=fun(x:List (Int×Int×Int)×Int)=>Option.bind (iter (fun(s1:Int×Int)=>if decide (s1.1<s1.2)=true then if(0:Int)≤IntKind.i64.wrap
 (Int.fdiv (IntKind.wrap IntKind.u64 (IntKind.i64.wrap (s1.1+s1.2))) ((2:Int) ^ Min.min (Int.toNat (1:Int)) (IntKind.bits IntKind.u64)))∧IntKind.i64.wrap (Int.fdiv (IntKind.wrap IntKind.u64 (IntKind.i64.wrap (s1.1+s1.2))) ((2:
 Int) ^ Min.min (Int.toNat (1:Int)) (IntKind.bits IntKind.u64)))<(x.1.length:Int) then Option.bind (R.f99F (List.getD x.1 (Int.toNat (IntKind.i64.wrap (Int.fdiv (IntKind.wrap IntKind.u64 (IntKind.i64.wrap (s1.1+s1.2))) ((2:Int) ^
 Min.min (Int.toNat (1:Int)) (IntKind.bits IntKind.u64))))) ((0:Int),(0:Int),(0:Int)),x.2)) fun v2=>if decide (v2<(0:Int))=true then some (Sum.inl (IntKind.i64.wrap (IntKind.i64.wrap (Int.fdiv (IntKind.wrap IntKind.u64
 (IntKind.i64.wrap (s1.1+s1.2))) ((2:Int) ^ Min.min (Int.toNat (1:Int)) (IntKind.bits IntKind.u64)))+(1:Int)),s1.2)) else some (Sum.inl (s1.1,IntKind.i64.wrap (Int.fdiv (IntKind.wrap IntKind.u64 (IntKind.i64.wrap (s1.1+s1.2)))
 ((2:Int) ^ Min.min (Int.toNat (1:Int)) (IntKind.bits IntKind.u64))))) else none else some (Sum.inr s1.1)) ((0:Int),(x.1.length:Int))) fun v1=>if decide (v1<(x.1.length:Int))=true then if(0:Int)≤v1∧v1<(x.1.length:
 Int) then Option.bind (R.f99F (List.getD x.1 (Int.toNat v1) ((0:Int),(0:Int),(0:Int)),x.2)) fun v2=>some (v1,v2==(0:Int)) else none else some (v1,false)
theorem R.f98eq: ∀ x,zk R.C R.f98Γ R.f98sig R.f98ann Go.Proofs.Tryz.f98 x=R.f98F x:=by
 intro x
 kernel_rfl
noncomputable def R.f98con:Con:=⟨98,R.f98sig,R.f98F⟩
theorem R.f98ok:Con.Ok Go.Proofs.Tryz.prog R.C R.f98con:=
 zb (Γ:=R.f98Γ) (an:=R.f98ann) ⟨R.Cok,(List.forall_mem_cons.2 ⟨R.f99ok,(fun _ h=>nomatch h)⟩),R.mixed⟩ Go.Proofs.Tryz.func98 rfl rfl (fun x y h=>(R.f98eq x).trans h) (by decide)
def R.f67sig:Sig:=⟨⟨[.hole (.sl (.st (.pair (.int .i64) (.pair (.int .i64) (.int .i64))))), .hole (.int .i64)], []⟩,⟨[.hole (.int .i64)], []⟩⟩
noncomputable def R.f67Γ:List Con:= [R.f98con,R.f99con]
def R.f67ann:Ann:=(.seq .leaf (.seq .leaf (.seq (.seq .leaf (.cond (.seq .leaf .leaf) .leaf)) (.seq .leaf .leaf))))
noncomputable def R.f67F:List (Int×Int×Int)×Int→Option (Int):=fun(x:List (Int×Int×Int)×Int)=>Option.bind (R.f98F (x.1,x.2)) fun v1=>if(!v1.2)=true then some (0:Int) else if(0:Int)≤v1.1∧v1.1<
 (x.1.length:Int) then some (List.getD x.1 (Int.toNat v1.1) ((0:Int),(0:Int),(0:Int))).2.2 else none
theorem R.f67eq: ∀ x,zk R.C R.f67Γ R.f67sig R.f67ann Go.Proofs.Tryz.f67 x=R.f67F x:=by
 intro x
 kernel_rfl
noncomputable def R.f67con:Con:=⟨67,R.f67sig,R.f67F⟩
theorem R.f67ok:Con.Ok Go.Proofs.Tryz.prog R.C R.f67con:=
 zb (Γ:=R.f67Γ) (an:=R.f67ann) ⟨R.Cok,(List.forall_mem_cons.2 ⟨R.f98ok,(List.forall_mem_cons.2 ⟨R.f99ok,(fun _ h=>nomatch h)⟩)⟩),R.mixed⟩ Go.Proofs.Tryz.func67 rfl rfl (fun x y h=>(R.f67eq x).trans h) (by decide)
def R.f45sig:Sig:=⟨⟨[.hole (.sl (.int .i64))], []⟩,⟨[.hole (.sl (.int .i64))], []⟩⟩
noncomputable def R.f45Γ:List Con:= [R.f66con,R.f67con]
def R.f45ann:Ann:=(.seq .leaf (.seq .leaf (.seq .leaf (.seq (.seq .leaf (.block (.loop ⟨.normal, [(4, .own 0),(10, .hole (.int .i64))], [.arr 3 (.int .i64)]⟩ [⟨(.exit 0), [(4, .own 0)], [.arr 3 (.int .i64)]⟩] (.seq .leaf (.seq (.cond
 .leaf .leaf) (.seq (.block (.seq .leaf .leaf)) .leaf)))))) (.seq .leaf .leaf)))))
noncomputable def R.f45F:List Int→Option (List Int):=fun(x:List Int)=>Option.bind (R.f66F ()) fun(v1:List (Int×Int×Int))=>Option.bind (iter (fun(s2:Int×List Int)=>if decide (s2.1<(x.length:Int))=true then if
 (0:Int)≤s2.1∧s2.1<(x.length:Int) then Option.bind (R.f67F (v1,List.getD x (Int.toNat s2.1) (0:Int))) fun v3=>if zi (List.length s2.2+(1:Nat)) (8:Nat) then some (Sum.inl (IntKind.i64.wrap (s2.1+(1:Int)),s2.2++
 [v3])) else none else none else some (Sum.inr s2.2)) ((0:Int), [])) fun(v2:List Int)=>some v2
theorem R.f45eq: ∀ x,zk R.C R.f45Γ R.f45sig R.f45ann Go.Proofs.Tryz.f45 x=R.f45F x:=by
 intro x
 kernel_rfl
noncomputable def R.f45con:Con:=⟨45,R.f45sig,R.f45F⟩
theorem R.f45ok:Con.Ok Go.Proofs.Tryz.prog R.C R.f45con:=
 zb (Γ:=R.f45Γ) (an:=R.f45ann) ⟨R.Cok,(List.forall_mem_cons.2 ⟨R.f66ok,(List.forall_mem_cons.2 ⟨R.f67ok,(fun _ h=>nomatch h)⟩)⟩),R.mixed⟩ Go.Proofs.Tryz.func45 rfl rfl (fun x y h=>(R.f45eq x).trans h) (by decide)
def R.f80sig:Sig:=⟨⟨[.hole (.sl (.int .i64))], []⟩,⟨[.hole (.int .u64)], []⟩⟩
noncomputable def R.f80Γ:List Con:= []
def R.f80ann:Ann:=(.seq .leaf (.seq (.seq .leaf (.block (.loop ⟨.normal, [(2, .hole (.int .u64)),(7, .hole (.int .i64))], []⟩ [⟨(.exit 0), [(2, .hole (.int .u64))], []⟩] (.seq .leaf (.seq (.cond .leaf .leaf) (.seq (.block (.seq .leaf
 .leaf)) .leaf)))))) (.seq .leaf .leaf)))
noncomputable def R.f80F:List Int→Option (Int):=fun(x:List Int)=>Option.bind (iter (fun(s1:Int×Int)=>if decide (s1.2<(x.length:Int))=true then if(0:Int)≤s1.2∧s1.2<(x.length:Int) then if List.getD x
 (Int.toNat s1.2) (0:Int)<(0:Int) then none else some (Sum.inl (IntKind.wrap IntKind.u64 (↑(BitVec.toNat (BitVec.ofInt (IntKind.bits IntKind.u64) s1.1 ||| BitVec.ofInt (IntKind.bits IntKind.u64) (IntKind.wrap IntKind.u64 ((1:Int)*
 (2:Int) ^ Min.min (Int.toNat (List.getD x (Int.toNat s1.2) (0:Int))) (IntKind.bits IntKind.u64))))):Int),IntKind.i64.wrap (s1.2+(1:Int)))) else none else some (Sum.inr s1.1)) ((0:Int),(0:Int))) fun v1=>some v1
theorem R.f80eq: ∀ x,zk R.C R.f80Γ R.f80sig R.f80ann Go.Proofs.Tryz.f80 x=R.f80F x:=by
 intro x
 kernel_rfl
noncomputable def R.f80con:Con:=⟨80,R.f80sig,R.f80F⟩
theorem R.f80ok:Con.Ok Go.Proofs.Tryz.prog R.C R.f80con:=
 zb (Γ:=R.f80Γ) (an:=R.f80ann) ⟨R.Cok,(fun _ h=>nomatch h),R.mixed⟩ Go.Proofs.Tryz.func80 rfl rfl (fun x y h=>(R.f80eq x).trans h) (by decide)
def R.f79sig:Sig:=⟨⟨[.hole (.int .i64), .hole (.int .u64)], []⟩,⟨[.hole .bool], []⟩⟩
noncomputable def R.f79Γ:List Con:= []
def R.f79ann:Ann:=(.seq .leaf (.seq .leaf .leaf))
noncomputable def R.f79F:Int×Int→Option (Bool):=fun(x:Int×Int)=>if decide (x.1≥(0:Int))=true then if decide (x.1≤(22:Int))=true then if x.1<(0:Int) then none else some (IntKind.wrap IntKind.u64 (↑(BitVec.toNat
 (BitVec.ofInt (IntKind.bits IntKind.u64) (Int.fdiv x.2 ((2:Int) ^ Min.min (Int.toNat x.1) (IntKind.bits IntKind.u64))) &&& BitVec.ofInt (IntKind.bits IntKind.u64) (1:Int))):Int)==(1:Int)) else some false else some false
theorem R.f79eq: ∀ x,zk R.C R.f79Γ R.f79sig R.f79ann Go.Proofs.Tryz.f79 x=R.f79F x:=by
 intro x
 kernel_rfl
noncomputable def R.f79con:Con:=⟨79,R.f79sig,R.f79F⟩
theorem R.f79ok:Con.Ok Go.Proofs.Tryz.prog R.C R.f79con:=
 zb (Γ:=R.f79Γ) (an:=R.f79ann) ⟨R.Cok,(fun _ h=>nomatch h),R.mixed⟩ Go.Proofs.Tryz.func79 rfl rfl (fun x y h=>(R.f79eq x).trans h) (by decide)
def R.f53sig:Sig:=⟨⟨[.hole (.int .i64)], []⟩,⟨[.hole .bool], []⟩⟩
noncomputable def R.f53Γ:List Con:= [R.f80con,R.f79con]
def R.f53ann:Ann:=(.seq .leaf (.seq .leaf .leaf))
noncomputable def R.f53F:Int→Option (Bool):=fun(x:Int)=>Option.bind (R.f80F [(19:Int),(20:Int),(21:Int)]) fun v1=>Option.bind (R.f79F (x,v1)) fun v2=>some v2
theorem R.f53eq: ∀ x,zk R.C R.f53Γ R.f53sig R.f53ann Go.Proofs.Tryz.f53 x=R.f53F x:=by
 intro x
 kernel_rfl
noncomputable def R.f53con:Con:=⟨53,R.f53sig,R.f53F⟩
theorem R.f53ok:Con.Ok Go.Proofs.Tryz.prog R.C R.f53con:=
 zb (Γ:=R.f53Γ) (an:=R.f53ann) ⟨R.Cok,(List.forall_mem_cons.2 ⟨R.f80ok,(List.forall_mem_cons.2 ⟨R.f79ok,(fun _ h=>nomatch h)⟩)⟩),R.mixed⟩ Go.Proofs.Tryz.func53 rfl rfl (fun x y h=>(R.f53eq x).trans h) (by decide)
def R.f71sig:Sig:=⟨⟨[.hole (.sl (.int .i64))], []⟩,⟨[.hole (.sl (.int .i64))], []⟩⟩
noncomputable def R.f71Γ:List Con:= [R.f53con]
def R.f71ann:Ann:=(.seq .leaf (.seq .leaf (.seq .leaf (.seq (.seq .leaf (.block (.loop ⟨.normal, [(4, .own 1),(13, .hole (.int .i64))], [.arr 3 (.int .i64), .arr 3 (.int .i64)]⟩ [⟨(.exit 0), [], [.arr 3 (.int .i64)]⟩] (.seq .leaf (.seq
 (.cond .leaf .leaf) (.seq (.block (.seq .leaf (.seq .leaf (.block (.seq .leaf (.cond .leaf (.seq .leaf (.cond .leaf (.seq (.join [⟨.normal, [(31, .hole .bool)], [.arr 3 (.int .i64), .arr 3 (.int .i64)]⟩] .leaf) (.cond (.seq .leaf (.seq
 .leaf .leaf)) .leaf)))))))))) .leaf)))))) (.seq .leaf .leaf)))))
noncomputable def R.f71F:List Int→Option (List Int):=fun(x:List Int)=>if(0:Int)≤(x.length:Int)∧(x.length:Int)≤(x.length:Int)∧zi (Int.toNat (x.length:Int)) (8:Nat) then Option.bind (iter (fun(s1:Int×
 List Int×List Int)=>if decide (s1.1<(x.length:Int))=true then if(0:Int)≤s1.1∧s1.1<(x.length:Int) then if(0:Int)≤s1.1∧s1.1<(s1.2.1.length:Int) then if(List.getD x (Int.toNat s1.1) (0:Int)==(10:Int))=
 true then some (Sum.inl (IntKind.i64.wrap (s1.1+(1:Int)),List.set s1.2.1 (Int.toNat s1.1) (-1:Int), [])) else Option.bind (R.f53F (List.getD x (Int.toNat s1.1) (0:Int))) fun v2=>if v2=true then if zi (List.length s1.2.2+
 (1:Nat)) (8:Nat) then some (Sum.inl (IntKind.i64.wrap (s1.1+(1:Int)),List.set s1.2.1 (Int.toNat s1.1) (-1:Int),s1.2.2++ [s1.1])) else none else Option.bind (if(List.getD x (Int.toNat s1.1) (0:Int)==(22:Int))=true then
 some (decide ((s1.2.2.length:Int) > (0:Int)),List.set s1.2.1 (Int.toNat s1.1) (-1:Int),s1.2.2) else some (false,List.set s1.2.1 (Int.toNat s1.1) (-1:Int),s1.2.2)) fun(v3:Bool×List Int×List Int)=>if v3.1=true then if
 (0:Int)≤IntKind.i64.wrap ((v3.2.2.length:Int) - (1:Int))∧IntKind.i64.wrap ((v3.2.2.length:Int) - (1:Int))<(v3.2.2.length:Int) then if(0:Int)≤IntKind.i64.wrap ((v3.2.2.length:Int) - (1:Int))∧IntKind.i64.wrap
 ((v3.2.2.length:Int) - (1:Int))≤(v3.2.2.length:Int) then if(0:Int)≤s1.1∧s1.1<(v3.2.1.length:Int) then if(0:Int)≤List.getD v3.2.2 (Int.toNat (IntKind.i64.wrap ((v3.2.2.length:Int) - (1:Int)))) (0:Int)∧
 List.getD v3.2.2 (Int.toNat (IntKind.i64.wrap ((v3.2.2.length:Int) - (1:Int)))) (0:Int)<(↑(List.length (List.set v3.2.1 (Int.toNat s1.1) (List.getD v3.2.2 (Int.toNat (IntKind.i64.wrap ((v3.2.2.length:Int) - (1:Int)))) (0:
 Int)))):Int) then some (Sum.inl (IntKind.i64.wrap (s1.1+(1:Int)),List.set (List.set v3.2.1 (Int.toNat s1.1) (List.getD v3.2.2 (Int.toNat (IntKind.i64.wrap ((v3.2.2.length:Int) - (1:Int)))) (0:Int))) (Int.toNat (List.getD v3.2.2
 (Int.toNat (IntKind.i64.wrap ((v3.2.2.length:Int) - (1:Int)))) (0:Int))) s1.1,List.take (Int.toNat (IntKind.i64.wrap ((v3.2.2.length:Int) - (1:Int)))) v3.2.2)) else none else none else none else none else some (Sum.inl
 (IntKind.i64.wrap (s1.1+(1:Int)),v3.2.1,v3.2.2)) else none else none else some (Sum.inr s1.2.1)) ((0:Int),List.replicate (Int.toNat (x.length:Int)) (0:Int), [])) fun(v1:List Int)=>some v1 else none
theorem R.f71eq: ∀ x,zk R.C R.f71Γ R.f71sig R.f71ann Go.Proofs.Tryz.f71 x=R.f71F x:=by
 intro x
 kernel_rfl
noncomputable def R.f71con:Con:=⟨71,R.f71sig,R.f71F⟩
theorem R.f71ok:Con.Ok Go.Proofs.Tryz.prog R.C R.f71con:=
 zb (Γ:=R.f71Γ) (an:=R.f71ann) ⟨R.Cok,(List.forall_mem_cons.2 ⟨R.f53ok,(fun _ h=>nomatch h)⟩),R.mixed⟩ Go.Proofs.Tryz.func71 rfl rfl (fun x y h=>(R.f71eq x).trans h) (by decide)
def R.f142sig:Sig:=⟨⟨[.hole (.int .i64)], []⟩,⟨[.hole .str], []⟩⟩
noncomputable def R.f142Γ:List Con:= []
def R.f142ann:Ann:=(.seq .leaf (.seq (.seq (.join [⟨.normal, [(8, .hole .bool)], []⟩] .leaf) (.cond (.seq .leaf .leaf) .leaf)) (.seq .leaf .leaf)))
noncomputable def R.f142F:Int→Option (ByteArray):=fun(x:Int)=>Option.bind (if decide (x<(0:Int))=true then some true else some (decide (x≥(23:Int)))) fun v1=>if v1=true then some { data:= #[]:ByteArray} else if
 (0:Int)≤x∧x<(↑(23:Nat):Int) then some (List.getD R.words (Int.toNat x) ByteArray.empty) else none
theorem R.f142eq: ∀ x,zk R.C R.f142Γ R.f142sig R.f142ann Go.Proofs.Tryz.f142 x=R.f142F x:=by
 intro x
 kernel_rfl
noncomputable def R.f142con:Con:=⟨142,R.f142sig,R.f142F⟩
theorem R.f142ok:Con.Ok Go.Proofs.Tryz.prog R.C R.f142con:=
 zb (Γ:=R.f142Γ) (an:=R.f142ann) ⟨R.Cok,(fun _ h=>nomatch h),R.mixed⟩ Go.Proofs.Tryz.func142 rfl rfl (fun x y h=>(R.f142eq x).trans h) (by decide)
def R.f133sig:Sig:=⟨⟨[.hole (.int .i64)], []⟩,⟨[.hole (.int .i64)], []⟩⟩
noncomputable def R.f133Γ:List Con:= [R.f142con]
def R.f133ann:Ann:=(.seq .leaf (.seq (.block (.seq (.join [⟨.normal, [(3, .hole .bool)], []⟩] .leaf) (.cond (.seq .leaf .leaf) (.seq (.join [⟨.normal, [(10, .hole .bool)], []⟩] .leaf) (.cond (.seq .leaf .leaf) .leaf))))) (.seq .leaf
 .leaf)))
noncomputable def R.f133F:Int→Option (Int):=fun(x:Int)=>Option.bind (if(x==(1:Int))=true then some true else some (x==(2:Int))) fun v1=>if v1=true then some (1:Int) else Option.bind (if(x==(0:Int))=true
 then some true else Option.bind (R.f142F x) fun v2=>some (ByteArray.toList v2==ByteArray.toList { data:= #[]:ByteArray})) fun v2=>if v2=true then some (0:Int) else some (-1:Int)
theorem R.f133eq: ∀ x,zk R.C R.f133Γ R.f133sig R.f133ann Go.Proofs.Tryz.f133 x=R.f133F x:=by
 intro x
 kernel_rfl
noncomputable def R.f133con:Con:=⟨133,R.f133sig,R.f133F⟩
theorem R.f133ok:Con.Ok Go.Proofs.Tryz.prog R.C R.f133con:=
 zb (Γ:=R.f133Γ) (an:=R.f133ann) ⟨R.Cok,(List.forall_mem_cons.2 ⟨R.f142ok,(fun _ h=>nomatch h)⟩),R.mixed⟩ Go.Proofs.Tryz.func133 rfl rfl (fun x y h=>(R.f133eq x).trans h) (by decide)
def R.f100sig:Sig:=⟨⟨[.hole (.sl (.int .i64)), .hole (.sl (.int .i64)), .hole (.int .i64), .hole (.int .i64)], []⟩,⟨[.hole (.int .i64)], []⟩⟩
noncomputable def R.f100Γ:List Con:= [R.f53con,R.f133con]
def R.f100ann:Ann:=(.seq .leaf (.seq .leaf (.seq (.seq .leaf (.block (.loop ⟨.normal, [(9, .hole (.int .i64))], []⟩ [⟨(.exit 0), [], []⟩,⟨.ret, [(8, .hole (.int .i64))], []⟩] (.seq (.seq (.join [⟨.normal, [(26, .hole .bool)], []⟩]
 .leaf) (.cond .leaf .leaf)) (.seq (.block (.seq (.seq .leaf (.cond (.seq (.seq .leaf (.seq .leaf (.cond (.seq .leaf .leaf) .leaf))) .leaf) .leaf)) (.seq .leaf (.seq .leaf (.cond (.seq .leaf .leaf) .leaf))))) .leaf))))) (.seq .leaf
 .leaf))))
noncomputable def R.f100F:List Int×List Int×Int×Int→Option (Int):=fun(x:List Int×List Int×Int×Int)=>Option.bind (iter (fun(s1:Int)=>Option.bind (if decide (s1<zen x.2.2.2 (x.1.length:Int))=true then if(0
 :Int)≤s1∧s1<(x.1.length:Int) then some (List.getD x.1 (Int.toNat s1) (0:Int)!=(10:Int)) else none else some false) fun v2=>if v2=true then if(0:Int)≤s1∧s1<(x.1.length:Int) then Option.bind (R.f53F (List.getD
 x.1 (Int.toNat s1) (0:Int))) fun v3=>if v3=true then if(0:Int)≤s1∧s1<(x.2.1.length:Int) then if(List.getD x.2.1 (Int.toNat s1) (0:Int)==(-1:Int))=true then some (Sum.inr (Sum.inr (-1:Int))) else some (Sum.inl
 (IntKind.i64.wrap (List.getD x.2.1 (Int.toNat s1) (0:Int)+(1:Int)))) else none else if(0:Int)≤s1∧s1<(x.1.length:Int) then Option.bind (R.f133F (List.getD x.1 (Int.toNat s1) (0:Int))) fun v4=>if(v4 !=(-1:Int))=true
 then some (Sum.inr (Sum.inr v4)) else some (Sum.inl (IntKind.i64.wrap (s1+(1:Int)))) else none else none else some (Sum.inr (Sum.inl ()))) (zif (0:Int) x.2.2.1)) fun v1=>Sum.elim (fun(p2:PUnit)=>some (-1:Int)) (fun(q2:
 Int)=>some q2) v1
theorem R.f100eq: ∀ x,zk R.C R.f100Γ R.f100sig R.f100ann Go.Proofs.Tryz.f100 x=R.f100F x:=by
 intro x
 kernel_rfl
noncomputable def R.f100con:Con:=⟨100,R.f100sig,R.f100F⟩
theorem R.f100ok:Con.Ok Go.Proofs.Tryz.prog R.C R.f100con:=
 zb (Γ:=R.f100Γ) (an:=R.f100ann) ⟨R.Cok,(List.forall_mem_cons.2 ⟨R.f53ok,(List.forall_mem_cons.2 ⟨R.f133ok,(fun _ h=>nomatch h)⟩)⟩),R.mixed⟩ Go.Proofs.Tryz.func100 rfl rfl (fun x y h=>(R.f100eq x).trans h) (by decide)
def R.f68sig:Sig:=⟨⟨[.hole (.sl (.int .i64)), .hole (.int .i64), .hole (.int .i64)], []⟩,⟨[.hole (.int .i64)], []⟩⟩
noncomputable def R.f68Γ:List Con:= [R.f71con,R.f100con]
def R.f68ann:Ann:=(.seq .leaf (.seq .leaf .leaf))
noncomputable def R.f68F:List Int×Int×Int→Option (Int):=fun(x:List Int×Int×Int)=>Option.bind (R.f71F x.1) fun(v1:List Int)=>Option.bind (R.f100F (x.1,v1,x.2.1,x.2.2)) fun v2=>some v2
theorem R.f68eq: ∀ x,zk R.C R.f68Γ R.f68sig R.f68ann Go.Proofs.Tryz.f68 x=R.f68F x:=by
 intro x
 kernel_rfl
noncomputable def R.f68con:Con:=⟨68,R.f68sig,R.f68F⟩
theorem R.f68ok:Con.Ok Go.Proofs.Tryz.prog R.C R.f68con:=
 zb (Γ:=R.f68Γ) (an:=R.f68ann) ⟨R.Cok,(List.forall_mem_cons.2 ⟨R.f71ok,(List.forall_mem_cons.2 ⟨R.f100ok,(fun _ h=>nomatch h)⟩)⟩),R.mixed⟩ Go.Proofs.Tryz.func68 rfl rfl (fun x y h=>(R.f68eq x).trans h) (by decide)
def R.f46sig:Sig:=⟨⟨[.hole (.sl (.int .i64)), .hole (.int .i64)], []⟩,⟨[.hole (.int .i64)], []⟩⟩
noncomputable def R.f46Γ:List Con:= [R.f68con]
def R.f46ann:Ann:=(.seq .leaf (.seq (.seq (.join [⟨.normal, [(10, .hole .bool)], []⟩] .leaf) (.cond (.seq .leaf .leaf) .leaf)) (.seq .leaf .leaf)))
noncomputable def R.f46F:List Int×Int→Option (Int):=fun(x:List Int×Int)=>Option.bind (if(x.2==(1:Int))=true then some true else some (x.2==(2:Int))) fun v1=>if v1=true then some (IntKind.i64.wrap (x.2 - (1:
 Int))) else Option.bind (R.f68F (x.1,(0:Int),(x.1.length:Int))) fun v2=>some (zif (0:Int) v2)
theorem R.f46eq: ∀ x,zk R.C R.f46Γ R.f46sig R.f46ann Go.Proofs.Tryz.f46 x=R.f46F x:=by
 intro x
 kernel_rfl
noncomputable def R.f46con:Con:=⟨46,R.f46sig,R.f46F⟩
theorem R.f46ok:Con.Ok Go.Proofs.Tryz.prog R.C R.f46con:=
 zb (Γ:=R.f46Γ) (an:=R.f46ann) ⟨R.Cok,(List.forall_mem_cons.2 ⟨R.f68ok,(fun _ h=>nomatch h)⟩),R.mixed⟩ Go.Proofs.Tryz.func46 rfl rfl (fun x y h=>(R.f46eq x).trans h) (by decide)
def R.f101sig:Sig:=⟨⟨[.ptr 0 0], [.cells [.hole (.int .i64), .own 1, .hole (.int .i64), .hole (.int .i64), .hole (.int .i64), .hole (.int .i64), .own 2, .own 3], .arr 148 (.st (.pair (.int .i64) (.pair (.int .i64) .bool))), .arr 3 (.int
 .i64), .arr 3 (.int .i64)]⟩,⟨[], [.cells [.hole (.int .i64), .own 4, .hole (.int .i64), .hole (.int .i64), .hole (.int .i64), .hole (.int .i64), .own 5, .own 6], .gone, .gone, .gone, .arr 148 (.st (.pair (.int .i64) (.pair (.int .i64)
 .bool))), .arr 3 (.int .i64), .arr 3 (.int .i64)]⟩⟩
noncomputable def R.f101Γ:List Con:= []
def R.f101ann:Ann:=(.seq (.eff 6 [] [0,0,2,6,14,30,0,64,192,448,960,1984,4094,8191,16383,32767]) (.seq .leaf .leaf))
noncomputable def R.f101F:Int×Int×Int×Int×Int×List (Int×Int×Bool)×List Int×List Int→Option (Int×Int×Int×Int×Int×List (Int×Int×Bool)×List Int×List Int):=fun(x:Int×Int×Int×Int×Int×List
 (Int×Int×Bool)×List Int×List Int)=>if(0:Int)≤(0:Int)∧(0:Int)≤(x.2.2.2.2.2.1.length:Int) then if zi (Int.toNat (0:Int)+(1:Nat)) (24:Nat) then some (x.1,(0:Int),(0:Int),(0:Int),zif x.2.2.2.2.1
 (1:Int),List.take (Int.toNat (0:Int)) x.2.2.2.2.2.1++ [(x.1,(-1:Int),false)],x.2.2.2.2.2.2.1,x.2.2.2.2.2.2.2) else none else none
theorem R.f101eq: ∀ x,zk R.C R.f101Γ R.f101sig R.f101ann Go.Proofs.Tryz.f101 x=R.f101F x:=by
 intro x
 kernel_rfl
noncomputable def R.f101con:Con:=⟨101,R.f101sig,R.f101F⟩
theorem R.f101ok:Con.Ok Go.Proofs.Tryz.prog R.C R.f101con:=
 zb (Γ:=R.f101Γ) (an:=R.f101ann) ⟨R.Cok,(fun _ h=>nomatch h),R.mixed⟩ Go.Proofs.Tryz.func101 rfl rfl (fun x y h=>(R.f101eq x).trans h) (by decide)
def R.f135sig:Sig:=⟨⟨[.ro (.st (.pair (.int .i64) (.pair (.sl (.st (.pair (.int .i64) (.pair (.int .i64) .bool)))) (.pair (.int .i64) (.pair (.int .i64) (.pair (.int .i64) (.pair (.int .i64) (.pair (.sl (.int .i64)) (.sl (.int
 .i64))))))))))], []⟩,⟨[.hole (.st (.pair (.int .i64) (.pair (.int .i64) .bool)))], []⟩⟩
noncomputable def R.f135Γ:List Con:= []
def R.f135ann:Ann:=(.seq .leaf (.seq (.tail 12) .leaf))
noncomputable def R.f135F:Int×List (Int×Int×Bool)×Int×Int×Int×Int×List Int×List Int→Option (Int×Int×Bool):=fun(x:Int×List (Int×Int×Bool)×Int×Int×Int×Int×List Int×List Int)=>if(0:Int)≤
 IntKind.i64.wrap ((x.2.1.length:Int) - (1:Int))∧IntKind.i64.wrap ((x.2.1.length:Int) - (1:Int))<(x.2.1.length:Int) then some ((List.getD x.2.1 (Int.toNat (IntKind.i64.wrap ((x.2.1.length:Int) - (1:Int)))) ((0:Int),(0:
 Int),false)).1,(List.getD x.2.1 (Int.toNat (IntKind.i64.wrap ((x.2.1.length:Int) - (1:Int)))) ((0:Int),(0:Int),false)).2.1,(List.getD x.2.1 (Int.toNat (IntKind.i64.wrap ((x.2.1.length:Int) - (1:Int)))) ((0:Int),(0:
 Int),false)).2.2) else none
theorem R.f135eq: ∀ x,zk R.C R.f135Γ R.f135sig R.f135ann Go.Proofs.Tryz.f135 x=R.f135F x:=by
 intro x
 kernel_rfl
noncomputable def R.f135con:Con:=⟨135,R.f135sig,R.f135F⟩
theorem R.f135ok:Con.Ok Go.Proofs.Tryz.prog R.C R.f135con:=
 zb (Γ:=R.f135Γ) (an:=R.f135ann) ⟨R.Cok,(fun _ h=>nomatch h),R.mixed⟩ Go.Proofs.Tryz.func135 rfl rfl (fun x y h=>(R.f135eq x).trans h) (by decide)
def R.f134sig:Sig:=⟨⟨[.ptr 0 0, .hole (.int .i64), .hole (.int .i64)], [.cells [.hole (.int .i64), .own 1, .hole (.int .i64), .hole (.int .i64), .hole (.int .i64), .hole (.int .i64), .own 2, .own 3], .arr 148 (.st (.pair (.int .i64)
 (.pair (.int .i64) .bool))), .arr 3 (.int .i64), .arr 3 (.int .i64)]⟩,⟨[], [.cells [.hole (.int .i64), .own 4, .hole (.int .i64), .hole (.int .i64), .hole (.int .i64), .hole (.int .i64), .own 5, .own 6], .gone, .gone, .gone, .arr 148 (.st
 (.pair (.int .i64) (.pair (.int .i64) .bool))), .arr 3 (.int .i64), .arr 3 (.int .i64)]⟩⟩
noncomputable def R.f134Γ:List Con:= []
def R.f134ann:Ann:=(.eff 7 [14] [0,0,0,4,12,28,0,64,252,0,512,1536,3584,0,8192,32764,65533,131069,262141,524287,1048575,2097151])
noncomputable def R.f134F:Int×Int×Int×Int×Int×Int×Int×List (Int×Int×Bool)×List Int×List Int→Option (Int×Int×Int×Int×Int×List (Int×Int×Bool)×List Int×List Int):=fun(x:Int×Int×Int×Int×
 Int×Int×Int×List (Int×Int×Bool)×List Int×List Int)=>if zi (List.length x.2.2.2.2.2.2.2.2.1+(1:Nat)) (8:Nat) then if zi (List.length x.2.2.2.2.2.2.2.2.2+(1:Nat)) (8:Nat) then some (x.2.2.1,x.2.2.2.1,
 x.2.2.2.2.1,x.2.2.2.2.2.1,x.2.2.2.2.2.2.1,x.2.2.2.2.2.2.2.1,x.2.2.2.2.2.2.2.2.1++ [x.1],x.2.2.2.2.2.2.2.2.2++ [x.2.1]) else none else none
theorem R.f134eq: ∀ x,zk R.C R.f134Γ R.f134sig R.f134ann Go.Proofs.Tryz.f134 x=R.f134F x:=by
 intro x
 kernel_rfl
noncomputable def R.f134con:Con:=⟨134,R.f134sig,R.f134F⟩
theorem R.f134ok:Con.Ok Go.Proofs.Tryz.prog R.C R.f134con:=
 zb (Γ:=R.f134Γ) (an:=R.f134ann) ⟨R.Cok,(fun _ h=>nomatch h),R.mixed⟩ Go.Proofs.Tryz.func134 rfl rfl (fun x y h=>(R.f134eq x).trans h) (by decide)
def R.f166sig:Sig:=⟨⟨[.hole (.int .i64), .hole (.int .i64)], []⟩,⟨[.hole (.int .i64)], []⟩⟩
noncomputable def R.f166Γ:List Con:= []
def R.f166ann:Ann:=(.seq .leaf (.seq (.seq (.join [⟨.normal, [(10, .hole .bool)], []⟩] .leaf) (.cond (.seq .leaf .leaf) .leaf)) (.seq (.seq .leaf (.cond (.seq .leaf .leaf) .leaf)) (.seq .leaf .leaf))))
noncomputable def R.f166F:Int×Int→Option (Int):=fun(x:Int×Int)=>Option.bind (if decide (x.1<(0:Int))=true then some true else some (decide (x.1 > (125:Int)))) fun v1=>if v1=true then some (-1:Int) else if(x.2
 ==(1:Int))=true then some (IntKind.i64.wrap (↑(BitVec.toNat (BitVec.ofInt (IntKind.bits IntKind.i64) (IntKind.i64.wrap (x.1+(1:Int))) ||| BitVec.ofInt (IntKind.bits IntKind.i64) (1:Int))):Int)) else some (IntKind.i64.wrap
 (↑(BitVec.toNat (BitVec.ofInt (IntKind.bits IntKind.i64) (IntKind.i64.wrap (x.1+(2:Int))) &&& ~~~BitVec.ofInt (IntKind.bits IntKind.i64) (1:Int))):Int))
theorem R.f166eq: ∀ x,zk R.C R.f166Γ R.f166sig R.f166ann Go.Proofs.Tryz.f166 x=R.f166F x:=by
 intro x
 kernel_rfl
noncomputable def R.f166con:Con:=⟨166,R.f166sig,R.f166F⟩
theorem R.f166ok:Con.Ok Go.Proofs.Tryz.prog R.C R.f166con:=
 zb (Γ:=R.f166Γ) (an:=R.f166ann) ⟨R.Cok,(fun _ h=>nomatch h),R.mixed⟩ Go.Proofs.Tryz.func166 rfl rfl (fun x y h=>(R.f166eq x).trans h) (by decide)
def R.f165sig:Sig:=⟨⟨[.ptr 0 0, .hole (.st (.pair (.int .i64) (.pair (.int .i64) .bool)))], [.cells [.hole (.int .i64), .own 1, .hole (.int .i64), .hole (.int .i64), .hole (.int .i64), .hole (.int .i64), .own 2, .own 3], .arr 148 (.st
 (.pair (.int .i64) (.pair (.int .i64) .bool))), .arr 3 (.int .i64), .arr 3 (.int .i64)]⟩,⟨[.hole .bool], [.cells [.hole (.int .i64), .own 4, .hole (.int .i64), .hole (.int .i64), .hole (.int .i64), .hole (.int .i64), .own 5, .own 6],
 .gone, .gone, .gone, .arr 148 (.st (.pair (.int .i64) (.pair (.int .i64) .bool))), .arr 3 (.int .i64), .arr 3 (.int .i64)]⟩⟩
noncomputable def R.f165Γ:List Con:= []
def R.f165ann:Ann:=(.seq .leaf (.seq (.seq (.join [⟨.normal, [(21, .hole .bool)], [.cells [.hole (.int .i64), .own 1, .hole (.int .i64), .hole (.int .i64), .hole (.int .i64), .hole (.int .i64), .own 2, .own 3], .arr 148 (.st (.pair
 (.int .i64) (.pair (.int .i64) .bool))), .arr 3 (.int .i64), .arr 3 (.int .i64), .cells [.hole (.int .i64), .hole (.int .i64), .hole .bool]]⟩] .leaf) (.cond (.seq .leaf .leaf) .leaf)) (.seq (.eff 7 [] [0,0,2,6,14,0,32,126,255,511,
 1023]) (.seq (.tail 13) (.seq .leaf .leaf)))))
noncomputable def R.f165F:(Int×Int×Bool)×Int×Int×Int×Int×Int×List (Int×Int×Bool)×List Int×List Int→Option (Bool×Int×Int×Int×Int×Int×List (Int×Int×Bool)×List Int×List Int):=fun(x:(Int×
 Int×Bool)×Int×Int×Int×Int×Int×List (Int×Int×Bool)×List Int×List Int)=>Option.bind (if decide (x.1.1 > (125:Int))=true then some (true,x.2.1,x.2.2.1,x.2.2.2.1,x.2.2.2.2.1,x.2.2.2.2.2.1,x.2.2.2.2.2.2.1,
 x.2.2.2.2.2.2.2.1,x.2.2.2.2.2.2.2.2,x.1.1,x.1.2.1,x.1.2.2) else if decide (x.2.2.1 > (0:Int))=true then some (true,x.2.1,x.2.2.1,x.2.2.2.1,x.2.2.2.2.1,x.2.2.2.2.2.1,x.2.2.2.2.2.2.1,x.2.2.2.2.2.2.2.1,x.2.2.2.2.2.2.2.2,x.1.1,
 x.1.2.1,x.1.2.2) else some (decide (x.2.2.2.1 > (0:Int)),x.2.1,x.2.2.1,x.2.2.2.1,x.2.2.2.2.1,x.2.2.2.2.2.1,x.2.2.2.2.2.2.1,x.2.2.2.2.2.2.2.1,x.2.2.2.2.2.2.2.2,x.1.1,x.1.2.1,x.1.2.2)) fun(v1:Bool×Int×Int×Int×Int×
 Int×List (Int×Int×Bool)×List Int×List Int×Int×Int×Bool)=>if v1.1=true then some (false,v1.2.1,v1.2.2.1,v1.2.2.2.1,v1.2.2.2.2.1,v1.2.2.2.2.2.1,v1.2.2.2.2.2.2.1,v1.2.2.2.2.2.2.2.1,v1.2.2.2.2.2.2.2.2.1) else if
 zi (List.length v1.2.2.2.2.2.2.1+(1:Nat)) (24:Nat) then some (true,v1.2.1,v1.2.2.1,v1.2.2.2.1,v1.2.2.2.2.1,zif v1.2.2.2.2.2.1 (↑(List.length (v1.2.2.2.2.2.2.1++ [(v1.2.2.2.2.2.2.2.2.2.1,v1.2.2.2.2.2.2.2.2.2.2.1,
 v1.2.2.2.2.2.2.2.2.2.2.2)])):Int),v1.2.2.2.2.2.2.1++ [(v1.2.2.2.2.2.2.2.2.2.1,v1.2.2.2.2.2.2.2.2.2.2.1,v1.2.2.2.2.2.2.2.2.2.2.2)],v1.2.2.2.2.2.2.2.1,v1.2.2.2.2.2.2.2.2.1) else none
theorem R.f165eq: ∀ x,zk R.C R.f165Γ R.f165sig R.f165ann Go.Proofs.Tryz.f165 x=R.f165F x:=by
 intro x
 kernel_rfl
noncomputable def R.f165con:Con:=⟨165,R.f165sig,R.f165F⟩
theorem R.f165ok:Con.Ok Go.Proofs.Tryz.prog R.C R.f165con:=
 zb (Γ:=R.f165Γ) (an:=R.f165ann) ⟨R.Cok,(fun _ h=>nomatch h),R.mixed⟩ Go.Proofs.Tryz.func165 rfl rfl (fun x y h=>(R.f165eq x).trans h) (by decide)
def R.f136sig:Sig:=⟨⟨[.ptr 0 0, .hole (.int .i64), .hole (.int .i64)], [.cells [.hole (.int .i64), .own 1, .hole (.int .i64), .hole (.int .i64), .hole (.int .i64), .hole (.int .i64), .own 2, .own 3], .arr 148 (.st (.pair (.int .i64)
 (.pair (.int .i64) .bool))), .arr 3 (.int .i64), .arr 3 (.int .i64)]⟩,⟨[], [.cells [.hole (.int .i64), .own 4, .hole (.int .i64), .hole (.int .i64), .hole (.int .i64), .hole (.int .i64), .own 5, .own 6], .gone, .gone, .gone, .arr 148 (.st
 (.pair (.int .i64) (.pair (.int .i64) .bool))), .arr 3 (.int .i64), .arr 3 (.int .i64)]⟩⟩
noncomputable def R.f136Γ:List Con:= [R.f135con,R.f166con,R.f165con]
def R.f136ann:Ann:=(.seq (.join [⟨.normal, [(22, .hole .bool)], [.cells [.hole (.int .i64), .own 4, .hole (.int .i64), .hole (.int .i64), .hole (.int .i64), .hole (.int .i64), .own 5, .own 6], .gone, .gone, .gone, .arr 148 (.st (.pair
 (.int .i64) (.pair (.int .i64) .bool))), .arr 3 (.int .i64), .arr 3 (.int .i64)]⟩] .leaf) (.cond .leaf .leaf))
noncomputable def R.f136F:Int×Int×Int×Int×Int×Int×Int×List (Int×Int×Bool)×List Int×List Int→Option (Int×Int×Int×Int×Int×List (Int×Int×Bool)×List Int×List Int):=fun(x:Int×Int×Int×Int×
 Int×Int×Int×List (Int×Int×Bool)×List Int×List Int)=>Option.bind (Option.bind (R.f135F (x.2.2.1,x.2.2.2.2.2.2.2.1,x.2.2.2.1,x.2.2.2.2.1,x.2.2.2.2.2.1,x.2.2.2.2.2.2.1,x.2.2.2.2.2.2.2.2.1,x.2.2.2.2.2.2.2.2.2)) fun v1=>
 Option.bind (R.f166F (v1.1,x.1)) fun v2=>Option.bind (R.f165F ((v2,x.2.1,false),x.2.2.1,x.2.2.2.1,x.2.2.2.2.1,x.2.2.2.2.2.1,x.2.2.2.2.2.2.1,x.2.2.2.2.2.2.2.1,x.2.2.2.2.2.2.2.2.1,x.2.2.2.2.2.2.2.2.2)) fun(v3:Bool×Int×Int
 ×Int×Int×Int×List (Int×Int×Bool)×List Int×List Int)=>if(!v3.1)=true then some (v3.2.2.1==(0:Int),v3.2.1,v3.2.2.1,v3.2.2.2.1,v3.2.2.2.2.1,v3.2.2.2.2.2.1,v3.2.2.2.2.2.2.1,v3.2.2.2.2.2.2.2.1,v3.2.2.2.2.2.2.2.2)
 else some (false,v3.2.1,v3.2.2.1,v3.2.2.2.1,v3.2.2.2.2.1,v3.2.2.2.2.2.1,v3.2.2.2.2.2.2.1,v3.2.2.2.2.2.2.2.1,v3.2.2.2.2.2.2.2.2)) fun(v1:Bool×Int×Int×Int×Int×Int×List (Int×Int×Bool)×List Int×List Int)=>if
 v1.1=true then some (v1.2.1,v1.2.2.1,IntKind.i64.wrap (v1.2.2.2.1+(1:Int)),v1.2.2.2.2.1,v1.2.2.2.2.2.1,v1.2.2.2.2.2.2.1,v1.2.2.2.2.2.2.2.1,v1.2.2.2.2.2.2.2.2) else some (v1.2.1,v1.2.2.1,v1.2.2.2.1,v1.2.2.2.2.1,
 v1.2.2.2.2.2.1,v1.2.2.2.2.2.2.1,v1.2.2.2.2.2.2.2.1,v1.2.2.2.2.2.2.2.2)
theorem R.f136eq: ∀ x,zk R.C R.f136Γ R.f136sig R.f136ann Go.Proofs.Tryz.f136 x=R.f136F x:=by
 intro x
 kernel_rfl
noncomputable def R.f136con:Con:=⟨136,R.f136sig,R.f136F⟩
theorem R.f136ok:Con.Ok Go.Proofs.Tryz.prog R.C R.f136con:=
 zb (Γ:=R.f136Γ) (an:=R.f136ann) ⟨R.Cok,(List.forall_mem_cons.2 ⟨R.f135ok,(List.forall_mem_cons.2 ⟨R.f166ok,(List.forall_mem_cons.2 ⟨R.f165ok,(fun _ h=>nomatch h)⟩)⟩)⟩),R.mixed⟩ Go.Proofs.Tryz.func136 rfl rfl (fun x y h=>(R.f136eq x).trans h) (by decide)
def R.f167sig:Sig:=⟨⟨[.ptr 0 0], [.cells [.hole (.int .i64), .own 1, .hole (.int .i64), .hole (.int .i64), .hole (.int .i64), .hole (.int .i64), .own 2, .own 3], .arr 148 (.st (.pair (.int .i64) (.pair (.int .i64) .bool))), .arr 3 (.int
 .i64), .arr 3 (.int .i64)]⟩,⟨[.hole (.st (.pair (.int .i64) (.pair (.int .i64) .bool)))], [.cells [.hole (.int .i64), .own 4, .hole (.int .i64), .hole (.int .i64), .hole (.int .i64), .hole (.int .i64), .own 5, .own 6], .gone, .gone, .gone,
 .arr 148 (.st (.pair (.int .i64) (.pair (.int .i64) .bool))), .arr 3 (.int .i64), .arr 3 (.int .i64)]⟩⟩
noncomputable def R.f167Γ:List Con:= [R.f135con]
def R.f167ann:Ann:=(.seq .leaf (.seq .leaf (.seq (.tail 14) (.seq .leaf .leaf))))
noncomputable def R.f167F:Int×Int×Int×Int×Int×List (Int×Int×Bool)×List Int×List Int→Option ((Int×Int×Bool)×Int×Int×Int×Int×Int×List (Int×Int×Bool)×List Int×List Int):=fun(x:Int×Int×Int
 ×Int×Int×List (Int×Int×Bool)×List Int×List Int)=>Option.bind (R.f135F (x.1,x.2.2.2.2.2.1,x.2.1,x.2.2.1,x.2.2.2.1,x.2.2.2.2.1,x.2.2.2.2.2.2.1,x.2.2.2.2.2.2.2)) fun v1=>if(0:Int)≤IntKind.i64.wrap
 ((x.2.2.2.2.2.1.length:Int) - (1:Int))∧IntKind.i64.wrap ((x.2.2.2.2.2.1.length:Int) - (1:Int))≤(x.2.2.2.2.2.1.length:Int) then some ((v1.1,v1.2.1,v1.2.2),x.1,x.2.1,x.2.2.1,x.2.2.2.1,x.2.2.2.2.1,List.take (Int.toNat
 (IntKind.i64.wrap ((x.2.2.2.2.2.1.length:Int) - (1:Int)))) x.2.2.2.2.2.1,x.2.2.2.2.2.2.1,x.2.2.2.2.2.2.2) else none
theorem R.f167eq: ∀ x,zk R.C R.f167Γ R.f167sig R.f167ann Go.Proofs.Tryz.f167 x=R.f167F x:=by
 intro x
 kernel_rfl
noncomputable def R.f167con:Con:=⟨167,R.f167sig,R.f167F⟩
theorem R.f167ok:Con.Ok Go.Proofs.Tryz.prog R.C R.f167con:=
 zb (Γ:=R.f167Γ) (an:=R.f167ann) ⟨R.Cok,(List.forall_mem_cons.2 ⟨R.f135ok,(fun _ h=>nomatch h)⟩),R.mixed⟩ Go.Proofs.Tryz.func167 rfl rfl (fun x y h=>(R.f167eq x).trans h) (by decide)
def R.f137sig:Sig:=⟨⟨[.ptr 0 0], [.cells [.hole (.int .i64), .own 1, .hole (.int .i64), .hole (.int .i64), .hole (.int .i64), .hole (.int .i64), .own 2, .own 3], .arr 148 (.st (.pair (.int .i64) (.pair (.int .i64) .bool))), .arr 3 (.int
 .i64), .arr 3 (.int .i64)]⟩,⟨[], [.cells [.hole (.int .i64), .own 4, .hole (.int .i64), .hole (.int .i64), .hole (.int .i64), .hole (.int .i64), .own 5, .own 6], .gone, .gone, .gone, .arr 148 (.st (.pair (.int .i64) (.pair (.int .i64)
 .bool))), .arr 3 (.int .i64), .arr 3 (.int .i64)]⟩⟩
noncomputable def R.f137Γ:List Con:= [R.f135con,R.f167con]
def R.f137ann:Ann:=(.block (.seq .leaf (.cond .leaf (.seq .leaf (.cond .leaf (.seq (.join [⟨.normal, [(21, .hole .bool)], [.cells [.hole (.int .i64), .own 1, .hole (.int .i64), .hole (.int .i64), .hole (.int .i64), .hole (.int .i64),
 .own 2, .own 3], .arr 148 (.st (.pair (.int .i64) (.pair (.int .i64) .bool))), .arr 3 (.int .i64), .arr 3 (.int .i64)]⟩] .leaf) (.cond .leaf .leaf)))))))
noncomputable def R.f137F:Int×Int×Int×Int×Int×List (Int×Int×Bool)×List Int×List Int→Option (Int×Int×Int×Int×Int×List (Int×Int×Bool)×List Int×List Int):=fun(x:Int×Int×Int×Int×Int×List
 (Int×Int×Bool)×List Int×List Int)=>if decide (x.2.1 > (0:Int))=true then some (x.1,x.2.1,x.2.2.1,x.2.2.2.1,x.2.2.2.2.1,x.2.2.2.2.2.1,x.2.2.2.2.2.2.1,x.2.2.2.2.2.2.2) else if decide (x.2.2.1 > (0:Int))=true then some
 (x.1,x.2.1,IntKind.i64.wrap (x.2.2.1 - (1:Int)),x.2.2.2.1,x.2.2.2.2.1,x.2.2.2.2.2.1,x.2.2.2.2.2.2.1,x.2.2.2.2.2.2.2) else Option.bind (if decide ((x.2.2.2.2.2.1.length:Int) > (1:Int))=true then Option.bind (R.f135F (x.1,
 x.2.2.2.2.2.1,x.2.1,x.2.2.1,x.2.2.2.1,x.2.2.2.2.1,x.2.2.2.2.2.2.1,x.2.2.2.2.2.2.2)) fun v1=>some (!v1.2.2,x.1,x.2.1,x.2.2.1,x.2.2.2.1,x.2.2.2.2.1,x.2.2.2.2.2.1,x.2.2.2.2.2.2.1,x.2.2.2.2.2.2.2) else some (false,x.1,x.2.1,
 x.2.2.1,x.2.2.2.1,x.2.2.2.2.1,x.2.2.2.2.2.1,x.2.2.2.2.2.2.1,x.2.2.2.2.2.2.2)) fun(v1:Bool×Int×Int×Int×Int×Int×List (Int×Int×Bool)×List Int×List Int)=>if v1.1=true then Option.bind (R.f167F (v1.2.1,v1.2.2.1,
 v1.2.2.2.1,v1.2.2.2.2.1,v1.2.2.2.2.2.1,v1.2.2.2.2.2.2.1,v1.2.2.2.2.2.2.2.1,v1.2.2.2.2.2.2.2.2)) fun(v2:(Int×Int×Bool)×Int×Int×Int×Int×Int×List (Int×Int×Bool)×List Int×List Int)=>some (v2.2.1,v2.2.2.1,
 v2.2.2.2.1,v2.2.2.2.2.1,v2.2.2.2.2.2.1,v2.2.2.2.2.2.2.1,v2.2.2.2.2.2.2.2.1,v2.2.2.2.2.2.2.2.2) else some (v1.2.1,v1.2.2.1,v1.2.2.2.1,v1.2.2.2.2.1,v1.2.2.2.2.2.1,v1.2.2.2.2.2.2.1,v1.2.2.2.2.2.2.2.1,v1.2.2.2.2.2.2.2.2)
theorem R.f137eq: ∀ x,zk R.C R.f137Γ R.f137sig R.f137ann Go.Proofs.Tryz.f137 x=R.f137F x:=by
 intro x
 kernel_rfl
noncomputable def R.f137con:Con:=⟨137,R.f137sig,R.f137F⟩
theorem R.f137ok:Con.Ok Go.Proofs.Tryz.prog R.C R.f137con:=
 zb (Γ:=R.f137Γ) (an:=R.f137ann) ⟨R.Cok,(List.forall_mem_cons.2 ⟨R.f135ok,(List.forall_mem_cons.2 ⟨R.f167ok,(fun _ h=>nomatch h)⟩)⟩),R.mixed⟩ Go.Proofs.Tryz.func137 rfl rfl (fun x y h=>(R.f137eq x).trans h) (by decide)
def R.f138sig:Sig:=⟨⟨[.ptr 0 0, .hole (.int .i64)], [.cells [.hole (.int .i64), .own 1, .hole (.int .i64), .hole (.int .i64), .hole (.int .i64), .hole (.int .i64), .own 2, .own 3], .arr 148 (.st (.pair (.int .i64) (.pair (.int .i64)
 .bool))), .arr 3 (.int .i64), .arr 3 (.int .i64)]⟩,⟨[], [.cells [.hole (.int .i64), .own 4, .hole (.int .i64), .hole (.int .i64), .hole (.int .i64), .hole (.int .i64), .own 5, .own 6], .gone, .gone, .gone, .arr 148 (.st (.pair (.int .i64)
 (.pair (.int .i64) .bool))), .arr 3 (.int .i64), .arr 3 (.int .i64)]⟩⟩
noncomputable def R.f138Γ:List Con:= [R.f135con,R.f134con]
def R.f138ann:Ann:=(.seq .leaf (.seq (.seq .leaf (.cond .leaf .leaf)) .leaf))
noncomputable def R.f138F:Int×Int×Int×Int×Int×Int×List (Int×Int×Bool)×List Int×List Int→Option (Int×Int×Int×Int×Int×List (Int×Int×Bool)×List Int×List Int):=fun(x:Int×Int×Int×Int×Int×
 Int×List (Int×Int×Bool)×List Int×List Int)=>Option.bind (R.f135F (x.2.1,x.2.2.2.2.2.2.1,x.2.2.1,x.2.2.2.1,x.2.2.2.2.1,x.2.2.2.2.2.1,x.2.2.2.2.2.2.2.1,x.2.2.2.2.2.2.2.2)) fun v1=>if(v1.2.1 !=(-1:Int))=true then
 Option.bind (R.f134F (v1.1,v1.2.1,x.2.1,x.2.2.1,x.2.2.2.1,x.2.2.2.2.1,x.2.2.2.2.2.1,x.2.2.2.2.2.2.1,x.2.2.2.2.2.2.2.1,x.2.2.2.2.2.2.2.2)) fun(v2:Int×Int×Int×Int×Int×List (Int×Int×Bool)×List Int×List Int)=>
 some (v2.1,v2.2.1,v2.2.2.1,v2.2.2.2.1,v2.2.2.2.2.1,v2.2.2.2.2.2.1,v2.2.2.2.2.2.2.1,v2.2.2.2.2.2.2.2) else Option.bind (R.f134F (v1.1,x.1,x.2.1,x.2.2.1,x.2.2.2.1,x.2.2.2.2.1,x.2.2.2.2.2.1,x.2.2.2.2.2.2.1,x.2.2.2.2.2.2.2.1,
 x.2.2.2.2.2.2.2.2)) fun(v2:Int×Int×Int×Int×Int×List (Int×Int×Bool)×List Int×List Int)=>some (v2.1,v2.2.1,v2.2.2.1,v2.2.2.2.1,v2.2.2.2.2.1,v2.2.2.2.2.2.1,v2.2.2.2.2.2.2.1,v2.2.2.2.2.2.2.2)
theorem R.f138eq: ∀ x,zk R.C R.f138Γ R.f138sig R.f138ann Go.Proofs.Tryz.f138 x=R.f138F x:=by
 intro x
 kernel_rfl
noncomputable def R.f138con:Con:=⟨138,R.f138sig,R.f138F⟩
theorem R.f138ok:Con.Ok Go.Proofs.Tryz.prog R.C R.f138con:=
 zb (Γ:=R.f138Γ) (an:=R.f138ann) ⟨R.Cok,(List.forall_mem_cons.2 ⟨R.f135ok,(List.forall_mem_cons.2 ⟨R.f134ok,(fun _ h=>nomatch h)⟩)⟩),R.mixed⟩ Go.Proofs.Tryz.func138 rfl rfl (fun x y h=>(R.f138eq x).trans h) (by decide)
def R.f140sig:Sig:=⟨⟨[.hole (.sl (.int .i64)), .hole (.int .i64)], []⟩,⟨[.hole (.int .i64)], []⟩⟩
noncomputable def R.f140Γ:List Con:= [R.f53con,R.f71con,R.f100con]
def R.f140ann:Ann:=(.seq .leaf (.seq (.seq (.join [⟨.normal, [(22, .hole .bool)], []⟩] .leaf) (.cond (.seq .leaf .leaf) .leaf)) (.seq (.seq .leaf (.cond (.seq .leaf .leaf) .leaf)) (.seq .leaf (.seq .leaf (.seq (.join [⟨.normal, [(6,
 .hole (.int .i64))], []⟩] (.seq .leaf (.cond .leaf .leaf))) (.seq .leaf .leaf)))))))
noncomputable def R.f140F:List Int×Int→Option (Int):=fun(x:List Int×Int)=>Option.bind (if decide (x.2<(0:Int))=true then some true else if decide (x.2≥(x.1.length:Int))=true then some true else if(0:Int)≤x.2
 ∧x.2<(x.1.length:Int) then Option.bind (R.f53F (List.getD x.1 (Int.toNat x.2) (0:Int))) fun v1=>some !v1 else none) fun v1=>if v1=true then some (-1:Int) else if(0:Int)≤x.2∧x.2<(x.1.length:Int) then if(List.getD
 x.1 (Int.toNat x.2) (0:Int)!=(21:Int))=true then if(0:Int)≤x.2∧x.2<(x.1.length:Int) then some (IntKind.i64.wrap (List.getD x.1 (Int.toNat x.2) (0:Int) - (19:Int))) else none else Option.bind (R.f71F x.1) fun(v2:
 List Int)=>if(0:Int)≤x.2∧x.2<(v2.length:Int) then Option.bind (if(List.getD v2 (Int.toNat x.2) (0:Int)==(-1:Int))=true then some (x.1.length:Int) else some (List.getD v2 (Int.toNat x.2) (0:Int))) fun v3=>
 Option.bind (R.f100F (x.1,v2,IntKind.i64.wrap (x.2+(1:Int)),v3)) fun v4=>some (zif (0:Int) v4) else none else none
theorem R.f140eq: ∀ x,zk R.C R.f140Γ R.f140sig R.f140ann Go.Proofs.Tryz.f140 x=R.f140F x:=by
 intro x
 kernel_rfl
noncomputable def R.f140con:Con:=⟨140,R.f140sig,R.f140F⟩
theorem R.f140ok:Con.Ok Go.Proofs.Tryz.prog R.C R.f140con:=
 zb (Γ:=R.f140Γ) (an:=R.f140ann) ⟨R.Cok,(List.forall_mem_cons.2 ⟨R.f53ok,(List.forall_mem_cons.2 ⟨R.f71ok,(List.forall_mem_cons.2 ⟨R.f100ok,(fun _ h=>nomatch h)⟩)⟩)⟩),R.mixed⟩ Go.Proofs.Tryz.func140 rfl rfl (fun x y h=>(R.f140eq x).trans h) (by decide)
def R.f139sig:Sig:=⟨⟨[.ptr 0 0, .hole (.int .i64)], [.cells [.hole (.int .i64), .own 1, .hole (.int .i64), .hole (.int .i64), .hole (.int .i64), .hole (.int .i64), .own 2, .own 3], .arr 148 (.st (.pair (.int .i64) (.pair (.int .i64)
 .bool))), .arr 3 (.int .i64), .arr 3 (.int .i64)]⟩,⟨[], [.cells [.hole (.int .i64), .own 4, .hole (.int .i64), .hole (.int .i64), .hole (.int .i64), .hole (.int .i64), .own 5, .own 6], .gone, .gone, .gone, .arr 148 (.st (.pair (.int .i64)
 (.pair (.int .i64) .bool))), .arr 3 (.int .i64), .arr 3 (.int .i64)]⟩⟩
noncomputable def R.f139Γ:List Con:= [R.f135con,R.f166con,R.f165con]
def R.f139ann:Ann:=(.seq .leaf (.cond .leaf .leaf))
noncomputable def R.f139F:Int×Int×Int×Int×Int×Int×List (Int×Int×Bool)×List Int×List Int→Option (Int×Int×Int×Int×Int×List (Int×Int×Bool)×List Int×List Int):=fun(x:Int×Int×Int×Int×Int×
 Int×List (Int×Int×Bool)×List Int×List Int)=>Option.bind (R.f135F (x.2.1,x.2.2.2.2.2.2.1,x.2.2.1,x.2.2.2.1,x.2.2.2.2.1,x.2.2.2.2.2.1,x.2.2.2.2.2.2.2.1,x.2.2.2.2.2.2.2.2)) fun v1=>Option.bind (R.f166F (v1.1,x.1)) fun v2
 =>Option.bind (R.f165F ((v2,(-1:Int),true),x.2.1,x.2.2.1,x.2.2.2.1,x.2.2.2.2.1,x.2.2.2.2.2.1,x.2.2.2.2.2.2.1,x.2.2.2.2.2.2.2.1,x.2.2.2.2.2.2.2.2)) fun(v3:Bool×Int×Int×Int×Int×Int×List (Int×Int×Bool)×List
 Int×List Int)=>if v3.1=true then some (v3.2.1,v3.2.2.1,v3.2.2.2.1,IntKind.i64.wrap (v3.2.2.2.2.1+(1:Int)),v3.2.2.2.2.2.1,v3.2.2.2.2.2.2.1,v3.2.2.2.2.2.2.2.1,v3.2.2.2.2.2.2.2.2) else some (v3.2.1,IntKind.i64.wrap (v3.2.2.1
 +(1:Int)),v3.2.2.2.1,v3.2.2.2.2.1,v3.2.2.2.2.2.1,v3.2.2.2.2.2.2.1,v3.2.2.2.2.2.2.2.1,v3.2.2.2.2.2.2.2.2)
theorem R.f139eq: ∀ x,zk R.C R.f139Γ R.f139sig R.f139ann Go.Proofs.Tryz.f139 x=R.f139F x:=by
 intro x
 kernel_rfl
noncomputable def R.f139con:Con:=⟨139,R.f139sig,R.f139F⟩
theorem R.f139ok:Con.Ok Go.Proofs.Tryz.prog R.C R.f139con:=
 zb (Γ:=R.f139Γ) (an:=R.f139ann) ⟨R.Cok,(List.forall_mem_cons.2 ⟨R.f135ok,(List.forall_mem_cons.2 ⟨R.f166ok,(List.forall_mem_cons.2 ⟨R.f165ok,(fun _ h=>nomatch h)⟩)⟩)⟩),R.mixed⟩ Go.Proofs.Tryz.func139 rfl rfl (fun x y h=>(R.f139eq x).trans h) (by decide)
def R.f141sig:Sig:=⟨⟨[.ptr 0 0], [.cells [.hole (.int .i64), .own 1, .hole (.int .i64), .hole (.int .i64), .hole (.int .i64), .hole (.int .i64), .own 2, .own 3], .arr 148 (.st (.pair (.int .i64) (.pair (.int .i64) .bool))), .arr 3 (.int
 .i64), .arr 3 (.int .i64)]⟩,⟨[], [.cells [.hole (.int .i64), .own 4, .hole (.int .i64), .hole (.int .i64), .hole (.int .i64), .hole (.int .i64), .own 5, .own 6], .gone, .gone, .gone, .arr 148 (.st (.pair (.int .i64) (.pair (.int .i64)
 .bool))), .arr 3 (.int .i64), .arr 3 (.int .i64)]⟩⟩
noncomputable def R.f141Γ:List Con:= [R.f167con]
def R.f141ann:Ann:=(.block (.seq .leaf (.cond .leaf (.seq .leaf (.cond (.seq .leaf (.seq .leaf (.block (.loop ⟨.normal, [], [.cells [.hole (.int .i64), .own 4, .hole (.int .i64), .hole (.int .i64), .hole (.int .i64), .hole (.int .i64),
 .own 5, .own 6], .gone, .gone, .gone, .arr 148 (.st (.pair (.int .i64) (.pair (.int .i64) .bool))), .arr 3 (.int .i64), .arr 3 (.int .i64)]⟩ [⟨(.exit 1), [], [.cells [.hole (.int .i64), .own 4, .hole (.int .i64), .hole (.int .i64), .hole
 (.int .i64), .hole (.int .i64), .own 5, .own 6], .gone, .gone, .gone, .arr 148 (.st (.pair (.int .i64) (.pair (.int .i64) .bool))), .arr 3 (.int .i64), .arr 3 (.int .i64)]⟩] (.seq (.seq .leaf (.cond .leaf .leaf)) (.block .leaf))))))
 .leaf)))))
noncomputable def R.f141F:Int×Int×Int×Int×Int×List (Int×Int×Bool)×List Int×List Int→Option (Int×Int×Int×Int×Int×List (Int×Int×Bool)×List Int×List Int):=fun(x:Int×Int×Int×Int×Int×List
 (Int×Int×Bool)×List Int×List Int)=>if decide (x.2.1 > (0:Int))=true then some (x.1,IntKind.i64.wrap (x.2.1 - (1:Int)),x.2.2.1,x.2.2.2.1,x.2.2.2.2.1,x.2.2.2.2.2.1,x.2.2.2.2.2.2.1,x.2.2.2.2.2.2.2) else if decide
 (x.2.2.2.1 > (0:Int))=true then Option.bind (iter (fun(s1:Int×Int×Int×Int×Int×List (Int×Int×Bool)×List Int×List Int)=>Option.bind (R.f167F (s1.1,s1.2.1,s1.2.2.1,s1.2.2.2.1,s1.2.2.2.2.1,s1.2.2.2.2.2.1,
 s1.2.2.2.2.2.2.1,s1.2.2.2.2.2.2.2)) fun(v2:(Int×Int×Bool)×Int×Int×Int×Int×Int×List (Int×Int×Bool)×List Int×List Int)=>if(!v2.1.2.2)=true then some (Sum.inl (v2.2.1,v2.2.2.1,v2.2.2.2.1,v2.2.2.2.2.1,
 v2.2.2.2.2.2.1,v2.2.2.2.2.2.2.1,v2.2.2.2.2.2.2.2.1,v2.2.2.2.2.2.2.2.2)) else some (Sum.inr (v2.2.1,v2.2.2.1,v2.2.2.2.1,v2.2.2.2.2.1,v2.2.2.2.2.2.1,v2.2.2.2.2.2.2.1,v2.2.2.2.2.2.2.2.1,v2.2.2.2.2.2.2.2.2))) (x.1,x.2.1,(0:Int),
 IntKind.i64.wrap (x.2.2.2.1 - (1:Int)),x.2.2.2.2.1,x.2.2.2.2.2.1,x.2.2.2.2.2.2.1,x.2.2.2.2.2.2.2)) fun(v1:Int×Int×Int×Int×Int×List (Int×Int×Bool)×List Int×List Int)=>some (v1.1,v1.2.1,v1.2.2.1,v1.2.2.2.1,
 v1.2.2.2.2.1,v1.2.2.2.2.2.1,v1.2.2.2.2.2.2.1,v1.2.2.2.2.2.2.2) else some (x.1,x.2.1,x.2.2.1,x.2.2.2.1,x.2.2.2.2.1,x.2.2.2.2.2.1,x.2.2.2.2.2.2.1,x.2.2.2.2.2.2.2)
theorem R.f141eq: ∀ x,zk R.C R.f141Γ R.f141sig R.f141ann Go.Proofs.Tryz.f141 x=R.f141F x:=by
 intro x
 kernel_rfl
noncomputable def R.f141con:Con:=⟨141,R.f141sig,R.f141F⟩
theorem R.f141ok:Con.Ok Go.Proofs.Tryz.prog R.C R.f141con:=
 zb (Γ:=R.f141Γ) (an:=R.f141ann) ⟨R.Cok,(List.forall_mem_cons.2 ⟨R.f167ok,(fun _ h=>nomatch h)⟩),R.mixed⟩ Go.Proofs.Tryz.func141 rfl rfl (fun x y h=>(R.f141eq x).trans h) (by decide)
def R.f102sig:Sig:=⟨⟨[.ptr 0 0, .hole (.sl (.int .i64)), .hole (.int .i64)], [.cells [.hole (.int .i64), .own 1, .hole (.int .i64), .hole (.int .i64), .hole (.int .i64), .hole (.int .i64), .own 2, .own 3], .arr 148 (.st (.pair (.int
 .i64) (.pair (.int .i64) .bool))), .arr 3 (.int .i64), .arr 3 (.int .i64)]⟩,⟨[], [.cells [.hole (.int .i64), .own 4, .hole (.int .i64), .hole (.int .i64), .hole (.int .i64), .hole (.int .i64), .own 5, .own 6], .gone, .gone, .gone, .arr 148
 (.st (.pair (.int .i64) (.pair (.int .i64) .bool))), .arr 3 (.int .i64), .arr 3 (.int .i64)]⟩⟩
noncomputable def R.f102Γ:List Con:= [R.f135con,R.f134con,R.f136con,R.f137con,R.f138con,R.f140con,R.f139con,R.f141con,R.f101con,R.f142con]
def R.f102ann:Ann:=(.seq .leaf (.seq (.join [⟨.normal, [], [.cells [.hole (.int .i64), .own 4, .hole (.int .i64), .hole (.int .i64), .hole (.int .i64), .hole (.int .i64), .own 5, .own 6], .gone, .gone, .gone, .arr 148 (.st (.pair (.int
 .i64) (.pair (.int .i64) .bool))), .arr 3 (.int .i64), .arr 3 (.int .i64)]⟩] (.seq .leaf (.block (.seq (.join [⟨.normal, [(12, .hole .bool)], [.cells [.hole (.int .i64), .own 1, .hole (.int .i64), .hole (.int .i64), .hole (.int .i64), .hole
 (.int .i64), .own 2, .own 3], .arr 148 (.st (.pair (.int .i64) (.pair (.int .i64) .bool))), .arr 3 (.int .i64), .arr 3 (.int .i64)]⟩] (.seq .leaf (.cond .leaf (.seq .leaf (.cond .leaf (.seq .leaf (.cond .leaf (.seq .leaf (.cond .leaf (.seq
 .leaf (.cond .leaf .leaf))))))))))) (.cond .leaf .leaf))))) (.seq .leaf (.block (.seq .leaf (.cond .leaf (.seq .leaf (.cond .leaf (.seq .leaf (.cond .leaf (.seq .leaf (.cond .leaf (.seq .leaf (.cond .leaf (.seq .leaf (.cond .leaf (.seq
 (.join [⟨.normal, [(54, .hole .bool)], [.cells [.hole (.int .i64), .own 4, .hole (.int .i64), .hole (.int .i64), .hole (.int .i64), .hole (.int .i64), .own 5, .own 6], .gone, .gone, .gone, .arr 148 (.st (.pair (.int .i64) (.pair (.int .i64)
 .bool))), .arr 3 (.int .i64), .arr 3 (.int .i64)]⟩] (.seq .leaf (.cond .leaf (.seq .leaf (.cond .leaf .leaf))))) (.cond (.seq .leaf .leaf) (.seq .leaf (.cond (.seq .leaf .leaf) (.seq .leaf (.cond (.seq .leaf .leaf) (.seq (.seq .leaf (.cond
 .leaf .leaf)) .leaf)))))))))))))))))))))))
noncomputable def R.f102F:List Int×Int×Int×Int×Int×Int×Int×List (Int×Int×Bool)×List Int×List Int→Option (Int×Int×Int×Int×Int×List (Int×Int×Bool)×List Int×List Int):=fun(x:List Int×Int×Int
 ×Int×Int×Int×Int×List (Int×Int×Bool)×List Int×List Int)=>if(0:Int)≤x.2.1∧x.2.1<(x.1.length:Int) then Option.bind (Option.bind (if(List.getD x.1 (Int.toNat x.2.1) (0:Int)==(14:Int))=true then some
 (true,x.2.2.1,x.2.2.2.1,x.2.2.2.2.1,x.2.2.2.2.2.1,x.2.2.2.2.2.2.1,x.2.2.2.2.2.2.2.1,x.2.2.2.2.2.2.2.2.1,x.2.2.2.2.2.2.2.2.2) else if(List.getD x.1 (Int.toNat x.2.1) (0:Int)==(16:Int))=true then some (true,x.2.2.1,
 x.2.2.2.1,x.2.2.2.2.1,x.2.2.2.2.2.1,x.2.2.2.2.2.2.1,x.2.2.2.2.2.2.2.1,x.2.2.2.2.2.2.2.2.1,x.2.2.2.2.2.2.2.2.2) else if(List.getD x.1 (Int.toNat x.2.1) (0:Int)==(15:Int))=true then some (true,x.2.2.1,x.2.2.2.1,x.2.2.2.2.1,
 x.2.2.2.2.2.1,x.2.2.2.2.2.2.1,x.2.2.2.2.2.2.2.1,x.2.2.2.2.2.2.2.2.1,x.2.2.2.2.2.2.2.2.2) else if(List.getD x.1 (Int.toNat x.2.1) (0:Int)==(17:Int))=true then some (true,x.2.2.1,x.2.2.2.1,x.2.2.2.2.1,x.2.2.2.2.2.1,
 x.2.2.2.2.2.2.1,x.2.2.2.2.2.2.2.1,x.2.2.2.2.2.2.2.2.1,x.2.2.2.2.2.2.2.2.2) else if(List.getD x.1 (Int.toNat x.2.1) (0:Int)==(18:Int))=true then some (true,x.2.2.1,x.2.2.2.1,x.2.2.2.2.1,x.2.2.2.2.2.1,x.2.2.2.2.2.2.1,
 x.2.2.2.2.2.2.2.1,x.2.2.2.2.2.2.2.2.1,x.2.2.2.2.2.2.2.2.2) else some (List.getD x.1 (Int.toNat x.2.1) (0:Int)==(9:Int),x.2.2.1,x.2.2.2.1,x.2.2.2.2.1,x.2.2.2.2.2.1,x.2.2.2.2.2.2.1,x.2.2.2.2.2.2.2.1,x.2.2.2.2.2.2.2.2.1,
 x.2.2.2.2.2.2.2.2.2)) fun(v1:Bool×Int×Int×Int×Int×Int×List (Int×Int×Bool)×List Int×List Int)=>if v1.1=true then Option.bind (R.f135F (v1.2.1,v1.2.2.2.2.2.2.1,v1.2.2.1,v1.2.2.2.1,v1.2.2.2.2.1,v1.2.2.2.2.2.1,
 v1.2.2.2.2.2.2.2.1,v1.2.2.2.2.2.2.2.2)) fun v2=>Option.bind (R.f134F (v2.1,List.getD x.1 (Int.toNat x.2.1) (0:Int),v1.2.1,v1.2.2.1,v1.2.2.2.1,v1.2.2.2.2.1,v1.2.2.2.2.2.1,v1.2.2.2.2.2.2.1,v1.2.2.2.2.2.2.2.1,v1.2.2.2.2.2.2.2.2))
 fun(v3:Int×Int×Int×Int×Int×List (Int×Int×Bool)×List Int×List Int)=>some (v3.1,v3.2.1,v3.2.2.1,v3.2.2.2.1,v3.2.2.2.2.1,v3.2.2.2.2.2.1,v3.2.2.2.2.2.2.1,v3.2.2.2.2.2.2.2) else some (v1.2.1,v1.2.2.1,v1.2.2.2.1,
 v1.2.2.2.2.1,v1.2.2.2.2.2.1,v1.2.2.2.2.2.2.1,v1.2.2.2.2.2.2.2.1,v1.2.2.2.2.2.2.2.2)) fun(v1:Int×Int×Int×Int×Int×List (Int×Int×Bool)×List Int×List Int)=>if(List.getD x.1 (Int.toNat x.2.1) (0:Int)==(14:Int))
 =true then Option.bind (R.f136F ((0:Int),(-1:Int),v1.1,v1.2.1,v1.2.2.1,v1.2.2.2.1,v1.2.2.2.2.1,v1.2.2.2.2.2.1,v1.2.2.2.2.2.2.1,v1.2.2.2.2.2.2.2)) fun(v2:Int×Int×Int×Int×Int×List (Int×Int×Bool)×List Int×
 List Int)=>some (v2.1,v2.2.1,v2.2.2.1,v2.2.2.2.1,v2.2.2.2.2.1,v2.2.2.2.2.2.1,v2.2.2.2.2.2.2.1,v2.2.2.2.2.2.2.2) else if(List.getD x.1 (Int.toNat x.2.1) (0:Int)==(16:Int))=true then Option.bind (R.f136F ((1:Int),(-1:
 Int),v1.1,v1.2.1,v1.2.2.1,v1.2.2.2.1,v1.2.2.2.2.1,v1.2.2.2.2.2.1,v1.2.2.2.2.2.2.1,v1.2.2.2.2.2.2.2)) fun(v2:Int×Int×Int×Int×Int×List (Int×Int×Bool)×List Int×List Int)=>some (v2.1,v2.2.1,v2.2.2.1,v2.2.2.2.1,
 v2.2.2.2.2.1,v2.2.2.2.2.2.1,v2.2.2.2.2.2.2.1,v2.2.2.2.2.2.2.2) else if(List.getD x.1 (Int.toNat x.2.1) (0:Int)==(15:Int))=true then Option.bind (R.f136F ((0:Int),(0:Int),v1.1,v1.2.1,v1.2.2.1,v1.2.2.2.1,v1.2.2.2.2.1,
 v1.2.2.2.2.2.1,v1.2.2.2.2.2.2.1,v1.2.2.2.2.2.2.2)) fun(v2:Int×Int×Int×Int×Int×List (Int×Int×Bool)×List Int×List Int)=>some (v2.1,v2.2.1,v2.2.2.1,v2.2.2.2.1,v2.2.2.2.2.1,v2.2.2.2.2.2.1,v2.2.2.2.2.2.2.1,
 v2.2.2.2.2.2.2.2) else if(List.getD x.1 (Int.toNat x.2.1) (0:Int)==(17:Int))=true then Option.bind (R.f136F ((1:Int),(1:Int),v1.1,v1.2.1,v1.2.2.1,v1.2.2.2.1,v1.2.2.2.2.1,v1.2.2.2.2.2.1,v1.2.2.2.2.2.2.1,
 v1.2.2.2.2.2.2.2)) fun(v2:Int×Int×Int×Int×Int×List (Int×Int×Bool)×List Int×List Int)=>some (v2.1,v2.2.1,v2.2.2.1,v2.2.2.2.1,v2.2.2.2.2.1,v2.2.2.2.2.2.1,v2.2.2.2.2.2.2.1,v2.2.2.2.2.2.2.2) else if(List.getD x.1
 (Int.toNat x.2.1) (0:Int)==(18:Int))=true then Option.bind (R.f137F (v1.1,v1.2.1,v1.2.2.1,v1.2.2.2.1,v1.2.2.2.2.1,v1.2.2.2.2.2.1,v1.2.2.2.2.2.2.1,v1.2.2.2.2.2.2.2)) fun(v2:Int×Int×Int×Int×Int×List (Int×Int×
 Bool)×List Int×List Int)=>some (v2.1,v2.2.1,v2.2.2.1,v2.2.2.2.1,v2.2.2.2.2.1,v2.2.2.2.2.2.1,v2.2.2.2.2.2.2.1,v2.2.2.2.2.2.2.2) else if(List.getD x.1 (Int.toNat x.2.1) (0:Int)==(9:Int))=true then some (v1.1,v1.2.1,
 v1.2.2.1,v1.2.2.2.1,v1.2.2.2.2.1,v1.2.2.2.2.2.1,v1.2.2.2.2.2.2.1,v1.2.2.2.2.2.2.2) else Option.bind (if(List.getD x.1 (Int.toNat x.2.1) (0:Int)==(19:Int))=true then some (true,v1.1,v1.2.1,v1.2.2.1,v1.2.2.2.1,v1.2.2.2.2.1,
 v1.2.2.2.2.2.1,v1.2.2.2.2.2.2.1,v1.2.2.2.2.2.2.2) else if(List.getD x.1 (Int.toNat x.2.1) (0:Int)==(20:Int))=true then some (true,v1.1,v1.2.1,v1.2.2.1,v1.2.2.2.1,v1.2.2.2.2.1,v1.2.2.2.2.2.1,v1.2.2.2.2.2.2.1,
 v1.2.2.2.2.2.2.2) else some (List.getD x.1 (Int.toNat x.2.1) (0:Int)==(21:Int),v1.1,v1.2.1,v1.2.2.1,v1.2.2.2.1,v1.2.2.2.2.1,v1.2.2.2.2.2.1,v1.2.2.2.2.2.2.1,v1.2.2.2.2.2.2.2)) fun(v2:Bool×Int×Int×Int×Int×Int×List
 (Int×Int×Bool)×List Int×List Int)=>if v2.1=true then Option.bind (R.f138F (List.getD x.1 (Int.toNat x.2.1) (0:Int),v2.2.1,v2.2.2.1,v2.2.2.2.1,v2.2.2.2.2.1,v2.2.2.2.2.2.1,v2.2.2.2.2.2.2.1,v2.2.2.2.2.2.2.2.1,
 v2.2.2.2.2.2.2.2.2)) fun(v3:Int×Int×Int×Int×Int×List (Int×Int×Bool)×List Int×List Int)=>Option.bind (R.f140F (x.1,x.2.1)) fun v4=>Option.bind (R.f139F (v4,v3.1,v3.2.1,v3.2.2.1,v3.2.2.2.1,v3.2.2.2.2.1,
 v3.2.2.2.2.2.1,v3.2.2.2.2.2.2.1,v3.2.2.2.2.2.2.2)) fun(v5:Int×Int×Int×Int×Int×List (Int×Int×Bool)×List Int×List Int)=>some (v5.1,v5.2.1,v5.2.2.1,v5.2.2.2.1,v5.2.2.2.2.1,v5.2.2.2.2.2.1,v5.2.2.2.2.2.2.1,
 v5.2.2.2.2.2.2.2) else if(List.getD x.1 (Int.toNat x.2.1) (0:Int)==(22:Int))=true then Option.bind (R.f141F (v2.2.1,v2.2.2.1,v2.2.2.2.1,v2.2.2.2.2.1,v2.2.2.2.2.2.1,v2.2.2.2.2.2.2.1,v2.2.2.2.2.2.2.2.1,v2.2.2.2.2.2.2.2.2)) fun
 (v3:Int×Int×Int×Int×Int×List (Int×Int×Bool)×List Int×List Int)=>Option.bind (R.f138F (List.getD x.1 (Int.toNat x.2.1) (0:Int),v3.1,v3.2.1,v3.2.2.1,v3.2.2.2.1,v3.2.2.2.2.1,v3.2.2.2.2.2.1,v3.2.2.2.2.2.2.1,
 v3.2.2.2.2.2.2.2)) fun(v4:Int×Int×Int×Int×Int×List (Int×Int×Bool)×List Int×List Int)=>some (v4.1,v4.2.1,v4.2.2.1,v4.2.2.2.1,v4.2.2.2.2.1,v4.2.2.2.2.2.1,v4.2.2.2.2.2.2.1,v4.2.2.2.2.2.2.2) else if(List.getD x.1
 (Int.toNat x.2.1) (0:Int)==(10:Int))=true then Option.bind (R.f101F (v2.2.1,v2.2.2.1,v2.2.2.2.1,v2.2.2.2.2.1,v2.2.2.2.2.2.1,v2.2.2.2.2.2.2.1,v2.2.2.2.2.2.2.2.1,v2.2.2.2.2.2.2.2.2)) fun(v3:Int×Int×Int×Int×Int×List
 (Int×Int×Bool)×List Int×List Int)=>Option.bind (R.f134F (v3.1,List.getD x.1 (Int.toNat x.2.1) (0:Int),v3.1,v3.2.1,v3.2.2.1,v3.2.2.2.1,v3.2.2.2.2.1,v3.2.2.2.2.2.1,v3.2.2.2.2.2.2.1,v3.2.2.2.2.2.2.2)) fun(v4:Int×Int×
 Int×Int×Int×List (Int×Int×Bool)×List Int×List Int)=>some (v4.1,v4.2.1,v4.2.2.1,v4.2.2.2.1,v4.2.2.2.2.1,v4.2.2.2.2.2.1,v4.2.2.2.2.2.2.1,v4.2.2.2.2.2.2.2) else Option.bind (R.f142F (List.getD x.1 (Int.toNat x.2.1) (0:
 Int))) fun v3=>if(ByteArray.toList v3==ByteArray.toList { data:= #[]:ByteArray})=true then Option.bind (R.f138F ((0:Int),v2.2.1,v2.2.2.1,v2.2.2.2.1,v2.2.2.2.2.1,v2.2.2.2.2.2.1,v2.2.2.2.2.2.2.1,v2.2.2.2.2.2.2.2.1,
 v2.2.2.2.2.2.2.2.2)) fun(v4:Int×Int×Int×Int×Int×List (Int×Int×Bool)×List Int×List Int)=>some (v4.1,v4.2.1,v4.2.2.1,v4.2.2.2.1,v4.2.2.2.2.1,v4.2.2.2.2.2.1,v4.2.2.2.2.2.2.1,v4.2.2.2.2.2.2.2) else Option.bind
 (R.f138F (List.getD x.1 (Int.toNat x.2.1) (0:Int),v2.2.1,v2.2.2.1,v2.2.2.2.1,v2.2.2.2.2.1,v2.2.2.2.2.2.1,v2.2.2.2.2.2.2.1,v2.2.2.2.2.2.2.2.1,v2.2.2.2.2.2.2.2.2)) fun(v4:Int×Int×Int×Int×Int×List (Int×Int×Bool)×
 List Int×List Int)=>some (v4.1,v4.2.1,v4.2.2.1,v4.2.2.2.1,v4.2.2.2.2.1,v4.2.2.2.2.2.1,v4.2.2.2.2.2.2.1,v4.2.2.2.2.2.2.2) else none
theorem R.f102eq: ∀ x,zk R.C R.f102Γ R.f102sig R.f102ann Go.Proofs.Tryz.f102 x=R.f102F x:=by
 intro x
 kernel_rfl
noncomputable def R.f102con:Con:=⟨102,R.f102sig,R.f102F⟩
theorem R.f102ok:Con.Ok Go.Proofs.Tryz.prog R.C R.f102con:=
 zb (Γ:=R.f102Γ) (an:=R.f102ann) ⟨R.Cok,(List.forall_mem_cons.2 ⟨R.f135ok,(List.forall_mem_cons.2 ⟨R.f134ok,(List.forall_mem_cons.2 ⟨R.f136ok,(List.forall_mem_cons.2 ⟨R.f137ok,(List.forall_mem_cons.2 ⟨R.f138ok,(List.forall_mem_cons.2 ⟨R.f140ok,(List.forall_mem_cons.2 ⟨R.f139ok,(List.forall_mem_cons.2 ⟨R.f141ok,(List.forall_mem_cons.2 ⟨R.f101ok,(List.forall_mem_cons.2 ⟨R.f142ok,(fun _ h=>nomatch h)⟩)⟩)⟩)⟩)⟩)⟩)⟩)⟩)⟩)⟩),R.mixed⟩ Go.Proofs.Tryz.func102 rfl rfl (fun x y h=>(R.f102eq x).trans h) (by decide)
def R.f69sig:Sig:=⟨⟨[.hole (.sl (.int .i64)), .hole (.int .i64)], []⟩,⟨[.ptr 0 0], [.cells [.hole (.int .i64), .own 1, .hole (.int .i64), .hole (.int .i64), .hole (.int .i64), .hole (.int .i64), .own 2, .own 3], .arr 148 (.st (.pair
 (.int .i64) (.pair (.int .i64) .bool))), .arr 3 (.int .i64), .arr 3 (.int .i64)]⟩⟩
noncomputable def R.f69Γ:List Con:= [R.f101con,R.f102con]
def R.f69ann:Ann:=(.seq .leaf (.seq .leaf (.seq (.join [⟨.normal, [], [.cells [.hole (.int .i64), .own 1, .hole (.int .i64), .hole (.int .i64), .hole (.int .i64), .hole (.int .i64), .own 2, .own 3], .arr 148 (.st (.pair (.int .i64)
 (.pair (.int .i64) .bool))), .arr 3 (.int .i64), .arr 3 (.int .i64)]⟩] (.seq .leaf (.cond .leaf .leaf))) (.seq .leaf (.seq (.seq .leaf (.block (.loop ⟨.normal, [(18, .hole (.int .i64))], [.cells [.hole (.int .i64), .own 7, .hole (.int
 .i64), .hole (.int .i64), .hole (.int .i64), .hole (.int .i64), .own 8, .own 9], .gone, .gone, .gone, .gone, .gone, .gone, .arr 148 (.st (.pair (.int .i64) (.pair (.int .i64) .bool))), .arr 3 (.int .i64), .arr 3 (.int .i64)]⟩ [⟨(.exit 0),
 [], [.cells [.hole (.int .i64), .own 7, .hole (.int .i64), .hole (.int .i64), .hole (.int .i64), .hole (.int .i64), .own 8, .own 9], .gone, .gone, .gone, .gone, .gone, .gone, .arr 148 (.st (.pair (.int .i64) (.pair (.int .i64) .bool))),
 .arr 3 (.int .i64), .arr 3 (.int .i64)]⟩] (.seq .leaf (.seq (.cond .leaf .leaf) (.seq (.block (.seq .leaf .leaf)) .leaf)))))) (.seq .leaf .leaf))))))
noncomputable def R.f69F:List Int×Int→Option (Int×Int×Int×Int×Int×List (Int×Int×Bool)×List Int×List Int):=fun(x:List Int×Int)=>Option.bind (if(x.2 !=(0:Int))=true then some ((1:Int),(0:Int),(0:
 Int),(0:Int),(0:Int), [], [], []) else some ((0:Int),(0:Int),(0:Int),(0:Int),(0:Int), [], [], [])) fun(v1:Int×Int×Int×Int×Int×List (Int×Int×Bool)×List Int×List Int)=>Option.bind (R.f101F (v1.1,
 v1.2.1,v1.2.2.1,v1.2.2.2.1,v1.2.2.2.2.1,v1.2.2.2.2.2.1,v1.2.2.2.2.2.2.1,v1.2.2.2.2.2.2.2)) fun(v2:Int×Int×Int×Int×Int×List (Int×Int×Bool)×List Int×List Int)=>Option.bind (iter (fun(s3:Int×Int×Int×Int×
 Int×Int×List (Int×Int×Bool)×List Int×List Int)=>if decide (s3.1<(x.1.length:Int))=true then Option.bind (R.f102F (x.1,s3.1,s3.2.1,s3.2.2.1,s3.2.2.2.1,s3.2.2.2.2.1,s3.2.2.2.2.2.1,s3.2.2.2.2.2.2.1,
 s3.2.2.2.2.2.2.2.1,s3.2.2.2.2.2.2.2.2)) fun(v4:Int×Int×Int×Int×Int×List (Int×Int×Bool)×List Int×List Int)=>some (Sum.inl (IntKind.i64.wrap (s3.1+(1:Int)),v4.1,v4.2.1,v4.2.2.1,v4.2.2.2.1,v4.2.2.2.2.1,
 v4.2.2.2.2.2.1,v4.2.2.2.2.2.2.1,v4.2.2.2.2.2.2.2)) else some (Sum.inr (s3.2.1,s3.2.2.1,s3.2.2.2.1,s3.2.2.2.2.1,s3.2.2.2.2.2.1,s3.2.2.2.2.2.2.1,s3.2.2.2.2.2.2.2.1,s3.2.2.2.2.2.2.2.2))) ((0:Int),v2.1,v2.2.1,v2.2.2.1,v2.2.2.2.1,
 v2.2.2.2.2.1,v2.2.2.2.2.2.1,v2.2.2.2.2.2.2.1,v2.2.2.2.2.2.2.2)) fun(v3:Int×Int×Int×Int×Int×List (Int×Int×Bool)×List Int×List Int)=>some (v3.1,v3.2.1,v3.2.2.1,v3.2.2.2.1,v3.2.2.2.2.1,v3.2.2.2.2.2.1,
 v3.2.2.2.2.2.2.1,v3.2.2.2.2.2.2.2)
theorem R.f69eq: ∀ x,zk R.C R.f69Γ R.f69sig R.f69ann Go.Proofs.Tryz.f69 x=R.f69F x:=by
 intro x
 kernel_rfl
noncomputable def R.f69con:Con:=⟨69,R.f69sig,R.f69F⟩
theorem R.f69ok:Con.Ok Go.Proofs.Tryz.prog R.C R.f69con:=
 zb (Γ:=R.f69Γ) (an:=R.f69ann) ⟨R.Cok,(List.forall_mem_cons.2 ⟨R.f101ok,(List.forall_mem_cons.2 ⟨R.f102ok,(fun _ h=>nomatch h)⟩)⟩),R.mixed⟩ Go.Proofs.Tryz.func69 rfl rfl (fun x y h=>(R.f69eq x).trans h) (by decide)
def R.f47sig:Sig:=⟨⟨[.hole (.sl (.int .i64)), .hole (.int .i64)], []⟩,⟨[.own 0, .own 1], [.arr 3 (.int .i64), .arr 3 (.int .i64)]⟩⟩
noncomputable def R.f47Γ:List Con:= [R.f69con]
def R.f47ann:Ann:=(.seq .leaf (.seq .leaf (.seq .leaf .leaf)))
noncomputable def R.f47F:List Int×Int→Option (List Int×List Int):=fun(x:List Int×Int)=>Option.bind (R.f69F (x.1,x.2)) fun(v1:Int×Int×Int×Int×Int×List (Int×Int×Bool)×List Int×List Int)=>some
 (v1.2.2.2.2.2.2.1,v1.2.2.2.2.2.2.2)
theorem R.f47eq: ∀ x,zk R.C R.f47Γ R.f47sig R.f47ann Go.Proofs.Tryz.f47 x=R.f47F x:=by
 intro x
 kernel_rfl
noncomputable def R.f47con:Con:=⟨47,R.f47sig,R.f47F⟩
theorem R.f47ok:Con.Ok Go.Proofs.Tryz.prog R.C R.f47con:=
 zb (Γ:=R.f47Γ) (an:=R.f47ann) ⟨R.Cok,(List.forall_mem_cons.2 ⟨R.f69ok,(fun _ h=>nomatch h)⟩),R.mixed⟩ Go.Proofs.Tryz.func47 rfl rfl (fun x y h=>(R.f47eq x).trans h) (by decide)
def R.s0sig:Sig:=⟨⟨[.own 0], [.arr 3 (.int .i64)]⟩,⟨[.own 1], [.arr 3 (.int .i64), .arr 3 (.int .i64)]⟩⟩
noncomputable def R.s0Γ:List Con:= []
def R.s0ann:Ann:=(.seq .leaf (.seq (.seq .leaf (.cond (.seq .leaf .leaf) .leaf)) (.seq .leaf .leaf)))
noncomputable def R.s0F:List Int→Option (List Int×List Int):=fun(x:List Int)=>if Nat.beq (List.length x) (0:Nat)=true then agree (some (x, [])) (if zi ((0:Nat)+List.length x) (8:Nat) then some (x, []++x) else
 none) else if zi ((0:Nat)+List.length x) (8:Nat) then some (x, []++x) else none
theorem R.s0eq: ∀ x,zk R.C R.s0Γ R.s0sig R.s0ann Go.Proofs.Tryz.f49 x=R.s0F x:=by
 intro x
 kernel_rfl
noncomputable def R.s0con:Con:=⟨49,R.s0sig,R.s0F⟩
theorem R.s0ok:Con.Ok Go.Proofs.Tryz.prog R.C R.s0con:=
 zb (Γ:=R.s0Γ) (an:=R.s0ann) ⟨R.Cok,(fun _ h=>nomatch h),R.mixed⟩ Go.Proofs.Tryz.func49 rfl rfl (fun x y h=>(R.s0eq x).trans h) (by decide)
def R.f54sig:Sig:=⟨⟨[.hole (.int .i64)], []⟩,⟨[.hole .bool], []⟩⟩
noncomputable def R.f54Γ:List Con:= [R.f80con,R.f79con]
def R.f54ann:Ann:=(.seq .leaf (.seq .leaf .leaf))
noncomputable def R.f54F:Int→Option (Bool):=fun(x:Int)=>Option.bind (R.f80F [(14:Int),(15:Int),(16:Int),(17:Int),(18:Int),(9:Int)]) fun v1=>Option.bind (R.f79F (x,v1)) fun v2=>some v2
theorem R.f54eq: ∀ x,zk R.C R.f54Γ R.f54sig R.f54ann Go.Proofs.Tryz.f54 x=R.f54F x:=by
 intro x
 kernel_rfl
noncomputable def R.f54con:Con:=⟨54,R.f54sig,R.f54F⟩
theorem R.f54ok:Con.Ok Go.Proofs.Tryz.prog R.C R.f54con:=
 zb (Γ:=R.f54Γ) (an:=R.f54ann) ⟨R.Cok,(List.forall_mem_cons.2 ⟨R.f80ok,(List.forall_mem_cons.2 ⟨R.f79ok,(fun _ h=>nomatch h)⟩)⟩),R.mixed⟩ Go.Proofs.Tryz.func54 rfl rfl (fun x y h=>(R.f54eq x).trans h) (by decide)
def R.f70sig:Sig:=⟨⟨[.hole (.sl (.int .i64)), .hole (.sl (.int .i64))], []⟩,⟨[.ptr 0 0], [.cells [.hole (.sl (.int .i64)), .hole (.sl (.int .i64)), .own 1, .own 2], .arr 3 (.int .i64), .arr 3 (.int .i64)]⟩⟩
noncomputable def R.f70Γ:List Con:= [R.f54con]
def R.f70ann:Ann:=(.seq .leaf (.seq .leaf (.seq (.seq .leaf (.block (.loop ⟨.normal, [(17, .hole (.int .i64))], [.arr 3 (.int .i64), .cells [.hole (.sl (.int .i64)), .hole (.sl (.int .i64)), .own 2, .own 0], .arr 3 (.int .i64)]⟩
 [⟨(.exit 0), [], [.arr 3 (.int .i64), .cells [.hole (.sl (.int .i64)), .hole (.sl (.int .i64)), .own 2, .own 0], .arr 3 (.int .i64)]⟩] (.seq .leaf (.seq (.cond .leaf .leaf) (.seq (.block (.seq .leaf (.seq .leaf (.seq .leaf (.cond (.seq
 (.tail 11) .leaf) .leaf))))) .leaf)))))) (.seq .leaf .leaf))))
noncomputable def R.f70F:List Int×List Int→Option (List Int×List Int×List Int×List Int):=fun(x:List Int×List Int)=>if(0:Int)≤(x.1.length:Int)∧(x.1.length:Int)≤(x.1.length:Int)∧zi (Int.toNat
 (x.1.length:Int)) (8:Nat) then Option.bind (iter (fun(s1:Int×List Int×List Int×List Int×List Int)=>if decide (s1.1<(x.1.length:Int))=true then if(0:Int)≤s1.1∧s1.1<(x.1.length:Int) then if(0:Int)≤s1.1∧
 s1.1<(s1.2.1.length:Int) then Option.bind (R.f54F (List.getD x.1 (Int.toNat s1.1) (0:Int))) fun v2=>if(!v2)=true then if(0:Int)≤s1.1∧s1.1<(↑(List.length (List.set s1.2.1 (Int.toNat s1.1) (-1:Int))):Int) then if
 zi (List.length s1.2.2.2.2+(1:Nat)) (8:Nat) then some (Sum.inl (IntKind.i64.wrap (s1.1+(1:Int)),List.set (List.set s1.2.1 (Int.toNat s1.1) (-1:Int)) (Int.toNat s1.1) (s1.2.2.2.2.length:Int),s1.2.2.1,s1.2.2.2.1,
 s1.2.2.2.2++ [s1.1])) else none else none else some (Sum.inl (IntKind.i64.wrap (s1.1+(1:Int)),List.set s1.2.1 (Int.toNat s1.1) (-1:Int),s1.2.2.1,s1.2.2.2.1,s1.2.2.2.2)) else none else none else some (Sum.inr (s1.2.1,s1.2.2.1,
 s1.2.2.2.1,s1.2.2.2.2))) ((0:Int),List.replicate (Int.toNat (x.1.length:Int)) (0:Int),x.1,x.2, [])) fun(v1:List Int×List Int×List Int×List Int)=>some (v1.2.1,v1.2.2.1,v1.2.2.2,v1.1) else none
theorem R.f70eq: ∀ x,zk R.C R.f70Γ R.f70sig R.f70ann Go.Proofs.Tryz.f70 x=R.f70F x:=by
 intro x
 kernel_rfl
noncomputable def R.f70con:Con:=⟨70,R.f70sig,R.f70F⟩
theorem R.f70ok:Con.Ok Go.Proofs.Tryz.prog R.C R.f70con:=
 zb (Γ:=R.f70Γ) (an:=R.f70ann) ⟨R.Cok,(List.forall_mem_cons.2 ⟨R.f54ok,(fun _ h=>nomatch h)⟩),R.mixed⟩ Go.Proofs.Tryz.func70 rfl rfl (fun x y h=>(R.f70eq x).trans h) (by decide)
def R.f72sig:Sig:=⟨⟨[.ro (.st (.pair (.sl (.int .i64)) (.pair (.sl (.int .i64)) (.pair (.sl (.int .i64)) (.sl (.int .i64))))))], []⟩,⟨[.hole (.sl (.sl (.int .i64)))], []⟩⟩
noncomputable def R.f72Γ:List Con:= []
def R.f72ann:Ann:=(.seq .leaf (.seq .leaf (.seq .leaf (.seq (.seq .leaf (.block (.loop ⟨.normal, [(3, .own 0),(4, .hole (.int .i64)),(5, .hole (.int .i64))], [.arr 22 (.osl (.int .i64))]⟩ [⟨(.exit 0), [(3, .own 0)], [.arr 22 (.osl
 (.int .i64))]⟩] (.seq (.seq .leaf (.cond .leaf .leaf)) (.seq (.block (.seq .leaf (.seq (.seq (.join [⟨.normal, [(63, .hole .bool)], [.arr 22 (.osl (.int .i64))]⟩] .leaf) (.cond .leaf .leaf)) (.seq .leaf .leaf)))) .leaf))))) (.seq .leaf
 .leaf)))))
noncomputable def R.f72F:List Int×List Int×List Int×List Int→Option (List (List Int)):=fun(x:List Int×List Int×List Int×List Int)=>Option.bind (iter (fun(s1:Int×Int×List (Bool×List Int))=>if decide (s1.2.1
 ≤(x.2.2.1.length:Int))=true then if(0:Int)≤IntKind.i64.wrap (s1.2.1 - (1:Int))∧IntKind.i64.wrap (s1.2.1 - (1:Int))<(x.2.2.1.length:Int) then Option.bind (if decide (s1.2.1<(x.2.2.1.length:Int))=true then if(0:
 Int)≤s1.2.1∧s1.2.1<(x.2.2.1.length:Int) then if(0:Int)≤List.getD x.2.2.1 (Int.toNat s1.2.1) (0:Int)∧List.getD x.2.2.1 (Int.toNat s1.2.1) (0:Int)<(x.2.1.length:Int) then if(0:Int)≤List.getD x.2.2.1 (Int.toNat
 (IntKind.i64.wrap (s1.2.1 - (1:Int)))) (0:Int)∧List.getD x.2.2.1 (Int.toNat (IntKind.i64.wrap (s1.2.1 - (1:Int)))) (0:Int)<(x.2.1.length:Int) then if(List.getD x.2.1 (Int.toNat (List.getD x.2.2.1 (Int.toNat s1.2.1) (0:
 Int))) (0:Int)==List.getD x.2.1 (Int.toNat (List.getD x.2.2.1 (Int.toNat (IntKind.i64.wrap (s1.2.1 - (1:Int)))) (0:Int))) (0:Int))=true then if(0:Int)≤List.getD x.2.2.1 (Int.toNat (IntKind.i64.wrap (s1.2.1 - (1:Int)))) (0
 :Int)∧List.getD x.2.2.1 (Int.toNat (IntKind.i64.wrap (s1.2.1 - (1:Int)))) (0:Int)<(x.1.length:Int) then some (List.getD x.1 (Int.toNat (List.getD x.2.2.1 (Int.toNat (IntKind.i64.wrap (s1.2.1 - (1:Int)))) (0:Int))) (0:Int)
 !=(10:Int),s1.2.2) else none else some (false,s1.2.2) else none else none else none else some (false,s1.2.2)) fun(v2:Bool×List (Bool×List Int))=>if v2.1=true then some (Sum.inl (s1.1,IntKind.i64.wrap (s1.2.1+(1:Int)),
 v2.2)) else if(0:Int)≤s1.2.1∧s1.2.1≤(x.2.2.1.length:Int) then if(0:Int)≤s1.2.1∧s1.2.1≤s1.2.1 then if(0:Int)≤s1.1∧s1.1≤s1.2.1 then if zi (List.length v2.2+(1:Nat)) (24:Nat) then some (Sum.inl (s1.2.1,
 IntKind.i64.wrap (s1.2.1+(1:Int)),v2.2++ [Ty.lift (Ty.osl (Ty.int IntKind.i64)) (List.drop (Int.toNat s1.1) (List.take (Int.toNat s1.2.1) x.2.2.1))])) else none else none else none else none else none else some (Sum.inr s1.2.2)) ((0:
 Int),(1:Int), [])) fun(v1:List (Bool×List Int))=>some (List.map (Ty.erD (Ty.osl (Ty.int IntKind.i64))) v1)
theorem R.f72eq: ∀ x,zk R.C R.f72Γ R.f72sig R.f72ann Go.Proofs.Tryz.f72 x=R.f72F x:=by
 intro x
 kernel_rfl
noncomputable def R.f72con:Con:=⟨72,R.f72sig,R.f72F⟩
theorem R.f72ok:Con.Ok Go.Proofs.Tryz.prog R.C R.f72con:=
 zb (Γ:=R.f72Γ) (an:=R.f72ann) ⟨R.Cok,(fun _ h=>nomatch h),R.mixed⟩ Go.Proofs.Tryz.func72 rfl rfl (fun x y h=>(R.f72eq x).trans h) (by decide)
def R.f103sig:Sig:=⟨⟨[.ro (.st (.pair (.sl (.int .i64)) (.pair (.sl (.int .i64)) (.pair (.sl (.int .i64)) (.sl (.int .i64)))))), .hole (.int .i64), .hole (.int .i64), .hole (.int .i64)], []⟩,⟨[.hole (.int .i64)], []⟩⟩
noncomputable def R.f103Γ:List Con:= []
def R.f103ann:Ann:=(.seq .leaf (.seq .leaf (.seq (.seq (.join [⟨.normal, [(29, .hole .bool)], []⟩] .leaf) (.cond (.seq .leaf .leaf) .leaf)) (.seq .leaf .leaf))))
noncomputable def R.f103F:(List Int×List Int×List Int×List Int)×Int×Int×Int→Option (Int):=fun(x:(List Int×List Int×List Int×List Int)×Int×Int×Int)=>if(0:Int)≤x.2.1∧x.2.1<(x.1.2.2.2.length:Int)
 then Option.bind (if decide (IntKind.i64.wrap (List.getD x.1.2.2.2 (Int.toNat x.2.1) (0:Int)+x.2.2.1)<(0:Int))=true then some true else some (decide (IntKind.i64.wrap (List.getD x.1.2.2.2 (Int.toNat x.2.1) (0:Int)+x.2.2.1)≥
 (x.1.2.2.1.length:Int)))) fun v1=>if v1=true then some x.2.2.2 else if(0:Int)≤IntKind.i64.wrap (List.getD x.1.2.2.2 (Int.toNat x.2.1) (0:Int)+x.2.2.1)∧IntKind.i64.wrap (List.getD x.1.2.2.2 (Int.toNat x.2.1) (0:Int)+
 x.2.2.1)<(x.1.2.2.1.length:Int) then if(0:Int)≤List.getD x.1.2.2.1 (Int.toNat (IntKind.i64.wrap (List.getD x.1.2.2.2 (Int.toNat x.2.1) (0:Int)+x.2.2.1))) (0:Int)∧List.getD x.1.2.2.1 (Int.toNat (IntKind.i64.wrap (List.getD
 x.1.2.2.2 (Int.toNat x.2.1) (0:Int)+x.2.2.1))) (0:Int)<(x.1.2.1.length:Int) then some (List.getD x.1.2.1 (Int.toNat (List.getD x.1.2.2.1 (Int.toNat (IntKind.i64.wrap (List.getD x.1.2.2.2 (Int.toNat x.2.1) (0:Int)+x.2.2.1))) (0
 :Int))) (0:Int)) else none else none else none
theorem R.f103eq: ∀ x,zk R.C R.f103Γ R.f103sig R.f103ann Go.Proofs.Tryz.f103 x=R.f103F x:=by
 intro x
 kernel_rfl
noncomputable def R.f103con:Con:=⟨103,R.f103sig,R.f103F⟩
theorem R.f103ok:Con.Ok Go.Proofs.Tryz.prog R.C R.f103con:=
 zb (Γ:=R.f103Γ) (an:=R.f103ann) ⟨R.Cok,(fun _ h=>nomatch h),R.mixed⟩ Go.Proofs.Tryz.func103 rfl rfl (fun x y h=>(R.f103eq x).trans h) (by decide)
def R.f104sig:Sig:=⟨⟨[.hole (.int .i64)], []⟩,⟨[.hole (.int .i64)], []⟩⟩
noncomputable def R.f104Γ:List Con:= []
def R.f104ann:Ann:=(.seq .leaf (.seq (.seq .leaf (.cond (.seq .leaf .leaf) .leaf)) (.seq .leaf .leaf)))
noncomputable def R.f104F:Int→Option (Int):=fun(x:Int)=>if(IntKind.i64.wrap (↑(BitVec.toNat (BitVec.ofInt (IntKind.bits IntKind.i64) x &&& BitVec.ofInt (IntKind.bits IntKind.i64) (1:Int))):Int)==(1:Int))=true then some
 (1:Int) else some (0:Int)
theorem R.f104eq: ∀ x,zk R.C R.f104Γ R.f104sig R.f104ann Go.Proofs.Tryz.f104 x=R.f104F x:=by
 intro x
 kernel_rfl
noncomputable def R.f104con:Con:=⟨104,R.f104sig,R.f104F⟩
theorem R.f104ok:Con.Ok Go.Proofs.Tryz.prog R.C R.f104con:=
 zb (Γ:=R.f104Γ) (an:=R.f104ann) ⟨R.Cok,(fun _ h=>nomatch h),R.mixed⟩ Go.Proofs.Tryz.func104 rfl rfl (fun x y h=>(R.f104eq x).trans h) (by decide)
def R.f73sig:Sig:=⟨⟨[.ro (.st (.pair (.sl (.int .i64)) (.pair (.sl (.int .i64)) (.pair (.sl (.int .i64)) (.sl (.int .i64)))))), .hole (.sl (.int .i64)), .hole (.int .i64)], []⟩,⟨[.hole (.st (.pair (.sl (.int .i64)) (.pair (.int .i64)
 (.pair (.int .i64) (.int .i64)))))], []⟩⟩
noncomputable def R.f73Γ:List Con:= [R.f53con,R.f103con,R.f104con]
def R.f73ann:Ann:=(.seq .leaf (.seq .leaf (.seq .leaf (.seq .leaf (.seq (.join [⟨.normal, [(10, .hole (.int .i64))], [.cells [.own 2, .hole (.int .i64), .hole (.int .i64), .hole (.int .i64)], .cells [.hole (.sl (.int .i64)), .hole (.int
 .i64), .hole (.int .i64), .hole (.int .i64)], .arr 3 (.int .i64)]⟩] (.seq .leaf (.seq (.join [⟨.normal, [(44, .hole .bool)], [.cells [.own 2, .hole (.int .i64), .hole (.int .i64), .hole (.int .i64)], .cells [.hole (.sl (.int .i64)), .hole
 (.int .i64), .hole (.int .i64), .hole (.int .i64)], .arr 3 (.int .i64)]⟩] .leaf) (.cond .leaf .leaf)))) (.seq (.eff 3 [] [0,1,0,0,0,28,63,127,0,256,768,1792,0,7936,16128,0,65280,131071,255,524287,1048575,2097151]) (.seq
 .leaf .leaf)))))))
noncomputable def R.f73F:(List Int×List Int×List Int×List Int)×List Int×Int→Option (List Int×Int×Int×Int):=fun(x:(List Int×List Int×List Int×List Int)×List Int×Int)=>if(0:Int)≤(0:Int)∧(0:Int)
 <(x.2.1.length:Int) then if(0:Int)≤IntKind.i64.wrap ((x.2.1.length:Int) - (1:Int))∧IntKind.i64.wrap ((x.2.1.length:Int) - (1:Int))<(x.2.1.length:Int) then if(0:Int)≤List.getD x.2.1 (Int.toNat (0:Int)) (0:Int)
 ∧List.getD x.2.1 (Int.toNat (0:Int)) (0:Int)<(x.1.2.1.length:Int) then Option.bind (if(0:Int)≤List.getD x.2.1 (Int.toNat (IntKind.i64.wrap ((x.2.1.length:Int) - (1:Int)))) (0:Int)∧List.getD x.2.1 (Int.toNat
 (IntKind.i64.wrap ((x.2.1.length:Int) - (1:Int)))) (0:Int)<(x.1.1.length:Int) then Option.bind (if(List.getD x.1.1 (Int.toNat (List.getD x.2.1 (Int.toNat (IntKind.i64.wrap ((x.2.1.length:Int) - (1:Int)))) (0:Int))) (0:
 Int)!=(10:Int))=true then Option.bind (R.f53F (List.getD x.1.1 (Int.toNat (List.getD x.2.1 (Int.toNat (IntKind.i64.wrap ((x.2.1.length:Int) - (1:Int)))) (0:Int))) (0:Int))) fun v1=>some (!v1,(0:Int),(0:Int),(0:Int),
 x.2.1,List.getD x.1.2.1 (Int.toNat (List.getD x.2.1 (Int.toNat (0:Int)) (0:Int))) (0:Int),(0:Int),(0:Int), []) else some (false,(0:Int),(0:Int),(0:Int),x.2.1,List.getD x.1.2.1 (Int.toNat (List.getD x.2.1 (Int.toNat
 (0:Int)) (0:Int))) (0:Int),(0:Int),(0:Int), [])) fun(v1:Bool×Int×Int×Int×List Int×Int×Int×Int×List Int)=>if v1.1=true then Option.bind (R.f103F (x.1,List.getD x.2.1 (Int.toNat (IntKind.i64.wrap
 ((x.2.1.length:Int) - (1:Int)))) (0:Int),(1:Int),x.2.2)) fun v2=>some (v2,v1.2.1,v1.2.2.1,v1.2.2.2.1,v1.2.2.2.2.1,v1.2.2.2.2.2.1,v1.2.2.2.2.2.2.1,v1.2.2.2.2.2.2.2.1,v1.2.2.2.2.2.2.2.2) else some (x.2.2,v1.2.1,v1.2.2.1,
 v1.2.2.2.1,v1.2.2.2.2.1,v1.2.2.2.2.2.1,v1.2.2.2.2.2.2.1,v1.2.2.2.2.2.2.2.1,v1.2.2.2.2.2.2.2.2) else none) fun(v1:Int×Int×Int×Int×List Int×Int×Int×Int×List Int)=>Option.bind (R.f103F (x.1,List.getD x.2.1 (Int.toNat
 (0:Int)) (0:Int),(-1:Int),x.2.2)) fun v2=>Option.bind (R.f104F (zif v1.2.2.2.2.2.1 v2)) fun v3=>if(0:Int)≤List.getD x.2.1 (Int.toNat (IntKind.i64.wrap ((x.2.1.length:Int) - (1:Int)))) (0:Int)∧List.getD x.2.1
 (Int.toNat (IntKind.i64.wrap ((x.2.1.length:Int) - (1:Int)))) (0:Int)<(x.1.2.1.length:Int) then Option.bind (R.f104F (zif (List.getD x.1.2.1 (Int.toNat (List.getD x.2.1 (Int.toNat (IntKind.i64.wrap ((x.2.1.length:Int) - (1:
 Int)))) (0:Int))) (0:Int)) v1.1)) fun v4=>some (v1.2.2.2.2.1,v1.2.2.2.2.2.1,v3,v4) else none else none else none else none
theorem R.f73eq: ∀ x,zk R.C R.f73Γ R.f73sig R.f73ann Go.Proofs.Tryz.f73 x=R.f73F x:=by
 intro x
 kernel_rfl
noncomputable def R.f73con:Con:=⟨73,R.f73sig,R.f73F⟩
theorem R.f73ok:Con.Ok Go.Proofs.Tryz.prog R.C R.f73con:=
 zb (Γ:=R.f73Γ) (an:=R.f73ann) ⟨R.Cok,(List.forall_mem_cons.2 ⟨R.f53ok,(List.forall_mem_cons.2 ⟨R.f103ok,(List.forall_mem_cons.2 ⟨R.f104ok,(fun _ h=>nomatch h)⟩)⟩)⟩),R.mixed⟩ Go.Proofs.Tryz.func73 rfl rfl (fun x y h=>(R.f73eq x).trans h) (by decide)
def R.f48sig:Sig:=⟨⟨[.hole (.sl (.int .i64)), .hole (.sl (.int .i64)), .hole (.int .i64)], []⟩,⟨[.hole (.sl (.st (.pair (.sl (.int .i64)) (.pair (.int .i64) (.pair (.int .i64) (.int .i64))))))], []⟩⟩
noncomputable def R.f48Γ:List Con:= [R.f70con,R.f71con,R.f72con,R.f53con,R.f73con]
def R.f48ann:Ann:=(.seq .leaf (.seq (.seq .leaf (.cond (.seq .leaf .leaf) .leaf)) (.seq .leaf (.seq .leaf (.seq .leaf (.seq .leaf (.seq (.seq .leaf (.block (.loop ⟨.normal, [(10, .own 4),(33, .hole (.int .i64))], [.gone, .gone, .gone,
 .map (.int .i64) (.int .i64), .arr 22 (.osl (.int .i64))]⟩ [⟨(.exit 0), [(10, .own 4)], [.gone, .gone, .gone, .gone, .arr 22 (.osl (.int .i64))]⟩] (.seq .leaf (.seq (.cond .leaf .leaf) (.seq (.block (.seq .leaf (.seq .leaf (.seq (.join
 [⟨.normal, [(13, .hole (.int .i64)),(10, .own 5)], [.gone, .gone, .gone, .map (.int .i64) (.int .i64), .gone, .arr 22 (.osl (.int .i64))]⟩] (.seq .leaf (.cond (.seq .leaf .leaf) .leaf))) (.seq .leaf (.seq .leaf (.seq (.join [⟨.normal,
 [(78, .hole .bool)], [.gone, .gone, .gone, .map (.int .i64) (.int .i64), .gone, .arr 22 (.osl (.int .i64)), .gone, .gone]⟩] .leaf) (.cond .leaf .leaf)))))))) .leaf)))))) (.seq .leaf (.seq (.seq .leaf (.block (.loop ⟨.normal, [(16, .own 5),
 (88, .hole (.int .i64))], [.gone, .gone, .gone, .gone, .arr 22 (.osl (.int .i64)), .arr 79 (.st (.pair (.sl (.int .i64)) (.pair (.int .i64) (.pair (.int .i64) (.int .i64)))))]⟩ [⟨(.exit 2), [(16, .own 5)], [.gone, .gone, .gone, .gone,
 .gone, .arr 79 (.st (.pair (.sl (.int .i64)) (.pair (.int .i64) (.pair (.int .i64) (.int .i64)))))]⟩] (.seq .leaf (.seq (.cond .leaf .leaf) (.seq (.block (.seq .leaf .leaf)) .leaf)))))) (.seq .leaf .leaf))))))))))
noncomputable def R.f48F:List Int×List Int×Int→Option (List (List Int×Int×Int×Int)):=fun(x:List Int×List Int×Int)=>if((x.1.length:Int)!=(x.2.1.length:Int))=true then some [] else Option.bind (R.f70F (x.1,
 x.2.1)) fun(v1:List Int×List Int×List Int×List Int)=>Option.bind (R.f71F x.1) fun(v2:List Int)=>Option.bind (R.f72F (v1.1,v1.2.1,v1.2.2.1,v1.2.2.2)) fun(v3:List (List Int))=>Option.bind (iter (fun(s4:Int×List
 (Int×Int)×List (Bool×List Int))=>if decide (s4.1<(v3.length:Int))=true then if(0:Int)≤s4.1∧s4.1<(v3.length:Int) then if(0:Int)≤(0:Int)∧(0:Int)<(↑(List.length (List.getD v3 (Int.toNat s4.1) [])):Int)
 then Option.bind (if(!Option.isSome (zp9 (Ty.int IntKind.i64) (Ty.int IntKind.i64) s4.2.1 (List.getD (List.getD v3 (Int.toNat s4.1) []) (Int.toNat (0:Int)) (0:Int))))=true then if zi (List.length s4.2.2+(1:Nat)) (24:Nat)
 then some ((s4.2.2.length:Int),s4.2.1,s4.2.2++ [(true, [])]) else none else some (Option.getD (zp9 (Ty.int IntKind.i64) (Ty.int IntKind.i64) s4.2.1 (List.getD (List.getD v3 (Int.toNat s4.1) []) (Int.toNat (0:Int)) (0:Int))) (0:
 Int),s4.2.1,s4.2.2)) fun(v5:Int×List (Int×Int)×List (Bool×List Int))=>if(0:Int)≤v5.1∧v5.1<(v5.2.2.length:Int) then if zv2 (List.getD v5.2.2 (Int.toNat v5.1) (false, [])).1 then if zi (List.length (List.getD
 v5.2.2 (Int.toNat v5.1) (false, [])).2+List.length (List.getD v3 (Int.toNat s4.1) [])) (8:Nat) then if(0:Int)≤v5.1∧v5.1<(↑(List.length (List.set v5.2.2 (Int.toNat v5.1) (false,(List.getD v5.2.2 (Int.toNat v5.1) (false,
 [])).2))):Int) then if(0:Int)≤IntKind.i64.wrap ((↑(List.length (List.getD v3 (Int.toNat s4.1) [])):Int) - (1:Int))∧IntKind.i64.wrap ((↑(List.length (List.getD v3 (Int.toNat s4.1) [])):Int) - (1:Int))<(↑(List.length
 (List.getD v3 (Int.toNat s4.1) [])):Int) then Option.bind (if(0:Int)≤List.getD (List.getD v3 (Int.toNat s4.1) []) (Int.toNat (IntKind.i64.wrap ((↑(List.length (List.getD v3 (Int.toNat s4.1) [])):Int) - (1:Int)))) (0:Int)∧
 List.getD (List.getD v3 (Int.toNat s4.1) []) (Int.toNat (IntKind.i64.wrap ((↑(List.length (List.getD v3 (Int.toNat s4.1) [])):Int) - (1:Int)))) (0:Int)<(x.1.length:Int) then Option.bind (R.f53F (List.getD x.1 (Int.toNat (List.getD
 (List.getD v3 (Int.toNat s4.1) []) (Int.toNat (IntKind.i64.wrap ((↑(List.length (List.getD v3 (Int.toNat s4.1) [])):Int) - (1:Int)))) (0:Int))) (0:Int))) fun v6=>if v6=true then if(0:Int)≤List.getD (List.getD v3 (Int.toNat
 s4.1) []) (Int.toNat (IntKind.i64.wrap ((↑(List.length (List.getD v3 (Int.toNat s4.1) [])):Int) - (1:Int)))) (0:Int)∧List.getD (List.getD v3 (Int.toNat s4.1) []) (Int.toNat (IntKind.i64.wrap ((↑(List.length (List.getD v3 (Int.toNat
 s4.1) [])):Int) - (1:Int)))) (0:Int)<(v2.length:Int) then some (List.getD v2 (Int.toNat (List.getD (List.getD v3 (Int.toNat s4.1) []) (Int.toNat (IntKind.i64.wrap ((↑(List.length (List.getD v3 (Int.toNat s4.1) [])):Int) - (1:
 Int)))) (0:Int))) (0:Int)!=(-1:Int),v5.2.1,List.set (List.set v5.2.2 (Int.toNat v5.1) (false,(List.getD v5.2.2 (Int.toNat v5.1) (false, [])).2)) (Int.toNat v5.1) (true,(List.getD v5.2.2 (Int.toNat v5.1) (false, [])).2++
 List.getD v3 (Int.toNat s4.1) [])) else none else some (false,v5.2.1,List.set (List.set v5.2.2 (Int.toNat v5.1) (false,(List.getD v5.2.2 (Int.toNat v5.1) (false, [])).2)) (Int.toNat v5.1) (true,(List.getD v5.2.2 (Int.toNat v5.1) (false,
 [])).2++List.getD v3 (Int.toNat s4.1) [])) else none) fun(v6:Bool×List (Int×Int)×List (Bool×List Int))=>if v6.1=true then if(0:Int)≤List.getD (List.getD v3 (Int.toNat s4.1) []) (Int.toNat (IntKind.i64.wrap
 ((↑(List.length (List.getD v3 (Int.toNat s4.1) [])):Int) - (1:Int)))) (0:Int)∧List.getD (List.getD v3 (Int.toNat s4.1) []) (Int.toNat (IntKind.i64.wrap ((↑(List.length (List.getD v3 (Int.toNat s4.1) [])):Int) - (1:Int)))) (0:
 Int)<(v2.length:Int) then some (Sum.inl (IntKind.i64.wrap (s4.1+(1:Int)),z2b (Ty.int IntKind.i64) (Ty.int IntKind.i64) v6.2.1 (List.getD v2 (Int.toNat (List.getD (List.getD v3 (Int.toNat s4.1) []) (Int.toNat (IntKind.i64.wrap
 ((↑(List.length (List.getD v3 (Int.toNat s4.1) [])):Int) - (1:Int)))) (0:Int))) (0:Int)) v5.1,v6.2.2)) else none else some (Sum.inl (IntKind.i64.wrap (s4.1+(1:Int)),v6.2.1,v6.2.2)) else none else none else none else none else
 none else none else none else some (Sum.inr s4.2.2)) ((0:Int), [], [])) fun(v4:List (Bool×List Int))=>Option.bind (iter (fun(s5:Int×List (Bool×List Int)×List (List Int×Int×Int×Int))=>if decide (s5.1<(v4.length:
 Int))=true then if(0:Int)≤s5.1∧s5.1<(s5.2.1.length:Int) then Option.bind (R.f73F ((v1.1,v1.2.1,v1.2.2.1,v1.2.2.2),(List.getD s5.2.1 (Int.toNat s5.1) (false, [])).2,x.2.2)) fun(v6:List Int×Int×Int×Int)=>if zi
 (List.length s5.2.2+(1:Nat)) (48:Nat) then some (Sum.inl (IntKind.i64.wrap (s5.1+(1:Int)),s5.2.1,s5.2.2++ [v6])) else none else none else some (Sum.inr s5.2.2)) ((0:Int),v4, [])) fun(v5:List (List Int×Int×Int×Int))
 =>some v5
theorem R.f48eq: ∀ x,zk R.C R.f48Γ R.f48sig R.f48ann Go.Proofs.Tryz.f48 x=R.f48F x:=by
 intro x
 kernel_rfl
noncomputable def R.f48con:Con:=⟨48,R.f48sig,R.f48F⟩
theorem R.f48ok:Con.Ok Go.Proofs.Tryz.prog R.C R.f48con:=
 zb (Γ:=R.f48Γ) (an:=R.f48ann) ⟨R.Cok,(List.forall_mem_cons.2 ⟨R.f70ok,(List.forall_mem_cons.2 ⟨R.f71ok,(List.forall_mem_cons.2 ⟨R.f72ok,(List.forall_mem_cons.2 ⟨R.f53ok,(List.forall_mem_cons.2 ⟨R.f73ok,(fun _ h=>nomatch h)⟩)⟩)⟩)⟩)⟩),R.mixed⟩ Go.Proofs.Tryz.func48 rfl rfl (fun x y h=>(R.f48eq x).trans h) (by decide)
def R.s1sig:Sig:=⟨⟨[.own 0, .hole (.sl (.int .i64))], [.arr 3 (.int .i64)]⟩,⟨[.hole (.sl (.int .i64))], [.arr 3 (.int .i64)]⟩⟩
noncomputable def R.s1Γ:List Con:= []
def R.s1ann:Ann:=(.seq .leaf (.seq .leaf (.seq (.seq .leaf (.block (.loop ⟨.normal, [(13, .hole (.int .i64))], [.arr 3 (.int .i64), .arr 3 (.int .i64)]⟩ [⟨(.exit 0), [], [.arr 3 (.int .i64), .arr 3 (.int .i64)]⟩] (.seq .leaf (.seq
 (.cond .leaf .leaf) (.seq (.block (.seq .leaf .leaf)) .leaf)))))) (.seq .leaf .leaf))))
noncomputable def R.s1F:List Int×List Int→Option (List Int×List Int):=fun(x:List Int×List Int)=>if(0:Int)≤(x.1.length:Int)∧(x.1.length:Int)≤(x.1.length:Int)∧zi (Int.toNat (x.1.length:Int)) (8:Nat)
 then Option.bind (iter (fun(s1:Int×List Int×List Int)=>if decide (s1.1<(x.1.length:Int))=true then if(0:Int)≤s1.1∧s1.1<(x.1.length:Int) then if(0:Int)≤List.getD x.1 (Int.toNat s1.1) (0:Int)∧List.getD x.1
 (Int.toNat s1.1) (0:Int)<(s1.2.1.length:Int) then if(0:Int)≤s1.1∧s1.1<(s1.2.2.length:Int) then some (Sum.inl (IntKind.i64.wrap (s1.1+(1:Int)),s1.2.1,List.set s1.2.2 (Int.toNat s1.1) (List.getD s1.2.1 (Int.toNat
 (List.getD x.1 (Int.toNat s1.1) (0:Int))) (0:Int)))) else none else none else none else some (Sum.inr (s1.2.1,s1.2.2))) ((0:Int),x.2,List.replicate (Int.toNat (x.1.length:Int)) (0:Int))) fun(v1:List Int×List Int)=>some
 (v1.2,v1.1) else none
theorem R.s1eq: ∀ x,zk R.C R.s1Γ R.s1sig R.s1ann Go.Proofs.Tryz.f74 x=R.s1F x:=by
 intro x
 kernel_rfl
noncomputable def R.s1con:Con:=⟨74,R.s1sig,R.s1F⟩
theorem R.s1ok:Con.Ok Go.Proofs.Tryz.prog R.C R.s1con:=
 zb (Γ:=R.s1Γ) (an:=R.s1ann) ⟨R.Cok,(fun _ h=>nomatch h),R.mixed⟩ Go.Proofs.Tryz.func74 rfl rfl (fun x y h=>(R.s1eq x).trans h) (by decide)
def R.f74sig:Sig:=⟨⟨[.hole (.sl (.int .i64)), .hole (.sl (.int .i64))], []⟩,⟨[.hole (.sl (.int .i64))], []⟩⟩
noncomputable def R.f74Γ:List Con:= []
def R.f74ann:Ann:=(.seq .leaf (.seq .leaf (.seq (.seq .leaf (.block (.loop ⟨.normal, [(13, .hole (.int .i64))], [.arr 3 (.int .i64)]⟩ [⟨(.exit 0), [], [.arr 3 (.int .i64)]⟩] (.seq .leaf (.seq (.cond .leaf .leaf) (.seq (.block (.seq
 .leaf .leaf)) .leaf)))))) (.seq .leaf .leaf))))
noncomputable def R.f74F:List Int×List Int→Option (List Int):=fun(x:List Int×List Int)=>if(0:Int)≤(x.2.length:Int)∧(x.2.length:Int)≤(x.2.length:Int)∧zi (Int.toNat (x.2.length:Int)) (8:Nat) then
 Option.bind (iter (fun(s1:Int×List Int)=>if decide (s1.1<(x.2.length:Int))=true then if(0:Int)≤s1.1∧s1.1<(x.2.length:Int) then if(0:Int)≤List.getD x.2 (Int.toNat s1.1) (0:Int)∧List.getD x.2 (Int.toNat s1.1)
 (0:Int)<(x.1.length:Int) then if(0:Int)≤s1.1∧s1.1<(s1.2.length:Int) then some (Sum.inl (IntKind.i64.wrap (s1.1+(1:Int)),List.set s1.2 (Int.toNat s1.1) (List.getD x.1 (Int.toNat (List.getD x.2 (Int.toNat s1.1) (0:
 Int))) (0:Int)))) else none else none else none else some (Sum.inr s1.2)) ((0:Int),List.replicate (Int.toNat (x.2.length:Int)) (0:Int))) fun(v1:List Int)=>some v1 else none
theorem R.f74eq: ∀ x,zk R.C R.f74Γ R.f74sig R.f74ann Go.Proofs.Tryz.f74 x=R.f74F x:=by
 intro x
 kernel_rfl
noncomputable def R.f74con:Con:=⟨74,R.f74sig,R.f74F⟩
theorem R.f74ok:Con.Ok Go.Proofs.Tryz.prog R.C R.f74con:=
 zb (Γ:=R.f74Γ) (an:=R.f74ann) ⟨R.Cok,(fun _ h=>nomatch h),R.mixed⟩ Go.Proofs.Tryz.func74 rfl rfl (fun x y h=>(R.f74eq x).trans h) (by decide)
def R.f105sig:Sig:=⟨⟨[.hole (.sl (.int .i64))], []⟩,⟨[.own 0], [.arr 3 (.int .i64)]⟩⟩
noncomputable def R.f105Γ:List Con:= [R.f142con]
def R.f105ann:Ann:=(.seq .leaf (.seq .leaf (.seq (.seq .leaf (.block (.loop ⟨.normal, [(11, .hole (.int .i64))], [.arr 3 (.int .i64)]⟩ [⟨(.exit 0), [], [.arr 3 (.int .i64)]⟩] (.seq .leaf (.seq (.cond .leaf .leaf) (.seq (.block (.seq
 .leaf (.seq .leaf (.seq .leaf (.cond .leaf .leaf))))) .leaf)))))) (.seq .leaf .leaf))))
noncomputable def R.f105F:List Int→Option (List Int):=fun(x:List Int)=>if(0:Int)≤(x.length:Int)∧(x.length:Int)≤(x.length:Int)∧zi (Int.toNat (x.length:Int)) (8:Nat) then Option.bind (iter (fun(s1:Int×
 List Int)=>if decide (s1.1<(x.length:Int))=true then if(0:Int)≤s1.1∧s1.1<(x.length:Int) then if(0:Int)≤s1.1∧s1.1<(s1.2.length:Int) then Option.bind (R.f142F (List.getD x (Int.toNat s1.1) (0:Int))) fun v2=>
 if(ByteArray.toList v2==ByteArray.toList { data:= #[]:ByteArray})=true then if(0:Int)≤s1.1∧s1.1<(↑(List.length (List.set s1.2 (Int.toNat s1.1) (List.getD x (Int.toNat s1.1) (0:Int)))):Int) then some (Sum.inl
 (IntKind.i64.wrap (s1.1+(1:Int)),List.set (List.set s1.2 (Int.toNat s1.1) (List.getD x (Int.toNat s1.1) (0:Int))) (Int.toNat s1.1) (0:Int))) else none else some (Sum.inl (IntKind.i64.wrap (s1.1+(1:Int)),List.set s1.2
 (Int.toNat s1.1) (List.getD x (Int.toNat s1.1) (0:Int)))) else none else none else some (Sum.inr s1.2)) ((0:Int),List.replicate (Int.toNat (x.length:Int)) (0:Int))) fun(v1:List Int)=>some v1 else none
theorem R.f105eq: ∀ x,zk R.C R.f105Γ R.f105sig R.f105ann Go.Proofs.Tryz.f105 x=R.f105F x:=by
 intro x
 kernel_rfl
noncomputable def R.f105con:Con:=⟨105,R.f105sig,R.f105F⟩
theorem R.f105ok:Con.Ok Go.Proofs.Tryz.prog R.C R.f105con:=
 zb (Γ:=R.f105Γ) (an:=R.f105ann) ⟨R.Cok,(List.forall_mem_cons.2 ⟨R.f142ok,(fun _ h=>nomatch h)⟩),R.mixed⟩ Go.Proofs.Tryz.func105 rfl rfl (fun x y h=>(R.f105eq x).trans h) (by decide)
def R.f107sig:Sig:=⟨⟨[.hole (.int .i64)], []⟩,⟨[.hole (.int .i64)], []⟩⟩
noncomputable def R.f107Γ:List Con:= []
def R.f107ann:Ann:=(.seq .leaf (.seq (.seq .leaf (.cond (.seq .leaf .leaf) .leaf)) (.seq .leaf .leaf)))
noncomputable def R.f107F:Int→Option (Int):=fun(x:Int)=>if(x !=(1:Int))=true then some (0:Int) else some x
theorem R.f107eq: ∀ x,zk R.C R.f107Γ R.f107sig R.f107ann Go.Proofs.Tryz.f107 x=R.f107F x:=by
 intro x
 kernel_rfl
noncomputable def R.f107con:Con:=⟨107,R.f107sig,R.f107F⟩
theorem R.f107ok:Con.Ok Go.Proofs.Tryz.prog R.C R.f107con:=
 zb (Γ:=R.f107Γ) (an:=R.f107ann) ⟨R.Cok,(fun _ h=>nomatch h),R.mixed⟩ Go.Proofs.Tryz.func107 rfl rfl (fun x y h=>(R.f107eq x).trans h) (by decide)
def R.f143sig:Sig:=⟨⟨[.own 0, .hole (.int .i64)], [.arr 3 (.int .i64)]⟩,⟨[], [.arr 3 (.int .i64)]⟩⟩
noncomputable def R.f143Γ:List Con:= [R.f53con]
def R.f143ann:Ann:=(.seq .leaf (.seq .leaf (.block (.loop ⟨.normal, [(4, .hole (.int .i64)),(10, .hole (.int .i64))], [.arr 3 (.int .i64)]⟩ [⟨(.exit 0), [], [.arr 3 (.int .i64)]⟩] (.seq .leaf (.seq (.cond .leaf .leaf) (.seq (.block
 (.seq .leaf (.seq (.join [⟨.normal, [], [.arr 3 (.int .i64)]⟩] (.seq .leaf (.cond .leaf .leaf))) (.seq .leaf (.seq (.join [⟨.normal, [(30, .hole .bool)], [.arr 3 (.int .i64)]⟩] .leaf) (.cond .leaf .leaf)))))) .leaf)))))))
noncomputable def R.f143F:Int×List Int→Option (List Int):=fun(x:Int×List Int)=>Option.bind (iter (fun(s1:Int×Int×List Int)=>if decide (s1.2.1<(x.2.length:Int))=true then if(0:Int)≤s1.2.1∧s1.2.1<
 (s1.2.2.length:Int) then Option.bind (if(List.getD s1.2.2 (Int.toNat s1.2.1) (0:Int)==(8:Int))=true then if(0:Int)≤s1.2.1∧s1.2.1<(s1.2.2.length:Int) then some (List.set s1.2.2 (Int.toNat s1.2.1) s1.1) else none else
 some s1.2.2) fun(v2:List Int)=>if(0:Int)≤s1.2.1∧s1.2.1<(v2.length:Int) then Option.bind (Option.bind (R.f53F (List.getD v2 (Int.toNat s1.2.1) (0:Int))) fun v3=>if v3=true then some (true,v2) else some (List.getD v2
 (Int.toNat s1.2.1) (0:Int)==(22:Int),v2)) fun(v3:Bool×List Int)=>if v3.1=true then some (Sum.inl ((13:Int),IntKind.i64.wrap (s1.2.1+(1:Int)),v3.2)) else some (Sum.inl (List.getD v2 (Int.toNat s1.2.1) (0:Int),
 IntKind.i64.wrap (s1.2.1+(1:Int)),v3.2)) else none else none else some (Sum.inr s1.2.2)) (x.1,(0:Int),x.2)) fun(v1:List Int)=>some v1
theorem R.f143eq: ∀ x,zk R.C R.f143Γ R.f143sig R.f143ann Go.Proofs.Tryz.f143 x=R.f143F x:=by
 intro x
 kernel_rfl
noncomputable def R.f143con:Con:=⟨143,R.f143sig,R.f143F⟩
theorem R.f143ok:Con.Ok Go.Proofs.Tryz.prog R.C R.f143con:=
 zb (Γ:=R.f143Γ) (an:=R.f143ann) ⟨R.Cok,(List.forall_mem_cons.2 ⟨R.f53ok,(fun _ h=>nomatch h)⟩),R.mixed⟩ Go.Proofs.Tryz.func143 rfl rfl (fun x y h=>(R.f143eq x).trans h) (by decide)
def R.f169sig:Sig:=⟨⟨[.hole (.int .i64)], []⟩,⟨[.hole .bool], []⟩⟩
noncomputable def R.f169Γ:List Con:= [R.f80con,R.f79con]
def R.f169ann:Ann:=(.seq .leaf (.seq .leaf .leaf))
noncomputable def R.f169F:Int→Option (Bool):=fun(x:Int)=>Option.bind (R.f80F [(0:Int),(1:Int),(2:Int)]) fun v1=>Option.bind (R.f79F (x,v1)) fun v2=>some v2
theorem R.f169eq: ∀ x,zk R.C R.f169Γ R.f169sig R.f169ann Go.Proofs.Tryz.f169 x=R.f169F x:=by
 intro x
 kernel_rfl
noncomputable def R.f169con:Con:=⟨169,R.f169sig,R.f169F⟩
theorem R.f169ok:Con.Ok Go.Proofs.Tryz.prog R.C R.f169con:=
 zb (Γ:=R.f169Γ) (an:=R.f169ann) ⟨R.Cok,(List.forall_mem_cons.2 ⟨R.f80ok,(List.forall_mem_cons.2 ⟨R.f79ok,(fun _ h=>nomatch h)⟩)⟩),R.mixed⟩ Go.Proofs.Tryz.func169 rfl rfl (fun x y h=>(R.f169eq x).trans h) (by decide)
def R.f170sig:Sig:=⟨⟨[.hole (.int .i64), .hole (.int .i64), .ptr 0 0, .ptr 1 0, .ptr 2 0, .ptr 3 0], [.cells [.own 4], .cells [.hole (.int .i64)], .cells [.hole (.int .i64)], .cells [.hole (.int .i64)], .arr 3 (.int .i64)]⟩,⟨[],
 [.cells [.own 4], .cells [.hole (.int .i64)], .cells [.hole (.int .i64)], .cells [.hole (.int .i64)], .arr 3 (.int .i64)]⟩⟩
noncomputable def R.f170Γ:List Con:= []
def R.f170ann:Ann:=(.seq (.join [⟨.normal, [(18, .hole .bool)], [.cells [.own 4], .cells [.hole (.int .i64)], .cells [.hole (.int .i64)], .cells [.hole (.int .i64)], .arr 3 (.int .i64)]⟩] .leaf) (.cond .leaf .leaf))
noncomputable def R.f170F:Int×Int×Int×Int×Int×List Int→Option (Int×Int×Int×List Int):=fun(x:Int×Int×Int×Int×Int×List Int)=>Option.bind (if(0:Int)≤x.1∧x.1<(x.2.2.2.2.2.length:Int) then if
 (List.getD x.2.2.2.2.2 (Int.toNat x.1) (0:Int)==x.2.2.1)=true then some (x.2.1==x.2.2.2.1,x.2.2.1,x.2.2.2.1,x.2.2.2.2.1,x.2.2.2.2.2) else some (false,x.2.2.1,x.2.2.2.1,x.2.2.2.2.1,x.2.2.2.2.2) else none) fun(v1:Bool×Int
 ×Int×Int×List Int)=>if v1.1=true then if(0:Int)≤x.1∧x.1<(v1.2.2.2.2.length:Int) then some (v1.2.1,v1.2.2.1,v1.2.2.2.1,List.set v1.2.2.2.2 (Int.toNat x.1) v1.2.2.2.1) else none else some (v1.2.1,v1.2.2.1,v1.2.2.2.1,
 v1.2.2.2.2)
theorem R.f170eq: ∀ x,zk R.C R.f170Γ R.f170sig R.f170ann Go.Proofs.Tryz.f170 x=R.f170F x:=by
 intro x
 kernel_rfl
noncomputable def R.f170con:Con:=⟨170,R.f170sig,R.f170F⟩
theorem R.f170ok:Con.Ok Go.Proofs.Tryz.prog R.C R.f170con:=
 zb (Γ:=R.f170Γ) (an:=R.f170ann) ⟨R.Cok,(fun _ h=>nomatch h),R.mixed⟩ Go.Proofs.Tryz.func170 rfl rfl (fun x y h=>(R.f170eq x).trans h) (by decide)
def R.f168sig:Sig:=⟨⟨[.own 4, .hole (.int .i64), .fnc 169 0, .fnc 170 4, .ptr 0 0, .ptr 1 0, .ptr 2 0, .ptr 3 0], [.cells [.own 4], .cells [.hole (.int .i64)], .cells [.hole (.int .i64)], .cells [.hole (.int .i64)], .arr 3 (.int
 .i64)]⟩,⟨[], [.cells [.own 4], .cells [.hole (.int .i64)], .cells [.hole (.int .i64)], .cells [.hole (.int .i64)], .arr 3 (.int .i64)]⟩⟩
noncomputable def R.f168Γ:List Con:= [R.f169con,R.f170con]
def R.f168ann:Ann:=(.seq .leaf (.seq .leaf (.block (.loop ⟨.normal, [(8, .hole (.int .i64)),(14, .hole (.int .i64))], [.cells [.own 4], .cells [.hole (.int .i64)], .cells [.hole (.int .i64)], .cells [.hole (.int .i64)], .arr 3 (.int
 .i64)]⟩ [⟨(.exit 0), [], [.cells [.own 4], .cells [.hole (.int .i64)], .cells [.hole (.int .i64)], .cells [.hole (.int .i64)], .arr 3 (.int .i64)]⟩] (.seq .leaf (.seq (.cond .leaf .leaf) (.seq (.block (.seq .leaf (.seq .leaf (.seq .leaf
 (.cond .leaf .leaf))))) .leaf)))))))
noncomputable def R.f168F:Int×Int×Int×Int×List Int→Option (Int×Int×Int×List Int):=fun(x:Int×Int×Int×Int×List Int)=>Option.bind (iter (fun(s1:Int×Int×Int×Int×Int×List Int)=>if decide (s1.2.1<
 (x.2.2.2.2.length:Int))=true then if(0:Int)≤s1.2.1∧s1.2.1<(s1.2.2.2.2.2.length:Int) then Option.bind (R.f170F (s1.2.1,s1.1,s1.2.2.1,s1.2.2.2.1,s1.2.2.2.2.1,s1.2.2.2.2.2)) fun(v2:Int×Int×Int×List Int)=>
 Option.bind (R.f169F (List.getD s1.2.2.2.2.2 (Int.toNat s1.2.1) (0:Int))) fun v3=>if v3=true then some (Sum.inl (List.getD s1.2.2.2.2.2 (Int.toNat s1.2.1) (0:Int),IntKind.i64.wrap (s1.2.1+(1:Int)),v2.1,v2.2.1,v2.2.2.1,
 v2.2.2.2)) else some (Sum.inl (s1.1,IntKind.i64.wrap (s1.2.1+(1:Int)),v2.1,v2.2.1,v2.2.2.1,v2.2.2.2)) else none else some (Sum.inr (s1.2.2.1,s1.2.2.2.1,s1.2.2.2.2.1,s1.2.2.2.2.2))) (x.1,(0:Int),x.2.1,x.2.2.1,x.2.2.2.1,
 x.2.2.2.2)) fun(v1:Int×Int×Int×List Int)=>some (v1.1,v1.2.1,v1.2.2.1,v1.2.2.2)
theorem R.f168eq: ∀ x,zk R.C R.f168Γ R.f168sig R.f168ann Go.Proofs.Tryz.f168 x=R.f168F x:=by
 intro x
 kernel_rfl
noncomputable def R.f168con:Con:=⟨168,R.f168sig,R.f168F⟩
theorem R.f168ok:Con.Ok Go.Proofs.Tryz.prog R.C R.f168con:=
 zb (Γ:=R.f168Γ) (an:=R.f168ann) ⟨R.Cok,(List.forall_mem_cons.2 ⟨R.f169ok,(List.forall_mem_cons.2 ⟨R.f170ok,(fun _ h=>nomatch h)⟩)⟩),R.mixed⟩ Go.Proofs.Tryz.func168 rfl rfl (fun x y h=>(R.f168eq x).trans h) (by decide)
def R.f144sig:Sig:=⟨⟨[.own 0, .hole (.int .i64), .hole (.int .i64), .hole (.int .i64), .hole (.int .i64)], [.arr 3 (.int .i64)]⟩,⟨[], [.arr 3 (.int .i64)]⟩⟩
noncomputable def R.f144Γ:List Con:= [R.f168con,R.f169con]
def R.f144ann:Ann:=(.seq .leaf .leaf)
noncomputable def R.f144F:Int×Int×Int×Int×List Int→Option (List Int):=fun(x:Int×Int×Int×Int×List Int)=>Option.bind (R.f168F (x.1,x.2.1,x.2.2.2.1,x.2.2.1,x.2.2.2.2)) fun(v1:Int×Int×Int×List Int)=>
 some v1.2.2.2
theorem R.f144eq: ∀ x,zk R.C R.f144Γ R.f144sig R.f144ann Go.Proofs.Tryz.f144 x=R.f144F x:=by
 intro x
 kernel_rfl
noncomputable def R.f144con:Con:=⟨144,R.f144sig,R.f144F⟩
theorem R.f144ok:Con.Ok Go.Proofs.Tryz.prog R.C R.f144con:=
 zb (Γ:=R.f144Γ) (an:=R.f144ann) ⟨R.Cok,(List.forall_mem_cons.2 ⟨R.f168ok,(List.forall_mem_cons.2 ⟨R.f169ok,(fun _ h=>nomatch h)⟩)⟩),R.mixed⟩ Go.Proofs.Tryz.func144 rfl rfl (fun x y h=>(R.f144eq x).trans h) (by decide)
def R.f145sig:Sig:=⟨⟨[.own 0, .hole (.int .i64), .hole (.sl (.int .i64))], [.arr 3 (.int .i64)]⟩,⟨[], [.arr 3 (.int .i64)]⟩⟩
noncomputable def R.f145Γ:List Con:= []
def R.f145ann:Ann:=(.seq .leaf (.block (.loop ⟨.normal, [(12, .hole (.int .i64))], [.arr 3 (.int .i64)]⟩ [⟨(.exit 0), [], [.arr 3 (.int .i64)]⟩] (.seq .leaf (.seq (.cond .leaf .leaf) (.seq (.block (.seq .leaf (.seq .leaf (.block (.loop
 ⟨.normal, [(19, .hole (.int .i64))], [.arr 3 (.int .i64)]⟩ [⟨(.exit 2), [], [.arr 3 (.int .i64)]⟩] (.seq .leaf (.seq (.cond .leaf .leaf) (.seq (.block (.seq .leaf (.seq .leaf (.cond .leaf .leaf)))) .leaf)))))))) .leaf))))))
noncomputable def R.f145F:Int×List Int×List Int→Option (List Int):=fun(x:Int×List Int×List Int)=>Option.bind (iter (fun(s1:Int×List Int)=>if decide (s1.1<(x.2.2.length:Int))=true then if(0:Int)≤s1.1∧
 s1.1<(s1.2.length:Int) then Option.bind (iter (fun(s2:Int×List Int)=>if decide (s2.1<(x.2.1.length:Int))=true then if(0:Int)≤s2.1∧s2.1<(x.2.1.length:Int) then if(List.getD s1.2 (Int.toNat s1.1) (0:Int)==
 List.getD x.2.1 (Int.toNat s2.1) (0:Int))=true then if(0:Int)≤s1.1∧s1.1<(s2.2.length:Int) then some (Sum.inl (IntKind.i64.wrap (s2.1+(1:Int)),List.set s2.2 (Int.toNat s1.1) x.1)) else none else some (Sum.inl
 (IntKind.i64.wrap (s2.1+(1:Int)),s2.2)) else none else some (Sum.inr s2.2)) ((0:Int),s1.2)) fun(v2:List Int)=>some (Sum.inl (IntKind.i64.wrap (s1.1+(1:Int)),v2)) else none else some (Sum.inr s1.2)) ((0:Int),x.2.2)) fun
 (v1:List Int)=>some v1
theorem R.f145eq: ∀ x,zk R.C R.f145Γ R.f145sig R.f145ann Go.Proofs.Tryz.f145 x=R.f145F x:=by
 intro x
 kernel_rfl
noncomputable def R.f145con:Con:=⟨145,R.f145sig,R.f145F⟩
theorem R.f145ok:Con.Ok Go.Proofs.Tryz.prog R.C R.f145con:=
 zb (Γ:=R.f145Γ) (an:=R.f145ann) ⟨R.Cok,(fun _ h=>nomatch h),R.mixed⟩ Go.Proofs.Tryz.func145 rfl rfl (fun x y h=>(R.f145eq x).trans h) (by decide)
def R.f146sig:Sig:=⟨⟨[.own 0], [.arr 3 (.int .i64)]⟩,⟨[], [.arr 3 (.int .i64)]⟩⟩
noncomputable def R.f146Γ:List Con:= []
def R.f146ann:Ann:=(.seq .leaf (.block (.loop ⟨.normal, [(2, .hole (.int .i64))], [.arr 3 (.int .i64)]⟩ [⟨(.exit 0), [], [.arr 3 (.int .i64)]⟩] (.seq (.seq .leaf (.cond .leaf .leaf)) (.seq (.block (.seq .leaf (.seq (.join [⟨.normal,
 [(49, .hole .bool)], [.arr 3 (.int .i64)]⟩] .leaf) (.cond .leaf .leaf)))) .leaf)))))
noncomputable def R.f146F:List Int→Option (List Int):=fun(x:List Int)=>Option.bind (iter (fun(s1:Int×List Int)=>if decide (IntKind.i64.wrap (s1.1+(1:Int))<(s1.2.length:Int))=true then if(0:Int)≤
 IntKind.i64.wrap (s1.1 - (1:Int))∧IntKind.i64.wrap (s1.1 - (1:Int))<(s1.2.length:Int) then if(0:Int)≤s1.1∧s1.1<(s1.2.length:Int) then if(0:Int)≤IntKind.i64.wrap (s1.1+(1:Int))∧IntKind.i64.wrap (s1.1+(1:
 Int))<(s1.2.length:Int) then Option.bind (if(List.getD s1.2 (Int.toNat (IntKind.i64.wrap (s1.1 - (1:Int)))) (0:Int)==List.getD s1.2 (Int.toNat (IntKind.i64.wrap (s1.1+(1:Int)))) (0:Int))=true then if(List.getD s1.2
 (Int.toNat (IntKind.i64.wrap (s1.1 - (1:Int)))) (0:Int)==(3:Int))=true then if(List.getD s1.2 (Int.toNat s1.1) (0:Int)==(4:Int))=true then some (true,s1.2) else if(List.getD s1.2 (Int.toNat s1.1) (0:Int)==(7:Int))
 =true then some (true,s1.2) else if(List.getD s1.2 (Int.toNat (IntKind.i64.wrap (s1.1 - (1:Int)))) (0:Int)==(6:Int))=true then some (List.getD s1.2 (Int.toNat s1.1) (0:Int)==(7:Int),s1.2) else some (false,s1.2) else if
 (List.getD s1.2 (Int.toNat (IntKind.i64.wrap (s1.1 - (1:Int)))) (0:Int)==(6:Int))=true then some (List.getD s1.2 (Int.toNat s1.1) (0:Int)==(7:Int),s1.2) else some (false,s1.2) else some (false,s1.2)) fun(v2:Bool×List
 Int)=>if v2.1=true then if(0:Int)≤s1.1∧s1.1<(v2.2.length:Int) then some (Sum.inl (IntKind.i64.wrap (s1.1+(1:Int)),List.set v2.2 (Int.toNat s1.1) (List.getD s1.2 (Int.toNat (IntKind.i64.wrap (s1.1 - (1:Int)))) (0:
 Int)))) else none else some (Sum.inl (IntKind.i64.wrap (s1.1+(1:Int)),v2.2)) else none else none else none else some (Sum.inr s1.2)) ((1:Int),x)) fun(v1:List Int)=>some v1
theorem R.f146eq: ∀ x,zk R.C R.f146Γ R.f146sig R.f146ann Go.Proofs.Tryz.f146 x=R.f146F x:=by
 intro x
 kernel_rfl
noncomputable def R.f146con:Con:=⟨146,R.f146sig,R.f146F⟩
theorem R.f146ok:Con.Ok Go.Proofs.Tryz.prog R.C R.f146con:=
 zb (Γ:=R.f146Γ) (an:=R.f146ann) ⟨R.Cok,(fun _ h=>nomatch h),R.mixed⟩ Go.Proofs.Tryz.func146 rfl rfl (fun x y h=>(R.f146eq x).trans h) (by decide)
def R.f147sig:Sig:=⟨⟨[.own 0], [.arr 3 (.int .i64)]⟩,⟨[], [.arr 3 (.int .i64)]⟩⟩
noncomputable def R.f147Γ:List Con:= []
def R.f147ann:Ann:=(.block (.seq .leaf (.seq .leaf (.block (.loop ⟨.normal, [(2, .hole (.int .i64))], [.arr 3 (.int .i64)]⟩ [⟨(.exit 0), [], [.arr 3 (.int .i64)]⟩] (.seq (.seq .leaf (.cond .leaf .leaf)) (.block (.seq (.seq .leaf (.cond
 (.seq .leaf .leaf) .leaf)) (.seq .leaf (.seq (.block (.loop ⟨.normal, [(3, .hole (.int .i64))], [.arr 3 (.int .i64)]⟩ [⟨(.exit 2), [(3, .hole (.int .i64))], [.arr 3 (.int .i64)]⟩] (.seq (.seq (.join [⟨.normal, [(27, .hole .bool)], [.arr 3
 (.int .i64)]⟩] .leaf) (.cond .leaf .leaf)) (.block .leaf)))) (.seq (.join [⟨.normal, [(4, .hole .bool)], [.arr 3 (.int .i64)]⟩] .leaf) (.block (.loop ⟨.normal, [(2, .hole (.int .i64))], [.arr 3 (.int .i64)]⟩ [⟨(.exit 4), [(2, .hole (.int
 .i64))], [.arr 3 (.int .i64)]⟩,⟨(.exit 1), [(2, .hole (.int .i64))], [.arr 3 (.int .i64)]⟩] (.seq (.seq .leaf (.cond .leaf .leaf)) (.seq (.block (.seq (.seq .leaf (.cond (.seq .leaf .leaf) .leaf)) .leaf)) .leaf)))))))))))))))
noncomputable def R.f147F:List Int→Option (List Int):=fun(x:List Int)=>Option.bind (iter (fun(s1:Int×List Int)=>if decide (s1.1<(s1.2.length:Int))=true then if(0:Int)≤s1.1∧s1.1<(s1.2.length:Int) then if
 (List.getD s1.2 (Int.toNat s1.1) (0:Int)!=(5:Int))=true then some (Sum.inl (IntKind.i64.wrap (s1.1+(1:Int)),s1.2)) else Option.bind (iter (fun(s2:Int×List Int)=>Option.bind (if decide (s2.1<(s2.2.length:Int))=true
 then if(0:Int)≤s2.1∧s2.1<(s2.2.length:Int) then some (List.getD s2.2 (Int.toNat s2.1) (0:Int)==(5:Int),s2.2) else none else some (false,s2.2)) fun(v3:Bool×List Int)=>if v3.1=true then some (Sum.inl
 (IntKind.i64.wrap (s2.1+(1:Int)),v3.2)) else some (Sum.inr (s2.1,v3.2))) (s1.1,s1.2)) fun(v2:Int×List Int)=>Option.bind (if decide (s1.1 > (0:Int))=true then if(0:Int)≤IntKind.i64.wrap (s1.1 - (1:Int))∧
 IntKind.i64.wrap (s1.1 - (1:Int))<(v2.2.length:Int) then if(List.getD v2.2 (Int.toNat (IntKind.i64.wrap (s1.1 - (1:Int)))) (0:Int)==(3:Int))=true then some (true,v2.2) else if decide (v2.1<(v2.2.length:Int))=true
 then if(0:Int)≤v2.1∧v2.1<(v2.2.length:Int) then some (List.getD v2.2 (Int.toNat v2.1) (0:Int)==(3:Int),v2.2) else none else some (false,v2.2) else none else if decide (v2.1<(v2.2.length:Int))=true then if(0:Int)
 ≤v2.1∧v2.1<(v2.2.length:Int) then some (List.getD v2.2 (Int.toNat v2.1) (0:Int)==(3:Int),v2.2) else none else some (false,v2.2)) fun(v3:Bool×List Int)=>Option.bind (iter (fun(s4:Int×List Int)=>if decide (s4.1<
 v2.1)=true then if(!v3.1)=true then some (Sum.inr (Sum.inr (v2.1,s4.2))) else if(0:Int)≤s4.1∧s4.1<(s4.2.length:Int) then some (Sum.inl (IntKind.i64.wrap (s4.1+(1:Int)),List.set s4.2 (Int.toNat s4.1) (3:Int))) else
 none else some (Sum.inr (Sum.inl (s4.1,s4.2)))) (s1.1,v3.2)) fun(v4:Int×List Int ⊕ Int×List Int)=>Sum.elim (fun(p5:Int×List Int)=>some (Sum.inl (p5.1,p5.2))) (fun(q5:Int×List Int)=>some (Sum.inl (q5.1,q5.2))) v4
 else none else some (Sum.inr s1.2)) ((0:Int),x)) fun(v1:List Int)=>some v1
theorem R.f147eq: ∀ x,zk R.C R.f147Γ R.f147sig R.f147ann Go.Proofs.Tryz.f147 x=R.f147F x:=by
 intro x
 kernel_rfl
noncomputable def R.f147con:Con:=⟨147,R.f147sig,R.f147F⟩
theorem R.f147ok:Con.Ok Go.Proofs.Tryz.prog R.C R.f147con:=
 zb (Γ:=R.f147Γ) (an:=R.f147ann) ⟨R.Cok,(fun _ h=>nomatch h),R.mixed⟩ Go.Proofs.Tryz.func147 rfl rfl (fun x y h=>(R.f147eq x).trans h) (by decide)
def R.f106sig:Sig:=⟨⟨[.own 0, .hole (.int .i64), .hole (.int .i64)], [.arr 3 (.int .i64)]⟩,⟨[], [.arr 3 (.int .i64)]⟩⟩
noncomputable def R.f106Γ:List Con:= [R.f143con,R.f144con,R.f145con,R.f146con,R.f147con]
def R.f106ann:Ann:=(.seq .leaf (.block (.seq .leaf (.cond .leaf (.seq .leaf (.cond .leaf (.seq .leaf (.cond .leaf (.seq .leaf (.cond .leaf (.seq .leaf (.cond .leaf (.seq .leaf (.cond .leaf (.seq .leaf (.cond .leaf .leaf))))))))))))))))
noncomputable def R.f106F:Int×Int×List Int→Option (List Int):=fun(x:Int×Int×List Int)=>if(x.2.1==(1:Int))=true then Option.bind (R.f143F (x.1,x.2.2)) fun(v1:List Int)=>some v1 else if(x.2.1==(2:Int))=
 true then Option.bind (R.f144F (x.1,(3:Int),(6:Int),(2:Int),x.2.2)) fun(v1:List Int)=>some v1 else if(x.2.1==(3:Int))=true then Option.bind (R.f145F ((1:Int), [(2:Int)],x.2.2)) fun(v1:List Int)=>some v1 else
 if(x.2.1==(4:Int))=true then Option.bind (R.f146F x.2.2) fun(v1:List Int)=>some v1 else if(x.2.1==(5:Int))=true then Option.bind (R.f147F x.2.2) fun(v1:List Int)=>some v1 else if(x.2.1==(6:Int))=true then
 Option.bind (R.f145F ((13:Int), [(4:Int),(5:Int),(7:Int)],x.2.2)) fun(v1:List Int)=>some v1 else if(x.2.1==(7:Int))=true then Option.bind (R.f144F (x.1,(3:Int),(0:Int),(0:Int),x.2.2)) fun(v1:List Int)=>
 some v1 else some x.2.2
theorem R.f106eq: ∀ x,zk R.C R.f106Γ R.f106sig R.f106ann Go.Proofs.Tryz.f106 x=R.f106F x:=by
 intro x
 kernel_rfl
noncomputable def R.f106con:Con:=⟨106,R.f106sig,R.f106F⟩
theorem R.f106ok:Con.Ok Go.Proofs.Tryz.prog R.C R.f106con:=
 zb (Γ:=R.f106Γ) (an:=R.f106ann) ⟨R.Cok,(List.forall_mem_cons.2 ⟨R.f143ok,(List.forall_mem_cons.2 ⟨R.f144ok,(List.forall_mem_cons.2 ⟨R.f145ok,(List.forall_mem_cons.2 ⟨R.f146ok,(List.forall_mem_cons.2 ⟨R.f147ok,(fun _ h=>nomatch h)⟩)⟩)⟩)⟩)⟩),R.mixed⟩ Go.Proofs.Tryz.func106 rfl rfl (fun x y h=>(R.f106eq x).trans h) (by decide)
def R.f75sig:Sig:=⟨⟨[.hole (.sl (.int .i64)), .hole (.int .i64)], []⟩,⟨[.hole (.sl (.int .i64))], []⟩⟩
noncomputable def R.f75Γ:List Con:= [R.f105con,R.f107con,R.f106con]
def R.f75ann:Ann:=(.seq .leaf (.seq .leaf (.seq (.seq .leaf (.block (.loop ⟨.normal, [(9, .hole (.int .i64))], [.arr 3 (.int .i64)]⟩ [⟨(.exit 0), [], [.arr 3 (.int .i64)]⟩] (.seq .leaf (.seq (.cond .leaf .leaf) (.seq (.block (.seq .leaf
 .leaf)) .leaf)))))) (.seq .leaf .leaf))))
noncomputable def R.f75F:List Int×Int→Option (List Int):=fun(x:List Int×Int)=>Option.bind (R.f105F x.1) fun(v1:List Int)=>Option.bind (iter (fun(s2:Int×List Int)=>if decide (s2.1<(7:Int))=true then
 Option.bind (R.f107F x.2) fun v3=>Option.bind (R.f106F (v3,IntKind.i64.wrap (s2.1+(1:Int)),s2.2)) fun(v4:List Int)=>some (Sum.inl (IntKind.i64.wrap (s2.1+(1:Int)),v4)) else some (Sum.inr s2.2)) ((0:Int),v1)) fun(v2:
 List Int)=>some v2
theorem R.f75eq: ∀ x,zk R.C R.f75Γ R.f75sig R.f75ann Go.Proofs.Tryz.f75 x=R.f75F x:=by
 intro x
 kernel_rfl
noncomputable def R.f75con:Con:=⟨75,R.f75sig,R.f75F⟩
theorem R.f75ok:Con.Ok Go.Proofs.Tryz.prog R.C R.f75con:=
 zb (Γ:=R.f75Γ) (an:=R.f75ann) ⟨R.Cok,(List.forall_mem_cons.2 ⟨R.f105ok,(List.forall_mem_cons.2 ⟨R.f107ok,(List.forall_mem_cons.2 ⟨R.f106ok,(fun _ h=>nomatch h)⟩)⟩)⟩),R.mixed⟩ Go.Proofs.Tryz.func75 rfl rfl (fun x y h=>(R.f75eq x).trans h) (by decide)
def R.f49sig:Sig:=⟨⟨[.hole (.sl (.int .i64))], []⟩,⟨[.own 0], [.arr 3 (.int .i64)]⟩⟩
noncomputable def R.f49Γ:List Con:= []
def R.f49ann:Ann:=(.seq .leaf (.seq (.seq .leaf (.cond (.seq .leaf .leaf) .leaf)) (.seq .leaf .leaf)))
noncomputable def R.f49F:List Int→Option (List Int):=fun(x:List Int)=>if Nat.beq (List.length x) (0:Nat)=true then agree (some []) (if zi ((0:Nat)+List.length x) (8:Nat) then some ([]++x) else none) else if zi
 ((0:Nat)+List.length x) (8:Nat) then some ([]++x) else none
theorem R.f49eq: ∀ x,zk R.C R.f49Γ R.f49sig R.f49ann Go.Proofs.Tryz.f49 x=R.f49F x:=by
 intro x
 kernel_rfl
noncomputable def R.f49con:Con:=⟨49,R.f49sig,R.f49F⟩
theorem R.f49ok:Con.Ok Go.Proofs.Tryz.prog R.C R.f49con:=
 zb (Γ:=R.f49Γ) (an:=R.f49ann) ⟨R.Cok,(fun _ h=>nomatch h),R.mixed⟩ Go.Proofs.Tryz.func49 rfl rfl (fun x y h=>(R.f49eq x).trans h) (by decide)
def R.f172sig:Sig:=⟨⟨[.hole (.int .i64)], []⟩,⟨[.hole (.int .i64)], []⟩⟩
noncomputable def R.f172Γ:List Con:= []
def R.f172ann:Ann:=(.seq .leaf (.seq (.seq (.join [⟨.normal, [(8, .hole .bool)], []⟩] .leaf) (.cond (.seq .leaf .leaf) .leaf)) (.seq .leaf .leaf)))
noncomputable def R.f172F:Int→Option (Int):=fun(x:Int)=>Option.bind (if(x==(9001:Int))=true then some true else some (x==(9002:Int))) fun v1=>if v1=true then some (IntKind.i64.wrap (IntKind.i64.wrap (x - (9001:
 Int))+(12296:Int))) else some x
theorem R.f172eq: ∀ x,zk R.C R.f172Γ R.f172sig R.f172ann Go.Proofs.Tryz.f172 x=R.f172F x:=by
 intro x
 kernel_rfl
noncomputable def R.f172con:Con:=⟨172,R.f172sig,R.f172F⟩
theorem R.f172ok:Con.Ok Go.Proofs.Tryz.prog R.C R.f172con:=
 zb (Γ:=R.f172Γ) (an:=R.f172ann) ⟨R.Cok,(fun _ h=>nomatch h),R.mixed⟩ Go.Proofs.Tryz.func172 rfl rfl (fun x y h=>(R.f172eq x).trans h) (by decide)
def R.f149sig:Sig:=⟨⟨[.hole (.int .i64), .hole (.int .i64)], []⟩,⟨[.hole .bool], []⟩⟩
noncomputable def R.f149Γ:List Con:= [R.other,R.f172con]
def R.f149ann:Ann:=(.seq .leaf (.seq .leaf (.seq .leaf (.seq .leaf .leaf))))
noncomputable def R.f149F:Int×Int→Option (Bool):=fun(x:Int×Int)=>Option.bind (R.otherF x.1) fun v1=>Option.bind (R.otherF x.2) fun v2=>if v1.2.2=true then if v2.2.2=true then Option.bind (R.f172F x.1) fun v3=>
 Option.bind (R.f172F x.2) fun v4=>some (v3==v4) else some false else some false
theorem R.f149eq: ∀ x,zk R.C R.f149Γ R.f149sig R.f149ann Go.Proofs.Tryz.f149 x=R.f149F x:=by
 intro x
 kernel_rfl
noncomputable def R.f149con:Con:=⟨149,R.f149sig,R.f149F⟩
theorem R.f149ok:Con.Ok Go.Proofs.Tryz.prog R.C R.f149con:=
 zb (Γ:=R.f149Γ) (an:=R.f149ann) ⟨R.Cok,(List.forall_mem_cons.2 ⟨R.otherok,(List.forall_mem_cons.2 ⟨R.f172ok,(fun _ h=>nomatch h)⟩)⟩),R.mixed⟩ Go.Proofs.Tryz.func149 rfl rfl (fun x y h=>(R.f149eq x).trans h) (by decide)
def R.f183sig:Sig:=⟨⟨[.hole (.int .u32)], []⟩,⟨[.hole (.int .i64)], []⟩⟩
noncomputable def R.f183Γ:List Con:= []
def R.f183ann:Ann:=(.seq .leaf (.seq (.join [⟨.normal, [(0, .hole (.int .u32)),(2, .hole (.int .i64))], []⟩] (.seq .leaf (.cond (.seq .leaf .leaf) .leaf))) (.seq (.join [⟨.normal, [(0, .hole (.int .u32)),(2, .hole (.int .i64))], []⟩]
 (.seq .leaf (.cond (.seq .leaf .leaf) .leaf))) (.seq .leaf .leaf))))
noncomputable def R.f183F:Int→Option (Int):=fun(x:Int)=>Option.bind (if decide (x≥(65536:Int))=true then some (Int.fdiv x ((2:Int) ^ Min.min (Int.toNat (16:Int)) (IntKind.bits IntKind.u32)),(16:Int)) else some (x,(0
 :Int))) fun v1=>Option.bind (if decide (v1.1≥(256:Int))=true then some (Int.fdiv v1.1 ((2:Int) ^ Min.min (Int.toNat (8:Int)) (IntKind.bits IntKind.u32)),IntKind.i64.wrap (v1.2+(8:Int))) else some (v1.1,v1.2)) fun v2=>if
 (0:Int)≤IntKind.wrap IntKind.u8 v2.1∧IntKind.wrap IntKind.u8 v2.1<(↑(ByteArray.size { data:=List.toArray (List.append (List.append [(0:UInt8),(1:UInt8),(2:UInt8),(2:UInt8),(3:UInt8),(3:UInt8),(3:UInt8),(3:
 UInt8),(4:UInt8),(4:UInt8),(4:UInt8),(4:UInt8),(4:UInt8),(4:UInt8),(4:UInt8),(4:UInt8),(5:UInt8),(5:UInt8),(5:UInt8),(5:UInt8),(5:UInt8),(5:UInt8),(5:UInt8),(5:UInt8),(5:UInt8),(5:
 UInt8),(5:UInt8),(5:UInt8),(5:UInt8),(5:UInt8),(5:UInt8),(5:UInt8),(6:UInt8),(6:UInt8),(6:UInt8),(6:UInt8),(6:UInt8),(6:UInt8),(6:UInt8),(6:UInt8),(6:UInt8),(6:UInt8),(6:UInt8),(6:
 UInt8),(6:UInt8),(6:UInt8),(6:UInt8),(6:UInt8),(6:UInt8),(6:UInt8),(6:UInt8),(6:UInt8),(6:UInt8),(6:UInt8),(6:UInt8),(6:UInt8),(6:UInt8),(6:UInt8),(6:UInt8),(6:UInt8),(6:UInt8),(6:
 UInt8),(6:UInt8),(6:UInt8)] [(7:UInt8),(7:UInt8),(7:UInt8),(7:UInt8),(7:UInt8),(7:UInt8),(7:UInt8),(7:UInt8),(7:UInt8),(7:UInt8),(7:UInt8),(7:UInt8),(7:UInt8),(7:UInt8),(7:UInt8),(7:
 UInt8),(7:UInt8),(7:UInt8),(7:UInt8),(7:UInt8),(7:UInt8),(7:UInt8),(7:UInt8),(7:UInt8),(7:UInt8),(7:UInt8),(7:UInt8),(7:UInt8),(7:UInt8),(7:UInt8),(7:UInt8),(7:UInt8),(7:UInt8),(7:
 UInt8),(7:UInt8),(7:UInt8),(7:UInt8),(7:UInt8),(7:UInt8),(7:UInt8),(7:UInt8),(7:UInt8),(7:UInt8),(7:UInt8),(7:UInt8),(7:UInt8),(7:UInt8),(7:UInt8),(7:UInt8),(7:UInt8),(7:UInt8),(7:
 UInt8),(7:UInt8),(7:UInt8),(7:UInt8),(7:UInt8),(7:UInt8),(7:UInt8),(7:UInt8),(7:UInt8),(7:UInt8),(7:UInt8),(7:UInt8),(7:UInt8)]) (List.append [(8:UInt8),(8:UInt8),(8:UInt8),(8:UInt8),(8:
 UInt8),(8:UInt8),(8:UInt8),(8:UInt8),(8:UInt8),(8:UInt8),(8:UInt8),(8:UInt8),(8:UInt8),(8:UInt8),(8:UInt8),(8:UInt8),(8:UInt8),(8:UInt8),(8:UInt8),(8:UInt8),(8:UInt8),(8:UInt8),(8:
 UInt8),(8:UInt8),(8:UInt8),(8:UInt8),(8:UInt8),(8:UInt8),(8:UInt8),(8:UInt8),(8:UInt8),(8:UInt8),(8:UInt8),(8:UInt8),(8:UInt8),(8:UInt8),(8:UInt8),(8:UInt8),(8:UInt8),(8:UInt8),(8:
 UInt8),(8:UInt8),(8:UInt8),(8:UInt8),(8:UInt8),(8:UInt8),(8:UInt8),(8:UInt8),(8:UInt8),(8:UInt8),(8:UInt8),(8:UInt8),(8:UInt8),(8:UInt8),(8:UInt8),(8:UInt8),(8:UInt8),(8:UInt8),(8:
 UInt8),(8:UInt8),(8:UInt8),(8:UInt8),(8:UInt8),(8:UInt8)] [(8:UInt8),(8:UInt8),(8:UInt8),(8:UInt8),(8:UInt8),(8:UInt8),(8:UInt8),(8:UInt8),(8:UInt8),(8:UInt8),(8:UInt8),(8:UInt8),(8:
 UInt8),(8:UInt8),(8:UInt8),(8:UInt8),(8:UInt8),(8:UInt8),(8:UInt8),(8:UInt8),(8:UInt8),(8:UInt8),(8:UInt8),(8:UInt8),(8:UInt8),(8:UInt8),(8:UInt8),(8:UInt8),(8:UInt8),(8:UInt8),(8:
 UInt8),(8:UInt8),(8:UInt8),(8:UInt8),(8:UInt8),(8:UInt8),(8:UInt8),(8:UInt8),(8:UInt8),(8:UInt8),(8:UInt8),(8:UInt8),(8:UInt8),(8:UInt8),(8:UInt8),(8:UInt8),(8:UInt8),(8:UInt8),(8:
 UInt8),(8:UInt8),(8:UInt8),(8:UInt8),(8:UInt8),(8:UInt8),(8:UInt8),(8:UInt8),(8:UInt8),(8:UInt8),(8:UInt8),(8:UInt8),(8:UInt8),(8:UInt8),(8:UInt8),(8:UInt8)])):ByteArray}):Int) then some
 (IntKind.i64.wrap (v2.2+IntKind.i64.wrap (↑(UInt8.toNat (List.getD { data:=List.toArray (List.append (List.append [(0:UInt8),(1:UInt8),(2:UInt8),(2:UInt8),(3:UInt8),(3:UInt8),(3:UInt8),(3:UInt8),(4:UInt8),(4:
 UInt8),(4:UInt8),(4:UInt8),(4:UInt8),(4:UInt8),(4:UInt8),(4:UInt8),(5:UInt8),(5:UInt8),(5:UInt8),(5:UInt8),(5:UInt8),(5:UInt8),(5:UInt8),(5:UInt8),(5:UInt8),(5:UInt8),(5:UInt8),(5:
 UInt8),(5:UInt8),(5:UInt8),(5:UInt8),(5:UInt8),(6:UInt8),(6:UInt8),(6:UInt8),(6:UInt8),(6:UInt8),(6:UInt8),(6:UInt8),(6:UInt8),(6:UInt8),(6:UInt8),(6:UInt8),(6:UInt8),(6:UInt8),(6:
 UInt8),(6:UInt8),(6:UInt8),(6:UInt8),(6:UInt8),(6:UInt8),(6:UInt8),(6:UInt8),(6:UInt8),(6:UInt8),(6:UInt8),(6:UInt8),(6:UInt8),(6:UInt8),(6:UInt8),(6:UInt8),(6:UInt8),(6:UInt8),(6:
 UInt8)] [(7:UInt8),(7:UInt8),(7:UInt8),(7:UInt8),(7:UInt8),(7:UInt8),(7:UInt8),(7:UInt8),(7:UInt8),(7:UInt8),(7:UInt8),(7:UInt8),(7:UInt8),(7:UInt8),(7:UInt8),(7:UInt8),(7:UInt8),(7:
 UInt8),(7:UInt8),(7:UInt8),(7:UInt8),(7:UInt8),(7:UInt8),(7:UInt8),(7:UInt8),(7:UInt8),(7:UInt8),(7:UInt8),(7:UInt8),(7:UInt8),(7:UInt8),(7:UInt8),(7:UInt8),(7:UInt8),(7:UInt8),(7:
 UInt8),(7:UInt8),(7:UInt8),(7:UInt8),(7:UInt8),(7:UInt8),(7:UInt8),(7:UInt8),(7:UInt8),(7:UInt8),(7:UInt8),(7:UInt8),(7:UInt8),(7:UInt8),(7:UInt8),(7:UInt8),(7:UInt8),(7:UInt8),(7:
 UInt8),(7:UInt8),(7:UInt8),(7:UInt8),(7:UInt8),(7:UInt8),(7:UInt8),(7:UInt8),(7:UInt8),(7:UInt8),(7:UInt8)]) (List.append [(8:UInt8),(8:UInt8),(8:UInt8),(8:UInt8),(8:UInt8),(8:UInt8),(8:
 UInt8),(8:UInt8),(8:UInt8),(8:UInt8),(8:UInt8),(8:UInt8),(8:UInt8),(8:UInt8),(8:UInt8),(8:UInt8),(8:UInt8),(8:UInt8),(8:UInt8),(8:UInt8),(8:UInt8),(8:UInt8),(8:UInt8),(8:UInt8),(8:
 UInt8),(8:UInt8),(8:UInt8),(8:UInt8),(8:UInt8),(8:UInt8),(8:UInt8),(8:UInt8),(8:UInt8),(8:UInt8),(8:UInt8),(8:UInt8),(8:UInt8),(8:UInt8),(8:UInt8),(8:UInt8),(8:UInt8),(8:UInt8),(8:
 UInt8),(8:UInt8),(8:UInt8),(8:UInt8),(8:UInt8),(8:UInt8),(8:UInt8),(8:UInt8),(8:UInt8),(8:UInt8),(8:UInt8),(8:UInt8),(8:UInt8),(8:UInt8),(8:UInt8),(8:UInt8),(8:UInt8),(8:UInt8),(8:
 UInt8),(8:UInt8),(8:UInt8),(8:UInt8)] [(8:UInt8),(8:UInt8),(8:UInt8),(8:UInt8),(8:UInt8),(8:UInt8),(8:UInt8),(8:UInt8),(8:UInt8),(8:UInt8),(8:UInt8),(8:UInt8),(8:UInt8),(8:UInt8),(8:
 UInt8),(8:UInt8),(8:UInt8),(8:UInt8),(8:UInt8),(8:UInt8),(8:UInt8),(8:UInt8),(8:UInt8),(8:UInt8),(8:UInt8),(8:UInt8),(8:UInt8),(8:UInt8),(8:UInt8),(8:UInt8),(8:UInt8),(8:UInt8),(8:
 UInt8),(8:UInt8),(8:UInt8),(8:UInt8),(8:UInt8),(8:UInt8),(8:UInt8),(8:UInt8),(8:UInt8),(8:UInt8),(8:UInt8),(8:UInt8),(8:UInt8),(8:UInt8),(8:UInt8),(8:UInt8),(8:UInt8),(8:UInt8),(8:
 UInt8),(8:UInt8),(8:UInt8),(8:UInt8),(8:UInt8),(8:UInt8),(8:UInt8),(8:UInt8),(8:UInt8),(8:UInt8),(8:UInt8),(8:UInt8),(8:UInt8),(8:UInt8)])):ByteArray}.data.toList (Int.toNat (IntKind.wrap IntKind.u8
 v2.1)) (0:UInt8))):Int))) else none
theorem R.f183eq: ∀ x,zk R.C R.f183Γ R.f183sig R.f183ann Go.Proofs.Tryz.f183 x=R.f183F x:=by
 intro x
 kernel_rfl
noncomputable def R.f183con:Con:=⟨183,R.f183sig,R.f183F⟩
theorem R.f183ok:Con.Ok Go.Proofs.Tryz.prog R.C R.f183con:=
 zb (Γ:=R.f183Γ) (an:=R.f183ann) ⟨R.Cok,(fun _ h=>nomatch h),R.mixed⟩ Go.Proofs.Tryz.func183 rfl rfl (fun x y h=>(R.f183eq x).trans h) (by decide)
def R.f184sig:Sig:=⟨⟨[.hole (.int .u64)], []⟩,⟨[.hole (.int .i64)], []⟩⟩
noncomputable def R.f184Γ:List Con:= []
def R.f184ann:Ann:=(.seq .leaf (.seq (.join [⟨.normal, [(0, .hole (.int .u64)),(2, .hole (.int .i64))], []⟩] (.seq .leaf (.cond (.seq .leaf .leaf) .leaf))) (.seq (.join [⟨.normal, [(0, .hole (.int .u64)),(2, .hole (.int .i64))], []⟩]
 (.seq .leaf (.cond (.seq .leaf .leaf) .leaf))) (.seq (.join [⟨.normal, [(0, .hole (.int .u64)),(2, .hole (.int .i64))], []⟩] (.seq .leaf (.cond (.seq .leaf .leaf) .leaf))) (.seq .leaf .leaf)))))
noncomputable def R.f184F:Int→Option (Int):=fun(x:Int)=>Option.bind (if decide (x≥(4294967296:Int))=true then some (Int.fdiv x ((2:Int) ^ Min.min (Int.toNat (32:Int)) (IntKind.bits IntKind.u64)),(32:Int)) else some
 (x,(0:Int))) fun v1=>Option.bind (if decide (v1.1≥(65536:Int))=true then some (Int.fdiv v1.1 ((2:Int) ^ Min.min (Int.toNat (16:Int)) (IntKind.bits IntKind.u64)),IntKind.i64.wrap (v1.2+(16:Int))) else some (v1.1,v1.2))
 fun v2=>Option.bind (if decide (v2.1≥(256:Int))=true then some (Int.fdiv v2.1 ((2:Int) ^ Min.min (Int.toNat (8:Int)) (IntKind.bits IntKind.u64)),IntKind.i64.wrap (v2.2+(8:Int))) else some (v2.1,v2.2)) fun v3=>if(0:
 Int)≤IntKind.wrap IntKind.u8 v3.1∧IntKind.wrap IntKind.u8 v3.1<(↑(ByteArray.size { data:=List.toArray (List.append (List.append [(0:UInt8),(1:UInt8),(2:UInt8),(2:UInt8),(3:UInt8),(3:UInt8),(3:UInt8),(3:UInt8),
 (4:UInt8),(4:UInt8),(4:UInt8),(4:UInt8),(4:UInt8),(4:UInt8),(4:UInt8),(4:UInt8),(5:UInt8),(5:UInt8),(5:UInt8),(5:UInt8),(5:UInt8),(5:UInt8),(5:UInt8),(5:UInt8),(5:UInt8),(5:UInt8),(5:
 UInt8),(5:UInt8),(5:UInt8),(5:UInt8),(5:UInt8),(5:UInt8),(6:UInt8),(6:UInt8),(6:UInt8),(6:UInt8),(6:UInt8),(6:UInt8),(6:UInt8),(6:UInt8),(6:UInt8),(6:UInt8),(6:UInt8),(6:UInt8),(6:
 UInt8),(6:UInt8),(6:UInt8),(6:UInt8),(6:UInt8),(6:UInt8),(6:UInt8),(6:UInt8),(6:UInt8),(6:UInt8),(6:UInt8),(6:UInt8),(6:UInt8),(6:UInt8),(6:UInt8),(6:UInt8),(6:UInt8),(6:UInt8),(6:
 UInt8),(6:UInt8)] [(7:UInt8),(7:UInt8),(7:UInt8),(7:UInt8),(7:UInt8),(7:UInt8),(7:UInt8),(7:UInt8),(7:UInt8),(7:UInt8),(7:UInt8),(7:UInt8),(7:UInt8),(7:UInt8),(7:UInt8),(7:UInt8),(7:
 UInt8),(7:UInt8),(7:UInt8),(7:UInt8),(7:UInt8),(7:UInt8),(7:UInt8),(7:UInt8),(7:UInt8),(7:UInt8),(7:UInt8),(7:UInt8),(7:UInt8),(7:UInt8),(7:UInt8),(7:UInt8),(7:UInt8),(7:UInt8),(7:
 UInt8),(7:UInt8),(7:UInt8),(7:UInt8),(7:UInt8),(7:UInt8),(7:UInt8),(7:UInt8),(7:UInt8),(7:UInt8),(7:UInt8),(7:UInt8),(7:UInt8),(7:UInt8),(7:UInt8),(7:UInt8),(7:UInt8),(7:UInt8),(7:
 UInt8),(7:UInt8),(7:UInt8),(7:UInt8),(7:UInt8),(7:UInt8),(7:UInt8),(7:UInt8),(7:UInt8),(7:UInt8),(7:UInt8),(7:UInt8)]) (List.append [(8:UInt8),(8:UInt8),(8:UInt8),(8:UInt8),(8:UInt8),(8:
 UInt8),(8:UInt8),(8:UInt8),(8:UInt8),(8:UInt8),(8:UInt8),(8:UInt8),(8:UInt8),(8:UInt8),(8:UInt8),(8:UInt8),(8:UInt8),(8:UInt8),(8:UInt8),(8:UInt8),(8:UInt8),(8:UInt8),(8:UInt8),(8:
 UInt8),(8:UInt8),(8:UInt8),(8:UInt8),(8:UInt8),(8:UInt8),(8:UInt8),(8:UInt8),(8:UInt8),(8:UInt8),(8:UInt8),(8:UInt8),(8:UInt8),(8:UInt8),(8:UInt8),(8:UInt8),(8:UInt8),(8:UInt8),(8:
 UInt8),(8:UInt8),(8:UInt8),(8:UInt8),(8:UInt8),(8:UInt8),(8:UInt8),(8:UInt8),(8:UInt8),(8:UInt8),(8:UInt8),(8:UInt8),(8:UInt8),(8:UInt8),(8:UInt8),(8:UInt8),(8:UInt8),(8:UInt8),(8:
 UInt8),(8:UInt8),(8:UInt8),(8:UInt8),(8:UInt8)] [(8:UInt8),(8:UInt8),(8:UInt8),(8:UInt8),(8:UInt8),(8:UInt8),(8:UInt8),(8:UInt8),(8:UInt8),(8:UInt8),(8:UInt8),(8:UInt8),(8:UInt8),(8:
 UInt8),(8:UInt8),(8:UInt8),(8:UInt8),(8:UInt8),(8:UInt8),(8:UInt8),(8:UInt8),(8:UInt8),(8:UInt8),(8:UInt8),(8:UInt8),(8:UInt8),(8:UInt8),(8:UInt8),(8:UInt8),(8:UInt8),(8:UInt8),(8:
 UInt8),(8:UInt8),(8:UInt8),(8:UInt8),(8:UInt8),(8:UInt8),(8:UInt8),(8:UInt8),(8:UInt8),(8:UInt8),(8:UInt8),(8:UInt8),(8:UInt8),(8:UInt8),(8:UInt8),(8:UInt8),(8:UInt8),(8:UInt8),(8:
 UInt8),(8:UInt8),(8:UInt8),(8:UInt8),(8:UInt8),(8:UInt8),(8:UInt8),(8:UInt8),(8:UInt8),(8:UInt8),(8:UInt8),(8:UInt8),(8:UInt8),(8:UInt8),(8:UInt8)])):ByteArray}):Int) then some
 (IntKind.i64.wrap (v3.2+IntKind.i64.wrap (↑(UInt8.toNat (List.getD { data:=List.toArray (List.append (List.append [(0:UInt8),(1:UInt8),(2:UInt8),(2:UInt8),(3:UInt8),(3:UInt8),(3:UInt8),(3:UInt8),(4:UInt8),(4:
 UInt8),(4:UInt8),(4:UInt8),(4:UInt8),(4:UInt8),(4:UInt8),(4:UInt8),(5:UInt8),(5:UInt8),(5:UInt8),(5:UInt8),(5:UInt8),(5:UInt8),(5:UInt8),(5:UInt8),(5:UInt8),(5:UInt8),(5:UInt8),(5:
 UInt8),(5:UInt8),(5:UInt8),(5:UInt8),(5:UInt8),(6:UInt8),(6:UInt8),(6:UInt8),(6:UInt8),(6:UInt8),(6:UInt8),(6:UInt8),(6:UInt8),(6:UInt8),(6:UInt8),(6:UInt8),(6:UInt8),(6:UInt8),(6:
 UInt8),(6:UInt8),(6:UInt8),(6:UInt8),(6:UInt8),(6:UInt8),(6:UInt8),(6:UInt8),(6:UInt8),(6:UInt8),(6:UInt8),(6:UInt8),(6:UInt8),(6:UInt8),(6:UInt8),(6:UInt8),(6:UInt8),(6:UInt8),(6:
 UInt8)] [(7:UInt8),(7:UInt8),(7:UInt8),(7:UInt8),(7:UInt8),(7:UInt8),(7:UInt8),(7:UInt8),(7:UInt8),(7:UInt8),(7:UInt8),(7:UInt8),(7:UInt8),(7:UInt8),(7:UInt8),(7:UInt8),(7:UInt8),(7:
 UInt8),(7:UInt8),(7:UInt8),(7:UInt8),(7:UInt8),(7:UInt8),(7:UInt8),(7:UInt8),(7:UInt8),(7:UInt8),(7:UInt8),(7:UInt8),(7:UInt8),(7:UInt8),(7:UInt8),(7:UInt8),(7:UInt8),(7:UInt8),(7:
 UInt8),(7:UInt8),(7:UInt8),(7:UInt8),(7:UInt8),(7:UInt8),(7:UInt8),(7:UInt8),(7:UInt8),(7:UInt8),(7:UInt8),(7:UInt8),(7:UInt8),(7:UInt8),(7:UInt8),(7:UInt8),(7:UInt8),(7:UInt8),(7:
 UInt8),(7:UInt8),(7:UInt8),(7:UInt8),(7:UInt8),(7:UInt8),(7:UInt8),(7:UInt8),(7:UInt8),(7:UInt8),(7:UInt8)]) (List.append [(8:UInt8),(8:UInt8),(8:UInt8),(8:UInt8),(8:UInt8),(8:UInt8),(8:
 UInt8),(8:UInt8),(8:UInt8),(8:UInt8),(8:UInt8),(8:UInt8),(8:UInt8),(8:UInt8),(8:UInt8),(8:UInt8),(8:UInt8),(8:UInt8),(8:UInt8),(8:UInt8),(8:UInt8),(8:UInt8),(8:UInt8),(8:UInt8),(8:
 UInt8),(8:UInt8),(8:UInt8),(8:UInt8),(8:UInt8),(8:UInt8),(8:UInt8),(8:UInt8),(8:UInt8),(8:UInt8),(8:UInt8),(8:UInt8),(8:UInt8),(8:UInt8),(8:UInt8),(8:UInt8),(8:UInt8),(8:UInt8),(8:
 UInt8),(8:UInt8),(8:UInt8),(8:UInt8),(8:UInt8),(8:UInt8),(8:UInt8),(8:UInt8),(8:UInt8),(8:UInt8),(8:UInt8),(8:UInt8),(8:UInt8),(8:UInt8),(8:UInt8),(8:UInt8),(8:UInt8),(8:UInt8),(8:
 UInt8),(8:UInt8),(8:UInt8),(8:UInt8)] [(8:UInt8),(8:UInt8),(8:UInt8),(8:UInt8),(8:UInt8),(8:UInt8),(8:UInt8),(8:UInt8),(8:UInt8),(8:UInt8),(8:UInt8),(8:UInt8),(8:UInt8),(8:UInt8),(8:
 UInt8),(8:UInt8),(8:UInt8),(8:UInt8),(8:UInt8),(8:UInt8),(8:UInt8),(8:UInt8),(8:UInt8),(8:UInt8),(8:UInt8),(8:UInt8),(8:UInt8),(8:UInt8),(8:UInt8),(8:UInt8),(8:UInt8),(8:UInt8),(8:
 UInt8),(8:UInt8),(8:UInt8),(8:UInt8),(8:UInt8),(8:UInt8),(8:UInt8),(8:UInt8),(8:UInt8),(8:UInt8),(8:UInt8),(8:UInt8),(8:UInt8),(8:UInt8),(8:UInt8),(8:UInt8),(8:UInt8),(8:UInt8),(8:
 UInt8),(8:UInt8),(8:UInt8),(8:UInt8),(8:UInt8),(8:UInt8),(8:UInt8),(8:UInt8),(8:UInt8),(8:UInt8),(8:UInt8),(8:UInt8),(8:UInt8),(8:UInt8)])):ByteArray}.data.toList (Int.toNat (IntKind.wrap IntKind.u8
 v3.1)) (0:UInt8))):Int))) else none
theorem R.f184eq: ∀ x,zk R.C R.f184Γ R.f184sig R.f184ann Go.Proofs.Tryz.f184 x=R.f184F x:=by
 intro x
 kernel_rfl
noncomputable def R.f184con:Con:=⟨184,R.f184sig,R.f184F⟩
theorem R.f184ok:Con.Ok Go.Proofs.Tryz.prog R.C R.f184con:=
 zb (Γ:=R.f184Γ) (an:=R.f184ann) ⟨R.Cok,(fun _ h=>nomatch h),R.mixed⟩ Go.Proofs.Tryz.func184 rfl rfl (fun x y h=>(R.f184eq x).trans h) (by decide)
def R.f174sig:Sig:=⟨⟨[.hole (.int .u64)], []⟩,⟨[.hole (.int .i64)], []⟩⟩
noncomputable def R.f174Γ:List Con:= [R.f183con,R.f184con]
def R.f174ann:Ann:=(.seq .leaf (.seq (.cond .leaf .leaf) (.seq .leaf .leaf)))
noncomputable def R.f174F:Int→Option (Int):=fun(x:Int)=>Option.bind (R.f184F x) fun v1=>some v1
theorem R.f174eq: ∀ x,zk R.C R.f174Γ R.f174sig R.f174ann Go.Proofs.Tryz.f174 x=R.f174F x:=by
 intro x
 kernel_rfl
noncomputable def R.f174con:Con:=⟨174,R.f174sig,R.f174F⟩
theorem R.f174ok:Con.Ok Go.Proofs.Tryz.prog R.C R.f174con:=
 zb (Γ:=R.f174Γ) (an:=R.f174ann) ⟨R.Cok,(List.forall_mem_cons.2 ⟨R.f183ok,(List.forall_mem_cons.2 ⟨R.f184ok,(fun _ h=>nomatch h)⟩)⟩),R.mixed⟩ Go.Proofs.Tryz.func174 rfl rfl (fun x y h=>(R.f174eq x).trans h) (by decide)
def R.f151sig:Sig:=⟨⟨[.hole (.arr 2 (.int .i64)), .hole (.arr 2 (.int .i64))], []⟩,⟨[.hole (.int .i64)], []⟩⟩
noncomputable def R.f151Γ:List Con:= []
def R.f151ann:Ann:=(.seq .leaf (.seq .leaf .leaf))
noncomputable def R.f151F:List Int×List Int→Option (Int):=fun(x:List Int×List Int)=>if(0:Int)≤(0:Int)∧(0:Int)<(↑(2:Nat):Int) then if(0:Int)≤(0:Int)∧(0:Int)<(↑(2:Nat):Int) then some
 (IntKind.i64.wrap (List.getD x.1 (nat_lit 0) (0:Int) - List.getD x.2 (nat_lit 0) (0:Int))) else none else none
theorem R.f151eq: ∀ x,zk R.C R.f151Γ R.f151sig R.f151ann Go.Proofs.Tryz.f151 x=R.f151F x:=by
 intro x
 kernel_rfl
noncomputable def R.f151con:Con:=⟨151,R.f151sig,R.f151F⟩
theorem R.f151ok:Con.Ok Go.Proofs.Tryz.prog R.C R.f151con:=
 zb (Γ:=R.f151Γ) (an:=R.f151ann) ⟨R.Cok,(fun _ h=>nomatch h),R.mixed⟩ Go.Proofs.Tryz.func151 rfl rfl (fun x y h=>(R.f151eq x).trans h) (by decide)
def R.f175sig:Sig:=⟨⟨[.own 0, .hole (.int .i64), .hole (.int .i64), .fnc 151 0], [.arr 118 (.arr 2 (.int .i64))]⟩,⟨[], [.arr 118 (.arr 2 (.int .i64))]⟩⟩
noncomputable def R.f175Γ:List Con:= [R.f151con]
def R.f175ann:Ann:=(.seq .leaf (.block (.loop ⟨.normal, [(8, .hole (.int .i64))], [.arr 118 (.arr 2 (.int .i64))]⟩ [⟨(.exit 0), [], [.arr 118 (.arr 2 (.int .i64))]⟩] (.seq (.seq .leaf (.cond .leaf .leaf)) (.seq (.block (.seq .leaf
 (.block (.loop ⟨.normal, [(9, .hole (.int .i64))], [.arr 118 (.arr 2 (.int .i64))]⟩ [⟨(.exit 2), [], [.arr 118 (.arr 2 (.int .i64))]⟩] (.seq (.seq (.join [⟨.normal, [(34, .hole .bool)], [.arr 118 (.arr 2 (.int .i64))]⟩] .leaf) (.cond .leaf
 .leaf)) (.seq (.block (.eff 1 [] [0,0,0,0,8,0,0,64,224,480,0,0,3072,7168,16355,32739,65535,131071])) .leaf)))))) .leaf)))))
noncomputable def R.f175F:Int×Int×List (List Int)→Option (List (List Int)):=fun(x:Int×Int×List (List Int))=>Option.bind (iter (fun(s1:Int×List (List Int))=>if decide (s1.1<x.2.1)=true then Option.bind (iter
 (fun(s2:Int×List (List Int))=>Option.bind (if decide (s2.1 > x.1)=true then if(0:Int)≤s2.1∧s2.1<(s2.2.length:Int) then if(0:Int)≤IntKind.i64.wrap (s2.1 - (1:Int))∧IntKind.i64.wrap (s2.1 - (1:Int))<
 (s2.2.length:Int) then Option.bind (R.f151F (List.getD s2.2 (Int.toNat s2.1) (List.replicate (2:Nat) (0:Int)),List.getD s2.2 (Int.toNat (IntKind.i64.wrap (s2.1 - (1:Int)))) (List.replicate (2:Nat) (0:Int)))) fun v3=>some
 (decide (v3<(0:Int)),s2.2) else none else none else some (false,s2.2)) fun(v3:Bool×List (List Int))=>if v3.1=true then if(0:Int)≤IntKind.i64.wrap (s2.1 - (1:Int))∧IntKind.i64.wrap (s2.1 - (1:Int))<(v3.2.length:
 Int) then if(0:Int)≤s2.1∧s2.1<(v3.2.length:Int) then if(0:Int)≤s2.1∧s2.1<(v3.2.length:Int) then if(0:Int)≤IntKind.i64.wrap (s2.1 - (1:Int))∧IntKind.i64.wrap (s2.1 - (1:Int))<(↑(List.length (List.set v3.2
 (Int.toNat s2.1) (List.getD v3.2 (Int.toNat (IntKind.i64.wrap (s2.1 - (1:Int)))) (List.replicate (2:Nat) (0:Int))))):Int) then some (Sum.inl (IntKind.i64.wrap (s2.1 - (1:Int)),List.set (List.set v3.2 (Int.toNat s2.1) (List.getD
 v3.2 (Int.toNat (IntKind.i64.wrap (s2.1 - (1:Int)))) (List.replicate (2:Nat) (0:Int)))) (Int.toNat (IntKind.i64.wrap (s2.1 - (1:Int)))) (List.getD v3.2 (Int.toNat s2.1) (List.replicate (2:Nat) (0:Int))))) else none else none
 else none else none else some (Sum.inr v3.2)) (s1.1,s1.2)) fun(v2:List (List Int))=>some (Sum.inl (IntKind.i64.wrap (s1.1+(1:Int)),v2)) else some (Sum.inr s1.2)) (IntKind.i64.wrap (x.1+(1:Int)),x.2.2)) fun(v1:List (List
 Int))=>some v1
theorem R.f175eq: ∀ x,zk R.C R.f175Γ R.f175sig R.f175ann Go.Proofs.Tryz.f175 x=R.f175F x:=by
 intro x
 kernel_rfl
noncomputable def R.f175con:Con:=⟨175,R.f175sig,R.f175F⟩
theorem R.f175ok:Con.Ok Go.Proofs.Tryz.prog R.C R.f175con:=
 zb (Γ:=R.f175Γ) (an:=R.f175ann) ⟨R.Cok,(List.forall_mem_cons.2 ⟨R.f151ok,(fun _ h=>nomatch h)⟩),R.mixed⟩ Go.Proofs.Tryz.func175 rfl rfl (fun x y h=>(R.f175eq x).trans h) (by decide)
def R.f185sig:Sig:=⟨⟨[.own 0, .hole (.int .i64), .hole (.int .i64), .hole (.int .i64), .fnc 151 0], [.arr 118 (.arr 2 (.int .i64))]⟩,⟨[], [.arr 118 (.arr 2 (.int .i64))]⟩⟩
noncomputable def R.f185Γ:List Con:= [R.f151con]
def R.f185ann:Ann:=(.seq .leaf (.block (.loop ⟨.normal, [(10, .hole (.int .i64))], [.arr 118 (.arr 2 (.int .i64))]⟩ [⟨(.exit 0), [], [.arr 118 (.arr 2 (.int .i64))]⟩,⟨.ret, [], [.arr 118 (.arr 2 (.int .i64))]⟩] (.block (.seq .leaf
 (.seq (.seq .leaf (.cond .leaf .leaf)) (.seq (.join [⟨.normal, [(11, .hole (.int .i64))], [.arr 118 (.arr 2 (.int .i64))]⟩] (.seq (.join [⟨.normal, [(40, .hole .bool)], [.arr 118 (.arr 2 (.int .i64))]⟩] .leaf) (.cond .leaf .leaf))) (.seq
 (.seq .leaf (.cond .leaf .leaf)) (.seq (.eff 1 [] [0,0,0,6,0,0,0,96,0,0,0,1536,3840,7936,0,0,0,98304,245760,507904,1048335,2096911,4194303,8388607]) .leaf)))))))))
noncomputable def R.f185F:Int×Int×Int×List (List Int)→Option (List (List Int)):=fun(x:Int×Int×Int×List (List Int))=>Option.bind (iter (fun(s1:Int×List (List Int))=>if decide (IntKind.i64.wrap (IntKind.i64.wrap
 ((2:Int)*s1.1)+(1:Int))≥x.2.1)=true then some (Sum.inr (Sum.inl s1.2)) else Option.bind (Option.bind (if decide (IntKind.i64.wrap (IntKind.i64.wrap (IntKind.i64.wrap ((2:Int)*s1.1)+(1:Int))+(1:Int))<x.2.1)=true
 then if(0:Int)≤IntKind.i64.wrap (x.2.2.1+IntKind.i64.wrap (IntKind.i64.wrap ((2:Int)*s1.1)+(1:Int)))∧IntKind.i64.wrap (x.2.2.1+IntKind.i64.wrap (IntKind.i64.wrap ((2:Int)*s1.1)+(1:Int)))<(s1.2.length:Int) then
 if(0:Int)≤IntKind.i64.wrap (IntKind.i64.wrap (x.2.2.1+IntKind.i64.wrap (IntKind.i64.wrap ((2:Int)*s1.1)+(1:Int)))+(1:Int))∧IntKind.i64.wrap (IntKind.i64.wrap (x.2.2.1+IntKind.i64.wrap (IntKind.i64.wrap ((2:Int)*
 s1.1)+(1:Int)))+(1:Int))<(s1.2.length:Int) then Option.bind (R.f151F (List.getD s1.2 (Int.toNat (IntKind.i64.wrap (x.2.2.1+IntKind.i64.wrap (IntKind.i64.wrap ((2:Int)*s1.1)+(1:Int))))) (List.replicate (2:Nat) (0:
 Int)),List.getD s1.2 (Int.toNat (IntKind.i64.wrap (IntKind.i64.wrap (x.2.2.1+IntKind.i64.wrap (IntKind.i64.wrap ((2:Int)*s1.1)+(1:Int)))+(1:Int)))) (List.replicate (2:Nat) (0:Int)))) fun v2=>some (decide (v2<(0:
 Int)),s1.2) else none else none else some (false,s1.2)) fun(v2:Bool×List (List Int))=>if v2.1=true then some (IntKind.i64.wrap (IntKind.i64.wrap (IntKind.i64.wrap ((2:Int)*s1.1)+(1:Int))+(1:Int)),v2.2) else some
 (IntKind.i64.wrap (IntKind.i64.wrap ((2:Int)*s1.1)+(1:Int)),v2.2)) fun(v2:Int×List (List Int))=>if(0:Int)≤IntKind.i64.wrap (x.2.2.1+s1.1)∧IntKind.i64.wrap (x.2.2.1+s1.1)<(v2.2.length:Int) then if(0:Int)≤
 IntKind.i64.wrap (x.2.2.1+v2.1)∧IntKind.i64.wrap (x.2.2.1+v2.1)<(v2.2.length:Int) then Option.bind (R.f151F (List.getD v2.2 (Int.toNat (IntKind.i64.wrap (x.2.2.1+s1.1))) (List.replicate (2:Nat) (0:Int)),List.getD v2.2
 (Int.toNat (IntKind.i64.wrap (x.2.2.1+v2.1))) (List.replicate (2:Nat) (0:Int)))) fun v3=>if(!decide (v3<(0:Int)))=true then some (Sum.inr (Sum.inr v2.2)) else if(0:Int)≤IntKind.i64.wrap (x.2.2.1+v2.1)∧
 IntKind.i64.wrap (x.2.2.1+v2.1)<(v2.2.length:Int) then if(0:Int)≤IntKind.i64.wrap (x.2.2.1+s1.1)∧IntKind.i64.wrap (x.2.2.1+s1.1)<(v2.2.length:Int) then if(0:Int)≤IntKind.i64.wrap (x.2.2.1+s1.1)∧IntKind.i64.wrap
 (x.2.2.1+s1.1)<(v2.2.length:Int) then if(0:Int)≤IntKind.i64.wrap (x.2.2.1+v2.1)∧IntKind.i64.wrap (x.2.2.1+v2.1)<(↑(List.length (List.set v2.2 (Int.toNat (IntKind.i64.wrap (x.2.2.1+s1.1))) (List.getD v2.2 (Int.toNat
 (IntKind.i64.wrap (x.2.2.1+v2.1))) (List.replicate (2:Nat) (0:Int))))):Int) then some (Sum.inl (v2.1,List.set (List.set v2.2 (Int.toNat (IntKind.i64.wrap (x.2.2.1+s1.1))) (List.getD v2.2 (Int.toNat (IntKind.i64.wrap (x.2.2.1+
 v2.1))) (List.replicate (2:Nat) (0:Int)))) (Int.toNat (IntKind.i64.wrap (x.2.2.1+v2.1))) (List.getD v2.2 (Int.toNat (IntKind.i64.wrap (x.2.2.1+s1.1))) (List.replicate (2:Nat) (0:Int))))) else none else none else none else none
 else none else none) (x.1,x.2.2.2)) fun(v1:List (List Int) ⊕ List (List Int))=>Sum.elim (fun(p2:List (List Int))=>some p2) (fun(q2:List (List Int))=>some q2) v1
theorem R.f185eq: ∀ x,zk R.C R.f185Γ R.f185sig R.f185ann Go.Proofs.Tryz.f185 x=R.f185F x:=by
 intro x
 kernel_rfl
noncomputable def R.f185con:Con:=⟨185,R.f185sig,R.f185F⟩
theorem R.f185ok:Con.Ok Go.Proofs.Tryz.prog R.C R.f185con:=
 zb (Γ:=R.f185Γ) (an:=R.f185ann) ⟨R.Cok,(List.forall_mem_cons.2 ⟨R.f151ok,(fun _ h=>nomatch h)⟩),R.mixed⟩ Go.Proofs.Tryz.func185 rfl rfl (fun x y h=>(R.f185eq x).trans h) (by decide)
def R.f176sig:Sig:=⟨⟨[.own 0, .hole (.int .i64), .hole (.int .i64), .fnc 151 0], [.arr 118 (.arr 2 (.int .i64))]⟩,⟨[], [.arr 118 (.arr 2 (.int .i64))]⟩⟩
noncomputable def R.f176Γ:List Con:= [R.f185con,R.f151con]
def R.f176ann:Ann:=(.seq .leaf (.seq .leaf (.seq .leaf (.seq (.seq .leaf (.block (.loop ⟨.normal, [(11, .hole (.int .i64))], [.arr 118 (.arr 2 (.int .i64))]⟩ [⟨(.exit 0), [], [.arr 118 (.arr 2 (.int .i64))]⟩] (.seq (.seq .leaf (.cond
 .leaf .leaf)) (.seq (.block .leaf) .leaf))))) (.seq .leaf (.block (.loop ⟨.normal, [(12, .hole (.int .i64))], [.arr 118 (.arr 2 (.int .i64))]⟩ [⟨(.exit 2), [], [.arr 118 (.arr 2 (.int .i64))]⟩] (.seq (.seq .leaf (.cond .leaf .leaf)) (.seq
 (.block (.seq (.eff 1 [] [0,0,0,0,0,24,0,0,0,384,960,1984,0,0,12288,28672,65475,131011,262143,524287]) .leaf)) .leaf)))))))))
noncomputable def R.f176F:Int×Int×List (List Int)→Option (List (List Int)):=fun(x:Int×Int×List (List Int))=>Option.bind (iter (fun(s1:Int×List (List Int))=>if decide (s1.1≥(0:Int))=true then Option.bind
 (R.f185F (s1.1,IntKind.i64.wrap (x.2.1 - x.1),x.1,s1.2)) fun(v2:List (List Int))=>some (Sum.inl (IntKind.i64.wrap (s1.1 - (1:Int)),v2)) else some (Sum.inr s1.2)) (IntKind.i64.wrap (Int.tdiv (IntKind.i64.wrap (IntKind.i64.wrap
 (x.2.1 - x.1) - (1:Int))) (2:Int)),x.2.2)) fun(v1:List (List Int))=>Option.bind (iter (fun(s2:Int×List (List Int))=>if decide (s2.1≥(0:Int))=true then if(0:Int)≤IntKind.i64.wrap (x.1+s2.1)∧IntKind.i64.wrap
 (x.1+s2.1)<(s2.2.length:Int) then if(0:Int)≤x.1∧x.1<(s2.2.length:Int) then if(0:Int)≤x.1∧x.1<(s2.2.length:Int) then if(0:Int)≤IntKind.i64.wrap (x.1+s2.1)∧IntKind.i64.wrap (x.1+s2.1)<(↑(List.length
 (List.set s2.2 (Int.toNat x.1) (List.getD s2.2 (Int.toNat (IntKind.i64.wrap (x.1+s2.1))) (List.replicate (2:Nat) (0:Int))))):Int) then Option.bind (R.f185F ((0:Int),s2.1,x.1,List.set (List.set s2.2 (Int.toNat x.1) (List.getD
 s2.2 (Int.toNat (IntKind.i64.wrap (x.1+s2.1))) (List.replicate (2:Nat) (0:Int)))) (Int.toNat (IntKind.i64.wrap (x.1+s2.1))) (List.getD s2.2 (Int.toNat x.1) (List.replicate (2:Nat) (0:Int))))) fun(v3:List (List Int))=>some
 (Sum.inl (IntKind.i64.wrap (s2.1 - (1:Int)),v3)) else none else none else none else none else some (Sum.inr s2.2)) (IntKind.i64.wrap (IntKind.i64.wrap (x.2.1 - x.1) - (1:Int)),v1)) fun(v2:List (List Int))=>some v2
theorem R.f176eq: ∀ x,zk R.C R.f176Γ R.f176sig R.f176ann Go.Proofs.Tryz.f176 x=R.f176F x:=by
 intro x
 kernel_rfl
noncomputable def R.f176con:Con:=⟨176,R.f176sig,R.f176F⟩
theorem R.f176ok:Con.Ok Go.Proofs.Tryz.prog R.C R.f176con:=
 zb (Γ:=R.f176Γ) (an:=R.f176ann) ⟨R.Cok,(List.forall_mem_cons.2 ⟨R.f185ok,(List.forall_mem_cons.2 ⟨R.f151ok,(fun _ h=>nomatch h)⟩)⟩),R.mixed⟩ Go.Proofs.Tryz.func176 rfl rfl (fun x y h=>(R.f176eq x).trans h) (by decide)
def R.f186sig:Sig:=⟨⟨[.hole (.int .i64)], []⟩,⟨[.hole (.int .u64)], []⟩⟩
noncomputable def R.f186Γ:List Con:= [R.f174con]
def R.f186ann:Ann:=(.seq .leaf (.seq .leaf .leaf))
noncomputable def R.f186F:Int→Option (Int):=fun(x:Int)=>Option.bind (R.f174F (IntKind.wrap IntKind.u64 x)) fun v1=>if v1<(0:Int) then none else some (IntKind.wrap IntKind.u64 ((1:Int)*(2:Int) ^ Min.min (Int.toNat v1)
 (IntKind.bits IntKind.u64)))
theorem R.f186eq: ∀ x,zk R.C R.f186Γ R.f186sig R.f186ann Go.Proofs.Tryz.f186 x=R.f186F x:=by
 intro x
 kernel_rfl
noncomputable def R.f186con:Con:=⟨186,R.f186sig,R.f186F⟩
theorem R.f186ok:Con.Ok Go.Proofs.Tryz.prog R.C R.f186con:=
 zb (Γ:=R.f186Γ) (an:=R.f186ann) ⟨R.Cok,(List.forall_mem_cons.2 ⟨R.f174ok,(fun _ h=>nomatch h)⟩),R.mixed⟩ Go.Proofs.Tryz.func186 rfl rfl (fun x y h=>(R.f186eq x).trans h) (by decide)
def R.f187sig:Sig:=⟨⟨[.ptr 0 0], [.cells [.hole (.int .u64)]]⟩,⟨[.hole (.int .u64)], [.cells [.hole (.int .u64)]]⟩⟩
noncomputable def R.f187Γ:List Con:= []
def R.f187ann:Ann:=(.seq .leaf (.seq (.tail 9) (.seq (.tail 9) (.seq (.tail 9) (.seq .leaf .leaf)))))
noncomputable def R.f187F:Int→Option (Int×Int):=fun(x:Int)=>some (IntKind.wrap IntKind.u64 (↑(BitVec.toNat (BitVec.ofInt (IntKind.bits IntKind.u64) (IntKind.wrap IntKind.u64 (↑(BitVec.toNat (BitVec.ofInt (IntKind.bits
 IntKind.u64) (IntKind.wrap IntKind.u64 (↑(BitVec.toNat (BitVec.ofInt (IntKind.bits IntKind.u64) x ^^^ BitVec.ofInt (IntKind.bits IntKind.u64) (IntKind.wrap IntKind.u64 (x*(2:Int) ^ Min.min (Int.toNat (13:Int)) (IntKind.bits
 IntKind.u64))))):Int)) ^^^ BitVec.ofInt (IntKind.bits IntKind.u64) (Int.fdiv (IntKind.wrap IntKind.u64 (↑(BitVec.toNat (BitVec.ofInt (IntKind.bits IntKind.u64) x ^^^ BitVec.ofInt (IntKind.bits IntKind.u64) (IntKind.wrap IntKind.u64 (x*
 (2:Int) ^ Min.min (Int.toNat (13:Int)) (IntKind.bits IntKind.u64))))):Int)) ((2:Int) ^ Min.min (Int.toNat (7:Int)) (IntKind.bits IntKind.u64))))):Int)) ^^^ BitVec.ofInt (IntKind.bits IntKind.u64) (IntKind.wrap IntKind.u64
 (IntKind.wrap IntKind.u64 (↑(BitVec.toNat (BitVec.ofInt (IntKind.bits IntKind.u64) (IntKind.wrap IntKind.u64 (↑(BitVec.toNat (BitVec.ofInt (IntKind.bits IntKind.u64) x ^^^ BitVec.ofInt (IntKind.bits IntKind.u64) (IntKind.wrap IntKind.u64 (x
 *(2:Int) ^ Min.min (Int.toNat (13:Int)) (IntKind.bits IntKind.u64))))):Int)) ^^^ BitVec.ofInt (IntKind.bits IntKind.u64) (Int.fdiv (IntKind.wrap IntKind.u64 (↑(BitVec.toNat (BitVec.ofInt (IntKind.bits IntKind.u64) x ^^^ BitVec.ofInt
 (IntKind.bits IntKind.u64) (IntKind.wrap IntKind.u64 (x*(2:Int) ^ Min.min (Int.toNat (13:Int)) (IntKind.bits IntKind.u64))))):Int)) ((2:Int) ^ Min.min (Int.toNat (7:Int)) (IntKind.bits IntKind.u64))))):Int)*(2:Int) ^
 Min.min (Int.toNat (17:Int)) (IntKind.bits IntKind.u64))))):Int),IntKind.wrap IntKind.u64 (↑(BitVec.toNat (BitVec.ofInt (IntKind.bits IntKind.u64) (IntKind.wrap IntKind.u64 (↑(BitVec.toNat (BitVec.ofInt (IntKind.bits IntKind.u64)
 (IntKind.wrap IntKind.u64 (↑(BitVec.toNat (BitVec.ofInt (IntKind.bits IntKind.u64) x ^^^ BitVec.ofInt (IntKind.bits IntKind.u64) (IntKind.wrap IntKind.u64 (x*(2:Int) ^ Min.min (Int.toNat (13:Int)) (IntKind.bits IntKind.u64))))):
 Int)) ^^^ BitVec.ofInt (IntKind.bits IntKind.u64) (Int.fdiv (IntKind.wrap IntKind.u64 (↑(BitVec.toNat (BitVec.ofInt (IntKind.bits IntKind.u64) x ^^^ BitVec.ofInt (IntKind.bits IntKind.u64) (IntKind.wrap IntKind.u64 (x*(2:Int) ^ Min.min
 (Int.toNat (13:Int)) (IntKind.bits IntKind.u64))))):Int)) ((2:Int) ^ Min.min (Int.toNat (7:Int)) (IntKind.bits IntKind.u64))))):Int)) ^^^ BitVec.ofInt (IntKind.bits IntKind.u64) (IntKind.wrap IntKind.u64 (IntKind.wrap IntKind.u64
 (↑(BitVec.toNat (BitVec.ofInt (IntKind.bits IntKind.u64) (IntKind.wrap IntKind.u64 (↑(BitVec.toNat (BitVec.ofInt (IntKind.bits IntKind.u64) x ^^^ BitVec.ofInt (IntKind.bits IntKind.u64) (IntKind.wrap IntKind.u64 (x*(2:Int) ^ Min.min
 (Int.toNat (13:Int)) (IntKind.bits IntKind.u64))))):Int)) ^^^ BitVec.ofInt (IntKind.bits IntKind.u64) (Int.fdiv (IntKind.wrap IntKind.u64 (↑(BitVec.toNat (BitVec.ofInt (IntKind.bits IntKind.u64) x ^^^ BitVec.ofInt (IntKind.bits
 IntKind.u64) (IntKind.wrap IntKind.u64 (x*(2:Int) ^ Min.min (Int.toNat (13:Int)) (IntKind.bits IntKind.u64))))):Int)) ((2:Int) ^ Min.min (Int.toNat (7:Int)) (IntKind.bits IntKind.u64))))):Int)*(2:Int) ^ Min.min (Int.toNat
 (17:Int)) (IntKind.bits IntKind.u64))))):Int))
theorem R.f187eq: ∀ x,zk R.C R.f187Γ R.f187sig R.f187ann Go.Proofs.Tryz.f187 x=R.f187F x:=by
 intro x
 kernel_rfl
noncomputable def R.f187con:Con:=⟨187,R.f187sig,R.f187F⟩
theorem R.f187ok:Con.Ok Go.Proofs.Tryz.prog R.C R.f187con:=
 zb (Γ:=R.f187Γ) (an:=R.f187ann) ⟨R.Cok,(fun _ h=>nomatch h),R.mixed⟩ Go.Proofs.Tryz.func187 rfl rfl (fun x y h=>(R.f187eq x).trans h) (by decide)
def R.f177sig:Sig:=⟨⟨[.own 0, .hole (.int .i64), .hole (.int .i64), .fnc 151 0], [.arr 118 (.arr 2 (.int .i64))]⟩,⟨[], [.arr 118 (.arr 2 (.int .i64))]⟩⟩
noncomputable def R.f177Γ:List Con:= [R.f186con,R.f187con,R.f151con]
def R.f177ann:Ann:=(.seq .leaf (.seq .leaf (.cond (.seq .leaf (.seq .leaf (.seq .leaf (.block (.loop ⟨.normal, [(11, .hole (.int .i64))], [.arr 118 (.arr 2 (.int .i64)), .cells [.hole (.int .u64)]]⟩ [⟨(.exit 0), [], [.arr 118 (.arr 2
 (.int .i64)), .gone]⟩] (.seq (.seq .leaf (.cond .leaf .leaf)) (.seq (.block (.seq .leaf (.seq (.join [⟨.normal, [(12, .hole (.int .i64))], [.arr 118 (.arr 2 (.int .i64)), .cells [.hole (.int .u64)]]⟩] (.seq .leaf (.cond .leaf .leaf))) (.eff
 2 [] [0,0,0,0,0,24,0,0,0,384,960,1984,0,0,12288,28672,65475,131011,262143,524287])))) .leaf))))))) .leaf)))
noncomputable def R.f177F:Int×Int×List (List Int)→Option (List (List Int)):=fun(x:Int×Int×List (List Int))=>if decide (IntKind.i64.wrap (x.2.1 - x.1)≥(8:Int))=true then Option.bind (R.f186F (IntKind.i64.wrap (x.2.1
 - x.1))) fun v1=>Option.bind (iter (fun(s2:Int×List (List Int)×Int)=>if decide (s2.1≤IntKind.i64.wrap (IntKind.i64.wrap (x.1+IntKind.i64.wrap (IntKind.i64.wrap (Int.tdiv (IntKind.i64.wrap (x.2.1 - x.1)) (4:Int))*(2:
 Int)))+(1:Int)))=true then Option.bind (R.f187F s2.2.2) fun v3=>Option.bind (if decide (IntKind.i64.wrap (IntKind.wrap IntKind.u64 (↑(BitVec.toNat (BitVec.ofInt (IntKind.bits IntKind.u64) v3.1 &&& BitVec.ofInt (IntKind.bits
 IntKind.u64) (IntKind.wrap IntKind.u64 (v1 - (1:Int))))):Int))≥IntKind.i64.wrap (x.2.1 - x.1))=true then some (IntKind.i64.wrap (IntKind.i64.wrap (IntKind.wrap IntKind.u64 (↑(BitVec.toNat (BitVec.ofInt (IntKind.bits IntKind.u64)
 v3.1 &&& BitVec.ofInt (IntKind.bits IntKind.u64) (IntKind.wrap IntKind.u64 (v1 - (1:Int))))):Int)) - IntKind.i64.wrap (x.2.1 - x.1)),s2.2.1,v3.2) else some (IntKind.i64.wrap (IntKind.wrap IntKind.u64 (↑(BitVec.toNat (BitVec.ofInt
 (IntKind.bits IntKind.u64) v3.1 &&& BitVec.ofInt (IntKind.bits IntKind.u64) (IntKind.wrap IntKind.u64 (v1 - (1:Int))))):Int)),s2.2.1,v3.2)) fun(v4:Int×List (List Int)×Int)=>if(0:Int)≤IntKind.i64.wrap (x.1+v4.1)∧
 IntKind.i64.wrap (x.1+v4.1)<(v4.2.1.length:Int) then if(0:Int)≤s2.1∧s2.1<(v4.2.1.length:Int) then if(0:Int)≤s2.1∧s2.1<(v4.2.1.length:Int) then if(0:Int)≤IntKind.i64.wrap (x.1+v4.1)∧IntKind.i64.wrap (x.1
 +v4.1)<(↑(List.length (List.set v4.2.1 (Int.toNat s2.1) (List.getD v4.2.1 (Int.toNat (IntKind.i64.wrap (x.1+v4.1))) (List.replicate (2:Nat) (0:Int))))):Int) then some (Sum.inl (IntKind.i64.wrap (s2.1+(1:Int)),List.set
 (List.set v4.2.1 (Int.toNat s2.1) (List.getD v4.2.1 (Int.toNat (IntKind.i64.wrap (x.1+v4.1))) (List.replicate (2:Nat) (0:Int)))) (Int.toNat (IntKind.i64.wrap (x.1+v4.1))) (List.getD v4.2.1 (Int.toNat s2.1) (List.replicate (2:Nat)
 (0:Int))),v4.2.2)) else none else none else none else none else some (Sum.inr s2.2.1)) (IntKind.i64.wrap (IntKind.i64.wrap (x.1+IntKind.i64.wrap (IntKind.i64.wrap (Int.tdiv (IntKind.i64.wrap (x.2.1 - x.1)) (4:Int))*(2:Int))) - (1
 :Int)),x.2.2,IntKind.wrap IntKind.u64 (IntKind.i64.wrap (x.2.1 - x.1)))) fun(v2:List (List Int))=>some v2 else some x.2.2
theorem R.f177eq: ∀ x,zk R.C R.f177Γ R.f177sig R.f177ann Go.Proofs.Tryz.f177 x=R.f177F x:=by
 intro x
 kernel_rfl
noncomputable def R.f177con:Con:=⟨177,R.f177sig,R.f177F⟩
theorem R.f177ok:Con.Ok Go.Proofs.Tryz.prog R.C R.f177con:=
 zb (Γ:=R.f177Γ) (an:=R.f177ann) ⟨R.Cok,(List.forall_mem_cons.2 ⟨R.f186ok,(List.forall_mem_cons.2 ⟨R.f187ok,(List.forall_mem_cons.2 ⟨R.f151ok,(fun _ h=>nomatch h)⟩)⟩)⟩),R.mixed⟩ Go.Proofs.Tryz.func177 rfl rfl (fun x y h=>(R.f177eq x).trans h) (by decide)
def R.f190sig:Sig:=⟨⟨[.own 0, .hole (.int .i64), .hole (.int .i64), .ptr 1 0, .fnc 151 0], [.arr 118 (.arr 2 (.int .i64)), .cells [.hole (.int .i64)]]⟩,⟨[.hole (.int .i64), .hole (.int .i64)], [.arr 118 (.arr 2 (.int .i64)), .cells
 [.hole (.int .i64)]]⟩⟩
noncomputable def R.f190Γ:List Con:= [R.f151con]
def R.f190ann:Ann:=(.seq .leaf (.seq (.seq .leaf (.cond (.seq .leaf (.seq .leaf .leaf)) .leaf)) (.seq .leaf .leaf)))
end Go.Sx
