/- The symbolic evaluator, part P: what is known of a program's types, asked of the program. -/
import Derived.Test.YtlppdabhaipbkaaGreatDoorSxN
set_option linter.unusedVariables false
set_option linter.unusedSimpArgs false
namespace Go.Sx
open Go.RowKit
def zjg:Value→Value→Bool
 | .int i a, .int j b=>i==j&&a==b
 | .bool a, .bool b=>a==b
 | .string a, .string b=>a.data.toList==b.data.toList
 | .float i a, .float j b=>i==j&&Nat.beq a b
 | .complex i a b, .complex j c d=>i==j&&(Nat.beq a c&&Nat.beq b d)
 | .slice none 0 0, .slice none 0 0=>true
 | .pointer none, .pointer none=>true
 |_,_=>false
theorem jM {v u:Value} (h:zjg v u=true):v=u:=by
 unfold zjg at h
 split at h
 case h_1=>simp only[Bool.and_eq_true,beq_iff_eq] at h;rw[h.1,h.2]
 case h_2=>rw[beq_iff_eq] at h;rw[h]
 case h_3 a b=>
  rw[beq_iff_eq] at h
  congr 1
  cases a;cases b
  congr 1
  exact Array.ext' h
 case h_4=>simp only[Bool.and_eq_true,beq_iff_eq] at h;rw[h.1,Nat.eq_of_beq_eq_true h.2]
 case h_5=>simp only[Bool.and_eq_true,beq_iff_eq] at h;rw[h.1,Nat.eq_of_beq_eq_true h.2.1,Nat.eq_of_beq_eq_true h.2.2]
 case h_6=>rfl
 case h_7=>rfl
 case h_8=>cases h
def zks:List Value→List Value→Bool
 | [], []=>true
 |v::l,u::m=>zjg v u&&zks l m
 |_,_=>false
theorem zn8: ∀ {l m:List Value},zks l m=true→l=m
 | [], [],_=>rfl
 |v::l,u::m,h=>by
  simp only[zks,Bool.and_eq_true] at h
  rw[jM h.1,zn8 h.2]
 | [],_::_,h=>by simp[zks] at h
 |_::_, [],h=>by simp[zks] at h
def zrn:Ty→List Value
 | .int i=> [.int i 0]
 | .bool=> [.bool false]
 | .str=> [.string ByteArray.empty]
 | .flt=> [.float .f64 0]
 | .cplx=> [.complex .f64 0 0]
 | .unit=> []
 | .sl _=> [.slice none 0 0]
 | .osl _=> [.slice none 0 0]
 | .arr n e=>(List.replicate n (zrn e)).flatten
 | .pair a b=>zrn a++zrn b
 | .st f=>zrn f
theorem zbt {M:Mem}: ∀ (t:Ty),Rep M t t.dflt (zrn t)
 | .int i=>rfl
 | .bool=>rfl
 | .str=>rfl
 | .flt=>rfl
 | .cplx=>rfl
 | .unit=>rfl
 | .sl e=>⟨none,0,rfl,by simp, .inl rfl⟩
 | .osl e=>⟨none,0,rfl,by simp, .inl rfl⟩
 | .arr n e=>⟨by simp,zb8 (zbt e) n⟩
 | .pair a b=>⟨_,_,rfl,zbt a,zbt b⟩
 | .st f=>zbt f
def z1k:SV→Value→Bool
 | .und,_=>true
 | .val (.int i) n,v=>zjg (.int i n) v
 | .val .str s,v=>zjg (.string s) v
 | .val .flt n,v=>zjg (.float .f64 n) v
 | .val .cplx x,v=>zjg (.complex .f64 x.1 x.2) v
 | .bit b,v=>zjg (.bool b) v
 | .nils,v=>zjg (.slice none 0 0) v
 | .nilp,v=>zjg (.pointer none) v
 |_,_=>false
theorem zxa {E:Env} {s:SV} {v:Value} (h:z1k s v=true):s.sat E v:=by
 unfold z1k at h
 split at h
 case h_1=>simp[SV.sat]
 case h_2=>simp only[SV.sat];exact⟨_,rfl,(jM h).symm⟩
 case h_3=>simp only[SV.sat];exact⟨_,rfl,(jM h).symm⟩
 case h_4=>simp only[SV.sat];exact⟨_,rfl,(jM h).symm⟩
 case h_5=>simp only[SV.sat];exact⟨_,rfl,(jM h).symm⟩
 case h_6=>simp only[SV.sat];exact(jM h).symm
 case h_7=>simp only[SV.sat];exact(jM h).symm
 case h_8=>simp only[SV.sat];exact(jM h).symm
 case h_9=>cases h
def zsn:List SV→List Value→Bool
 | [], []=>true
 |s::l,v::m=>z1k s v&&zsn l m
 |_,_=>false
theorem zn5 {E:Env}: ∀ {l:List SV} {m:List Value},zsn l m=true→SV.satL E l m
 | [], [],_=>by simp[SV.satL]
 |s::l,v::m,h=>by
  simp only[zsn,Bool.and_eq_true] at h
  simp only[SV.satL]
  exact⟨v,m,rfl,zxa h.1,zn5 h.2⟩
 | [],_::_,h=>by simp[zsn] at h
 |_::_, [],h=>by simp[zsn] at h
def zo1 (P:Program) (f:Field) (x:TypeId×Nat×Nat×Bool):Bool:=
 Nat.beq f.type x.1&&(Nat.beq f.offset x.2.1&&(match P.info? f.type,P.underlying f.type with
  |some fi,some d=>Nat.beq fi.size x.2.2.1&&(descAgg d==x.2.2.2)
  |_,_=>false))
def zck (P:Program):List Field→List (TypeId×Nat×Nat×Bool)→Bool
 | [], []=>true
 |f::l,x::m=>zo1 P f x&&zck P l m
 |_,_=>false
def zxq (P:Program):TK→TypeDesc→Bool
 | .other,d=> !descAgg d
 | .bool, .bool=>true
 | .str, .string=>true
 | .int i, .int j=>i==j
 | .ptr a, .pointer b=>Nat.beq a b
 | .slice a, .slice b=>Nat.beq a b
 | .array n a, .array m b=>Nat.beq n m&&Nat.beq a b
 | .struct fs, .struct fds=>zck P fds.toList fs
 | .map a b, .map c d=>Nat.beq a c&&Nat.beq b d
 | .flt, .float .f64=>true
 |_,_=>false
def z1n (i:TI) (z:Value):Bool:=
 match i.ty with
 |some t=>Nat.beq t.size i.size&&zks (zrn t) z.cells.toList
 |none=>true
def zuo:Value→Bool
 | .agg _=>false
 |_=>true
theorem zns {v:Value} (h:zuo v=true):v.cells= #[v]:=by
 cases v<;>first|rfl|(simp[zuo] at h)
def zom (P:Program) (T:TypeId) (i:TI):Bool:=
 match P.info? T,P.underlying T with
 |some f,some d=>Nat.beq f.size i.size&&(Nat.beq f.bytes i.bytes&&(zxq P i.kind d&&(match f.zero with
  |some z=>zsn i.zero z.cells.toList&&(Nat.beq z.cells.size i.size&&(z1n i z&&(i.kind.isAgg||zuo z)))
  |none=>false)))
 |_,_=>false
theorem zd4 {P:Program}: ∀ {l:List Field} {m:List (TypeId×Nat×Nat×Bool)},zck P l m=true→l.length=m.length∧ ∀ (j:Nat) x,m[j]? =some x→ ∃ f,l[j]? =some f∧zo1 P f x=true
 | [], [],_=>⟨rfl,fun j x h=>by simp at h⟩
 |f::l,x::m,h=>by
  simp only[zck,Bool.and_eq_true] at h
  obtain⟨h1,h2⟩:=zd4 h.2
  refine⟨by simp[h1],fun j y hj=> ?_⟩
  cases j with
  |zero=>simp at hj;subst hj;exact⟨f,by simp,h.1⟩
  |succ j=>simpa using h2 j y (by simpa using hj)
 | [],_::_,h=>by simp[zck] at h
 |_::_, [],h=>by simp[zck] at h
theorem zrc {P:Program} {T:TypeId} {i:TI} (h:zom P T i=true):TIok P T i:=by
 unfold zom at h
 split at h
 case h_2=>cases h
 case h_1 f d hf hd=>
  simp only[Bool.and_eq_true] at h
  obtain⟨h1,h2,h3,h4⟩:=h
  split at h4
  case h_2=>cases h4
  case h_1 z hz=>
   simp only[Bool.and_eq_true] at h4
   obtain⟨h5,h6,h7,h8⟩:=h4
   refine⟨⟨f,z,hf,Nat.eq_of_beq_eq_true h1,Nat.eq_of_beq_eq_true h2,hz,fun E=>zn5 h5,Nat.eq_of_beq_eq_true h6,fun t ht=> ?_,fun ha=>zns (by rw[ha] at h8;simpa using h8)⟩, ?_⟩
   ·unfold z1n at h7
    rw[ht] at h7
    simp only[Bool.and_eq_true] at h7
    refine⟨Nat.eq_of_beq_eq_true h7.1,fun M=> ?_⟩
    rw[← zn8 h7.2]
    exact zbt t
   ·unfold zxq at h3
    split at h3
    case h_1 hk=>rw[hk];exact⟨_,hd,by simpa using h3⟩
    case h_2 hk=>rw[hk];exact hd
    case h_3 hk=>rw[hk];exact hd
    case h_4 hk=>rw[hk];rw[beq_iff_eq] at h3;rw[h3];exact hd
    case h_5 hk=>rw[hk];rw[Nat.eq_of_beq_eq_true h3];exact hd
    case h_6 hk=>rw[hk];rw[Nat.eq_of_beq_eq_true h3];exact hd
    case h_7 hk=>rw[hk];simp only[Bool.and_eq_true] at h3;rw[Nat.eq_of_beq_eq_true h3.1,Nat.eq_of_beq_eq_true h3.2];exact hd
    case h_8 fs fds hk=>
     rw[hk]
     obtain⟨g1,g2⟩:=zd4 h3
     refine⟨fds,hd,by simpa using g1,fun j x hj=> ?_⟩
     obtain⟨fd,k1,k2⟩:=g2 j x hj
     unfold zo1 at k2
     simp only[Bool.and_eq_true] at k2
     obtain⟨k3,k4,k5⟩:=k2
     split at k5
     case h_2=>cases k5
     case h_1 fi dd q1 q2=>
      simp only[Bool.and_eq_true,beq_iff_eq] at k5
      exact⟨fd,fi,dd,by simpa using k1,Nat.eq_of_beq_eq_true k3,Nat.eq_of_beq_eq_true k4,q1,Nat.eq_of_beq_eq_true k5.1,q2,k5.2⟩
    case h_9 hk=>rw[hk];simp only[Bool.and_eq_true] at h3;rw[Nat.eq_of_beq_eq_true h3.1,Nat.eq_of_beq_eq_true h3.2];exact hd
    case h_10 hk=>rw[hk];exact hd
    case h_11=>cases h3
def zk0 (P:Program):List (TypeId×TI)→Bool
 | []=>true
 |(T,i)::l=>zom P T i&&zk0 P l
def zp1 (P:Program) (l:List TypeId):Bool:=l.all fun T=> !P.stoodInHeld T&&(match P.underlying T with
 |some (.struct fds)=>fds.toList.all fun f=> !(f.name== "_")
 |_=>false)
theorem zrd {P:Program} {C:Ctx} (h':(zk0 P C.TT&&zp1 P C.cmp)=true):C.ok P:=by
 simp only[Bool.and_eq_true] at h'
 obtain⟨h,hcmp⟩:=h'
 refine⟨fun T i hi=> ?_,fun T hT=> ?_⟩
 rotate_left
 ·unfold zp1 at hcmp
  have:=List.all_eq_true.1 hcmp T hT
  simp only[Bool.and_eq_true,Bool.not_eq_true'] at this
  refine⟨this.1,fun fds hu f hf=> ?_⟩
  have h2:=this.2
  rw[hu] at h2
  have h3:=List.all_eq_true.1 h2 f hf
  simpa using h3
 have key: ∀ l,zk0 P l=true→(T,i)∈l→TIok P T i:=by
  intro l
  induction l with
  |nil=>intro _ hm;simp at hm
  |cons x l ih=>
   intro hc hm
   obtain⟨U,j⟩:=x
   simp only[zk0,Bool.and_eq_true] at hc
   rcases List.mem_cons.1 hm with hm|hm
   ·cases hm;exact zrc hc.1
   ·exact ih hc.2 hm
 exact key C.TT h hi
end Go.Sx
