/- Frag, plain: rows. -/
import Derived.Test.YtpmbmobjnknnhaaGreatDoorSxHj
set_option linter.unusedVariables false
set_option linter.unusedSimpArgs false
namespace Go.Sx
theorem zod {A B X E:Type} {f:X→Option (X ⊕ E)} (mk:Int→List B→X) (out:List B→E) (R:List A) (g:A→B)
  (h: ∀ (k:Nat) (hk:k<R.length) (acc:List B),acc.length=k→f (mk k acc)=some (.inl (mk ((k+1:Nat):Int) (acc++ [g R[k]]))))
  (he: ∀ acc:List B,f (mk R.length acc)=some (.inr (out acc))):iter f (mk 0 [])=some (out (R.map g)):=by
 suffices key: ∀ (j k:Nat),k+j=R.length→iter f (mk k ((R.take k).map g))=some (out (R.map g)) from key R.length 0 (by omega)
 intro j
 induction j with
 |zero=>
  intro k hk
  have hk:k=R.length:=hk
  subst hk
  rw[List.take_length]
  exact zl (he _)
 |succ j ih=>
  intro k hk
  rw[zp (h k (by omega) _ (by rw[List.length_map,List.length_take];omega))]
  have:(R.take k).map g++ [g (R[k]'(by omega))]=(R.take (k+1)).map g:=by rw[List.take_succ_eq_append_getElem (by omega),List.map_append];rfl
  rw[this]
  exact ih (k+1) (by omega)
noncomputable def ctlC (c:Int):Bool:=zX c==22||(opens (zX c)||zgb (zX c))
noncomputable def zdl (chars:List Int) (a n:Nat):List Bool:=(List.range n).map fun k=> !ctlC (chars.getD (a+k) 0)
noncomputable def qu (chars levels:List Int) (base:Int) (a b:Nat):List Int:=(zac (zqd (zic chars levels base a b)) (zdl chars a (b - a))).map fun p=>(a:Int)+p
theorem zx3 (l:List Int) (kp:List Bool): ∀ p∈zac l kp,0≤p∧p<(kp.length:Int):=by
 intro p hp
 unfold zac at hp
 have:=(List.mem_filter.1 hp).2
 rw[Bool.and_eq_true,Bool.and_eq_true,decide_eq_true_eq,decide_eq_true_eq] at this
 exact⟨this.1,this.2.1⟩
theorem zmp (lv:List Int):(zqd lv).length=lv.length:=by rw[(zep lv).length_eq];simp
theorem z0y {chars levels:List Int} (hl:chars.length≤100000) (hv:levels.length=chars.length) {a b:Nat} (hab:a≤b) (hb:b≤chars.length) (base:Int):
  R.f26F (chars,levels,base,(a:Int),(b:Int))=some ((a:Int),(b:Int),qu chars levels base a b):=by
 have hw:IntKind.i64.wrap ((b:Int) - (a:Int))=((b - a:Nat):Int):=by rw[za (by omega) (by omega)];omega
 have hkl:(zdl chars a (b - a)).length=b - a:=by simp[zdl]
 unfold R.f26F
 dsimp only
 rw[hw,Int.toNat_natCast,if_pos (by simp only[zi];omega)]
 refine zm (zeh (A:=Bool) (fun k m=>(k,(a:Int),(b:Int),(0:Int),(0:Int),(a:Int),(b:Int),m,([]:List Int),([]:List Int))) (fun m=>((a:Int),(b:Int),(0:Int),(0:Int),(a:Int),(b:Int),m,([]:List Int),([]:List Int))) (b - a) (fun k=> !ctlC (chars.getD (a+k) 0)) ?_ ?_ (by simp)) ?_
 ·intro k m hm hk
  have e2:IntKind.i64.wrap ((a:Int)+(k:Int))=((a+k:Nat):Int):=by rw[za (by omega) (by omega)];omega
  dsimp only
  rw[if_pos (by rw[decide_eq_true_eq,List.length_replicate];omega),e2,if_pos (by omega),Int.toNat_natCast,z00,Option.bind_some,if_pos (by omega),za (by omega) (by omega)]
  rfl
 ·intro m hm
  dsimp only
  rw[if_neg (by rw[decide_eq_true_eq,List.length_replicate];omega)]
 ·dsimp only
  rw[z03 hl hv hab hb base,Option.bind_some,z02 (by rw[zej (by omega)];omega),Option.bind_some]
  have hol:(zqd (zic chars levels base a b)).length=b - a:=by rw[zmp,zej (by omega)]
  have hon:(zac (zqd (zic chars levels base a b)) (zdl chars a (b - a))).length≤b - a:=by rw[← hol];exact List.length_filter_le ..
  have hle:=zx3 (zqd (zic chars levels base a b)) (zdl chars a (b - a))
  refine zm (z01 (kp:=zdl chars a (b - a)) (by omega) (by omega)) ?_
  unfold qu
  generalize zac (zqd (zic chars levels base a b)) (zdl chars a (b - a))=O at hon hle ⊢
  refine zm (zod (fun k m=>(k,(a:Int),(b:Int),(0:Int),(0:Int),(a:Int),(b:Int),([]:List Int),m)) (fun m=>((0:Int),(0:Int),(a:Int),(b:Int),([]:List Int),m)) O (fun p=>(a:Int)+p) ?_ ?_) rfl
  ·intro k hk acc hacc
   have:=hle _ (List.getElem_mem hk)
   dsimp only
   rw[if_pos (by rw[decide_eq_true_eq];omega),if_pos (by omega),Int.toNat_natCast,zo 0 hk,if_pos (by simp only[zi];omega),za (by omega) (by omega),za (by omega) (by omega)]
   rfl
  ·intro acc
   dsimp only
   rw[if_neg (by rw[decide_eq_true_eq];omega)]
def qh:Int→List Int→List (Int×Int)
 |_, []=> []
 |b,c::t=>(b,c)::qh c t
def qR:Int→Int→List Int→Prop
 |b,n, []=>b=n
 |b,n,c::t=>b<c∧qR c n t
theorem zfx: ∀ (l:List Int) (b:Int),(qh b l).length=l.length
 | [],_=>rfl
 |c::t,b=>by simp[qh,zfx t]
theorem z0w {l:List Int} (hl:l.length≤100000) {n:Int} (h:qR 0 n l):R.f24F (l,n)=some (qh 0 l,0):=by
 unfold R.f24F
 dsimp only
 suffices key: ∀ (t d:List Int) (b:Int) (sp:List (Int×Int)),d++t=l→qR b n t→sp.length=d.length→iter _ (b,(d.length:Int),sp)=some (Sum.inl (n,sp++qh b t):(Int×List (Int×Int)) ⊕ (Int×List (Int×Int))) from
  zm (key l [] 0 [] rfl h rfl) (by dsimp only[Sum.elim_inl];rw[if_neg (by simp)];rfl)
 intro t
 induction t with
 |nil=>
  intro d b sp hd hr hs
  rw[List.append_nil] at hd
  have hr:b=n:=hr
  refine zl ?_
  dsimp only
  rw[if_neg (by rw[decide_eq_true_eq,hd];omega),hr]
  simp[qh]
 |cons c t ih=>
  intro d b sp hd hr hs
  obtain⟨h1,h2⟩:b<c∧qR c n t:=hr
  have hlen:d.length+t.length+1=l.length:=by rw[← hd];simp;omega
  have hc:l.getD d.length 0=c:=by rw[← hd];simp[List.getD_eq_getElem?_getD]
  rw[zp (s':=(c,(((d++ [c]).length:Nat):Int),sp++ [(b,c)]))]
  ·rw[ih (d++ [c]) c _ (by rw[← hd];simp) h2 (by simp[hs])]
   simp[qh]
  ·dsimp only
   rw[if_pos (by rw[decide_eq_true_eq];omega),if_pos (by omega),Int.toNat_natCast,hc,if_neg (by rw[decide_eq_true_eq];omega),if_pos (by simp only[zi];omega),za (by omega) (by omega)]
   simp
theorem zai: ∀ (l:List Int) (b n:Int),qR b n l→b≤n
 | [],b,n,h=>by have:b=n:=h;omega
 |c::t,b,n,h=>by have:=zai t c n h.2;have:=h.1;omega
theorem ja: ∀ (l:List Int) (b n:Int),qR b n l→ ∀ s∈qh b l,b≤s.1∧s.1<s.2∧s.2≤n
 | [],_,_,_,s,hs=>by simp[qh] at hs
 |c::t,b,n,h,s,hs=>by
  rcases List.mem_cons.1 hs with rfl|hs
  ·exact⟨Int.le_refl _,h.1,zai t c n h.2⟩
  ·obtain⟨h1,h2,h3⟩:=ja t c n h.2 s hs
   have:=h.1
   exact⟨by omega,h2,h3⟩
theorem zfs: ∀ (l:List Int) (b n:Int),qR b n l→(l.length:Int)≤n - b
 | [],b,n,h=>by have:b=n:=h;simp;omega
 |c::t,b,n,h=>by have:=zfs t c n h.2;have:=h.1;simp;omega
noncomputable def ztq (chars:List Int) (dir:Int) (l:List Int):List (Int×Int×List Int):=
 (qh 0 l).map fun s=>(s.1,s.2,qu chars (zcn chars dir) (zU (chars.map zX) dir) s.1.toNat s.2.toNat)
theorem z0u {chars:List Int} (hl:chars.length≤1000) (dir:Int) {l:List Int} (h:qR 0 (chars.length:Int) l):R.f10F (chars,dir,l)=some (ztq chars dir l,0):=by
 have hll:=zfs l 0 _ h
 unfold R.f10F
 dsimp only
 rw[if_neg (by rw[decide_eq_true_eq];omega),z0w (by omega) h,Option.bind_some]
 dsimp only
 rw[if_neg (by decide),z0x hl dir,Option.bind_some]
 have hsl:=zfx l 0
 have hm:=ja l 0 _ h
 have hv:=zd9 chars dir
 refine zm (zod (fun k m=>(k,m)) id (qh 0 l) (fun s=>(s.1,s.2,qu chars (zcn chars dir) (zU (chars.map zX) dir) s.1.toNat s.2.toNat)) ?_ ?_) rfl
 ·intro k hk acc hacc
  have hq:=hm _ (List.getElem_mem hk)
  obtain⟨a,ha⟩:=Int.eq_ofNat_of_zero_le hq.1
  obtain⟨b,hb⟩:=Int.eq_ofNat_of_zero_le (show 0≤(qh 0 l)[k].2 by omega)
  dsimp only
  rw[if_pos (by rw[decide_eq_true_eq];omega),if_pos (by omega),Int.toNat_natCast,zo (0,0) hk,ha,hb,z0y (by omega) hv (by omega) (by omega),Option.bind_some,if_pos (by simp only[zi];omega),za (by omega) (by omega)]
  rfl
 ·intro acc
  dsimp only
  rw[if_neg (by rw[decide_eq_true_eq];omega)]
  rfl
end Go.Sx
