/- Level, plain: the law LevelPlain. -/
import Derived.Test.YtlppdabhaipbkaaDoorSxPm
import Derived.Test.YtlppdabhaipbkaaDoorSxPp
set_option linter.unusedVariables false
set_option linter.unusedSimpArgs false
namespace Go.Sx
def zxj (h:Bool) (x:Int):Int:=if h=true then 1488+Int.tmod x 27 else 97+Int.tmod x 26
theorem zxk: ∀ n:Nat,n<27→xf (1488+(n:Int))=1:=by
 unfold xf zne
 decide+kernel
theorem zxl: ∀ n:Nat,n<26→xf (97+(n:Int))=0:=by
 unfold xf zne
 decide+kernel
theorem zvd (h:Bool) {x:Int} (h0:0≤x):xf (zxj h x)=if h=true then 1 else 0:=by
 unfold zxj
 cases h with
 |true=>
  have:=zaz (a:=x) (b:=27) h0 (by omega)
  obtain⟨n,hn⟩:=Int.eq_ofNat_of_zero_le this.1
  rw[if_pos rfl,if_pos rfl,hn]
  exact zxk n (by omega)
 |false=>
  have:=zaz (a:=x) (b:=26) h0 (by omega)
  obtain⟨n,hn⟩:=Int.eq_ofNat_of_zero_le this.1
  rw[if_neg (by decide),if_neg (by decide),hn]
  exact zxl n (by omega)
theorem zth {l:List Int} (h:LR l) (h0:0<l.length):qN l l.length 0=l.getD 0 0:=by
 have hc:=h _ (List.getElem_mem h0)
 rw[qN,dif_pos h0,if_pos (by omega),zu 0 h0]
 rcases hc with e|e
 ·rw[e];rfl
 ·rw[e];rfl
theorem zhm (l:List Int) (dir:Int) (hb:Bool) (hl0: ∀ x∈l,0≤x∧x≤255):Ld.f3F (l,dir,hb)=some true:=by
 unfold Ld.f3F
 rw[ztv]
 simp only[Option.bind_some,Bool.not_true,Bool.false_eq_true,if_false]
 by_cases hl:l.length≤200
 case neg=>rw[if_pos (by rw[decide_eq_true_eq];omega)]
 rw[if_neg (by rw[decide_eq_true_eq];omega)]
 refine zv (zlf l (zxj hb) _ ?_ ?_) ?_
 ·intro k hk
  have hx:=hl0 _ (List.getElem_mem hk)
  have ht:=zaz (a:=l[k]) (b:=26) hx.1 (by omega)
  have ht2:=zaz (a:=l[k]) (b:=27) hx.1 (by omega)
  have hlen:((l.take k).map (zxj hb)).length=k:=by rw[List.length_map,List.length_take];omega
  dsimp only
  rw[if_pos (by rw[decide_eq_true_eq];omega),if_pos (by omega),Int.toNat_natCast,zu 0 hk,za (x:=l[k]) (by omega) (by omega),za (x:=(k:Int)+1) (by omega) (by omega)]
  cases hb with
  |true=>rw[if_pos rfl,if_pos (by omega),if_pos (by simp only[zk,hlen];omega),za (by omega) (by omega)];rfl
  |false=>rw[if_neg (by decide),if_pos (by simp only[zk,hlen];omega),za (by omega) (by omega)];rfl
 ·dsimp only
  rw[if_neg (by rw[decide_eq_true_eq];omega)]
 have hml:(l.map (zxj hb)).length=l.length:=List.length_map ..
 have hcl: ∀ c∈(l.map (zxj hb)).map xf,c=if hb=true then 1 else 0:=by
  intro c hc
  obtain⟨x,hx,rfl⟩:=List.mem_map.1 hc
  obtain⟨y,hy,rfl⟩:=List.mem_map.1 hx
  exact zvd hb (hl0 y hy).1
 generalize l.map (zxj hb)=chars at hml hcl ⊢
 generalize hodd:(if hb=true then(1:Int) else 0)=odd at hcl
 have hodd2:odd=0∨odd=1:=by rw[← hodd];split<;>simp
 have hLR:LR (chars.map xf):=fun c hc=>by rw[hcl c hc];exact hodd2
 have hfin:=zx3 (by omega:chars.length≤1000) hLR dir
 have hlen:=zk9 chars dir
 have hlv:=zqd (chars.map xf) dir
 have hwant:qb (chars.map xf) dir=if dir=1∨dir=2∨l.length=0 then(if dir=2 then 1 else 0) else odd:=by
  unfold qb
  by_cases h12:dir=1∨dir=2
  ·rw[if_pos h12,if_pos (by rcases h12 with h|h;exact .inl h;exact .inr (.inl h))]
   rcases h12 with h|h<;>rw[h]<;>rfl
  ·rw[if_neg h12]
   by_cases hn:l.length=0
   ·rw[if_pos (.inr (.inr hn)),if_neg (fun h=>h12 (.inr h))]
    have:chars.map xf= []:=List.eq_nil_of_length_eq_zero (by rw[List.length_map];omega)
    rw[this,zov _ _ _ (by simp)]
    rfl
   ·rw[if_neg (by omega)]
    have h0:0<(chars.map xf).length:=by rw[List.length_map];omega
    rw[zth hLR h0,zu 0 h0,hcl _ (List.getElem_mem h0)]
    omega
 have hat: ∀ i,i<chars.length→(zu4 chars dir).getD i 0=lvC (qb (chars.map xf) dir) odd:=by
  intro i hi
  rw[hfin,zu 0 (by simpa using hi),List.getElem_map,hcl _ (List.getElem_mem _)]
 rw[zzk (by omega) dir,Option.bind_some,zwq (by omega) dir]
 dsimp only
 generalize qb (chars.map xf) dir=base at*
 generalize zu4 chars dir=L at*
 have hlvc:lvC base odd % 2=odd∧base≤lvC base odd∧lvC base odd≤base+1∧0≤lvC base odd:=by
  rcases hlv with e|e<;>rcases hodd2 with e2|e2<;>rw[e,e2]<;>decide
 refine zv (e:=odd) (by rw[← hodd];cases hb<;>rfl) ?_
 refine zv (e:=base) ?_ ?_
 ·rw[hwant]
  refine zv (e:=decide (dir=1∨dir=2∨l.length=0)) ?_ ?_
  ·by_cases h1:dir=1
   ·rw[if_pos (by rw[h1];rfl),decide_eq_true (.inl h1)]
   ·rw[if_neg (by simpa using h1)]
    by_cases h2:dir=2
    ·rw[if_pos (by rw[h2];rfl),decide_eq_true (.inr (.inl h2))]
    ·rw[if_neg (by simpa using h2)]
     congr 1
     rw[Bool.eq_iff_iff,decide_eq_true_eq,beq_iff_eq]
     omega
  ·by_cases h:dir=1∨dir=2∨l.length=0
   ·rw[if_pos (decide_eq_true h),if_pos h]
    by_cases h2:dir=2
    ·rw[if_pos (by rw[h2];rfl),if_pos h2]
    ·rw[if_neg (by simpa using h2),if_neg h2]
   ·rw[if_neg (by rw[decide_eq_true_eq];exact h),if_neg h]
 refine zv (e:= .inl ()) (zx5 L.length _ _ ?_ ?_) ?_
 ·intro k hk
  have:=hat k (by omega)
  rw[if_pos (by rw[decide_eq_true_eq];omega)]
  refine zv (e:=false) ?_ (by rw[if_neg (by decide),za (by omega) (by omega)];rfl)
  rw[if_pos (by omega),Int.toNat_natCast,this,Int.tmod_eq_emod_of_nonneg hlvc.2.2.2,hlvc.1,if_neg (by simp),if_pos (by omega),if_neg (by rw[decide_eq_true_eq];omega),if_pos (by omega),za (by omega) (by omega),decide_eq_false (by omega)]
 ·rw[if_neg (by rw[decide_eq_true_eq];omega)]
 ·dsimp only[Sum.elim_inl]
  rw[if_pos (by rw[hlen,hml];exact beq_self_eq_true _),if_pos (beq_self_eq_true _),Option.bind_some]
  congr 1
  unfold z0v
  rw[decide_eq_true_eq,zs6]
  intro i hi
  rw[hat i (by omega),hat 0 (by omega)]
theorem zhn (x:List Int×Int×Bool) (hw:zu3 [.sl (.int .u8), .int .i64, .bool] x):Ld.f3F x=some true:=by
 obtain⟨l,dir,hb⟩:=x
 exact zhm l dir hb fun y hy=>hw.1.2 y hy
end Go.Sx
