/- The symbolic evaluator, part S: what the pure functions are made of (loops, whole numbers). -/
import Derived.Test.YtlppdabhaipbkaaGreatDoorSxC
set_option linter.unusedVariables false
set_option linter.unusedSimpArgs false
namespace Go.Sx
section
variable {S E:Type} {f g:S→Option (S ⊕ E)} {s s':S} {e:E}
theorem ze9: ∀ {n:Nat} {s:S},xh f n s=some e→ ∀ m,xh f (n+m) s=some e
 |0,s,h,m=>by simp[xh] at h
 |n+1,s,h,m=>by
  rw[Nat.add_right_comm]
  unfold xh at h ⊢
  cases hf:f s with
  |none=>rw[hf] at h;cases h
  |some x=>
   rw[hf] at h
   cases x with
   |inl s'=>exact ze9 (n:=n) h m
   |inr e'=>exact h
theorem zwk {n m:Nat} {e':E} (h:xh f n s=some e) (k:xh f m s=some e'):e=e':=by
 have h1:=ze9 h m
 have h2:=ze9 k n
 rw[Nat.add_comm m n,h1] at h2
 exact Option.some.inj h2
theorem qp {n:Nat} (h:xh f n s=some e):iter f s=some e:=by
 unfold iter
 have hex: ∃ n e,xh f n s=some e:=⟨n,e,h⟩
 rw[dif_pos hex]
 obtain⟨e',he'⟩:=hex.choose_spec
 rw[he',zwk he' h]
theorem zas (h:iter f s=some e): ∃ n,xh f n s=some e:=by
 unfold iter at h
 split at h
 case isTrue hex=>exact⟨_,h⟩
 case isFalse=>cases h
theorem zqi:iter f s=some e↔ ∃ n,xh f n s=some e:=⟨zas,fun⟨_,h⟩=>qp h⟩
theorem zn (h:f s=some (.inr e)):iter f s=some e:=qp (n:=1) (by simp[xh,h])
theorem zw (h:f s=some (.inl s')):iter f s=iter f s':=by
 have key: ∀ e,iter f s=some e↔iter f s'=some e:=by
  intro e
  rw[zqi,zqi]
  constructor
  ·rintro ⟨n,hn⟩
   cases n with
   |zero=>simp[xh] at hn
   |succ n=>exact⟨n,by simpa [xh,h] using hn⟩
  ·rintro ⟨n,hn⟩
   exact⟨n+1,by simpa [xh,h] using hn⟩
 cases h1:iter f s with
 |some e=>exact((key e).1 h1).symm
 |none=>
  cases h2:iter f s' with
  |none=>rfl
  |some e=>rw[(key e).2 h2] at h1;cases h1
theorem zv {I:S→Prop} {Q:E→Prop} (μ:S→Nat) (h: ∀ s,I s→(∃ s',f s=some (.inl s')∧I s'∧μ s'<μ s)∨ ∃ e,f s=some (.inr e)∧Q e):
  ∀ s,I s→ ∃ e,iter f s=some e∧Q e:=by
 intro s hs
 suffices key: ∀ n s,I s→μ s≤n→ ∃ e,iter f s=some e∧Q e from key _ s hs (Nat.le_refl _)
 intro n
 induction n with
 |zero=>
  intro s hs hn
  rcases h s hs with ⟨s',_,_,h3⟩|⟨e,h1,h2⟩
  ·omega
  ·exact⟨e,zn h1,h2⟩
 |succ n ih=>
  intro s hs hn
  rcases h s hs with ⟨s',h1,h2,h3⟩|⟨e,h1,h2⟩
  ·rw[zw h1]
   exact ih s' h2 (by omega)
  ·exact⟨e,zn h1,h2⟩
theorem qf {A R:Type} {x:Option A} {k:A→Option R} {Q:A→Prop} {P:R→Prop} (h: ∃ e,x=some e∧Q e) (hk: ∀ e,Q e→ ∃ r,k e=some r∧P r): ∃ r,x.bind k=some r∧P r:=by
 obtain⟨e,rfl,h2⟩:=h
 exact hk e h2
theorem qR {A S E:Type} {x:Option A} {k:A→Option (S ⊕ E)} {R:A→Prop} {P1:S→Prop} {P2:E→Prop} (h: ∃ e,x=some e∧R e)
  (hk: ∀ e,R e→(∃ s',k e=some (.inl s')∧P1 s')∨ ∃ e',k e=some (.inr e')∧P2 e'):(∃ s',x.bind k=some (.inl s')∧P1 s')∨ ∃ e',x.bind k=some (.inr e')∧P2 e':=by
 obtain⟨e,rfl,h2⟩:=h
 exact hk e h2
end
theorem za {x:Int} (h1: -9223372036854775808≤x) (h2:x≤9223372036854775807):IntKind.i64.wrap x=x:=by
 simp only[IntKind.wrap,IntKind.bits,IntKind.signed,Bool.true_and]
 split<;>rename_i h<;>simp at h<;>omega
theorem zme {x:Int} (h1:0≤x) (h2:x≤18446744073709551615):IntKind.u64.wrap x=x:=by
 simp only[IntKind.wrap,IntKind.bits,IntKind.signed,Bool.false_and]
 simp
 omega
end Go.Sx
