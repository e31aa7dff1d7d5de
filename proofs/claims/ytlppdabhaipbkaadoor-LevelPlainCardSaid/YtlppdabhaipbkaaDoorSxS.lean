/- The symbolic evaluator, part S: what the pure functions are made of (loops, whole numbers). -/
import Derived.Test.YtlppdabhaipbkaaDoorSxC
set_option linter.unusedVariables false
set_option linter.unusedSimpArgs false
namespace Go.Sx
section
variable {S E:Type} {f g:S→Option (S ⊕ E)} {s s':S} {e:E}
theorem ze0: ∀ {n:Nat} {s:S},xg f n s=some e→ ∀ m,xg f (n+m) s=some e
 |0,s,h,m=>by simp[xg] at h
 |n+1,s,h,m=>by
  rw[Nat.add_right_comm]
  unfold xg at h ⊢
  cases hf:f s with
  |none=>rw[hf] at h;cases h
  |some x=>
   rw[hf] at h
   cases x with
   |inl s'=>exact ze0 (n:=n) h m
   |inr e'=>exact h
theorem zvy {n m:Nat} {e':E} (h:xg f n s=some e) (k:xg f m s=some e'):e=e':=by
 have h1:=ze0 h m
 have h2:=ze0 k n
 rw[Nat.add_comm m n,h1] at h2
 exact Option.some.inj h2
theorem qm {n:Nat} (h:xg f n s=some e):iter f s=some e:=by
 unfold iter
 have hex: ∃ n e,xg f n s=some e:=⟨n,e,h⟩
 rw[dif_pos hex]
 obtain⟨e',he'⟩:=hex.choose_spec
 rw[he',zvy he' h]
theorem zao (h:iter f s=some e): ∃ n,xg f n s=some e:=by
 unfold iter at h
 split at h
 case isTrue hex=>exact⟨_,h⟩
 case isFalse=>cases h
theorem zp8:iter f s=some e↔ ∃ n,xg f n s=some e:=⟨zao,fun⟨_,h⟩=>qm h⟩
theorem zp (h:f s=some (.inr e)):iter f s=some e:=qm (n:=1) (by simp[xg,h])
theorem zA (h:f s=some (.inl s')):iter f s=iter f s':=by
 have key: ∀ e,iter f s=some e↔iter f s'=some e:=by
  intro e
  rw[zp8,zp8]
  constructor
  ·rintro ⟨n,hn⟩
   cases n with
   |zero=>simp[xg] at hn
   |succ n=>exact⟨n,by simpa [xg,h] using hn⟩
  ·rintro ⟨n,hn⟩
   exact⟨n+1,by simpa [xg,h] using hn⟩
 cases h1:iter f s with
 |some e=>exact((key e).1 h1).symm
 |none=>
  cases h2:iter f s' with
  |none=>rfl
  |some e=>rw[(key e).2 h2] at h1;cases h1
theorem zm {I:S→Prop} {Q:E→Prop} (μ:S→Nat) (h: ∀ s,I s→(∃ s',f s=some (.inl s')∧I s'∧μ s'<μ s)∨ ∃ e,f s=some (.inr e)∧Q e):
  ∀ s,I s→ ∃ e,iter f s=some e∧Q e:=by
 intro s hs
 suffices key: ∀ n s,I s→μ s≤n→ ∃ e,iter f s=some e∧Q e from key _ s hs (Nat.le_refl _)
 intro n
 induction n with
 |zero=>
  intro s hs hn
  rcases h s hs with ⟨s',_,_,h3⟩|⟨e,h1,h2⟩
  ·omega
  ·exact⟨e,zp h1,h2⟩
 |succ n ih=>
  intro s hs hn
  rcases h s hs with ⟨s',h1,h2,h3⟩|⟨e,h1,h2⟩
  ·rw[zA h1]
   exact ih s' h2 (by omega)
  ·exact⟨e,zp h1,h2⟩
theorem z9 {A R:Type} {x:Option A} {k:A→Option R} {Q:A→Prop} {P:R→Prop} (h: ∃ e,x=some e∧Q e) (hk: ∀ e,Q e→ ∃ r,k e=some r∧P r): ∃ r,x.bind k=some r∧P r:=by
 obtain⟨e,rfl,h2⟩:=h
 exact hk e h2
theorem qD {A S E:Type} {x:Option A} {k:A→Option (S ⊕ E)} {R:A→Prop} {P1:S→Prop} {P2:E→Prop} (h: ∃ e,x=some e∧R e)
  (hk: ∀ e,R e→(∃ s',k e=some (.inl s')∧P1 s')∨ ∃ e',k e=some (.inr e')∧P2 e'):(∃ s',x.bind k=some (.inl s')∧P1 s')∨ ∃ e',x.bind k=some (.inr e')∧P2 e':=by
 obtain⟨e,rfl,h2⟩:=h
 exact hk e h2
end
theorem za {x:Int} (h1: -9223372036854775808≤x) (h2:x≤9223372036854775807):IntKind.i64.wrap x=x:=by
 simp only[IntKind.wrap,IntKind.bits,IntKind.signed,Bool.true_and]
 split<;>rename_i h<;>simp at h<;>omega
theorem zl9 {x:Int} (h1:0≤x) (h2:x≤18446744073709551615):IntKind.u64.wrap x=x:=by
 simp only[IntKind.wrap,IntKind.bits,IntKind.signed,Bool.false_and]
 simp
 omega
end Go.Sx
