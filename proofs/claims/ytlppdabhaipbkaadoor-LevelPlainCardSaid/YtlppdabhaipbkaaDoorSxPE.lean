/- The functions, with a bound on rounds: to be run. -/
import Derived.Test.YtlppdabhaipbkaaDoorSxTLb
import Derived.Test.YtlppdabhaipbkaaDoorSxEv
set_option linter.unusedVariables false
set_option linter.unusedSimpArgs false
namespace Go.Sx
noncomputable def Ld.f35B:{E:_→_ // ∀ x,Le (E x) (Ld.f35F x)}:=by
 apply Subtype.mk;intro x;unfold Ld.f35F
 repeat' with_reducible (first|exact @Le.rfl _ (Ld.f36F _)|apply Le.bind|apply Le.ite|apply Le.some|apply Le.none|apply Le.iter (n:=60)|apply Le.elim|apply Le.agree|intro _)
noncomputable def Ld.f21B:{E:_→_ // ∀ x,Le (E x) (Ld.f21F x)}:=by
 apply Subtype.mk;intro x;unfold Ld.f21F
 repeat' with_reducible (first|exact Ld.f35B.2 _|apply Le.bind|apply Le.ite|apply Le.some|apply Le.none|apply Le.iter (n:=60)|apply Le.elim|apply Le.agree|intro _)
noncomputable def Ld.f14B:{E:_→_ // ∀ x,Le (E x) (Ld.f14F x)}:=by
 apply Subtype.mk;intro x;unfold Ld.f14F
 repeat' with_reducible (first|exact @Le.rfl _ (Ld.f20F _)|exact Ld.f21B.2 _|apply Le.bind|apply Le.ite|apply Le.some|apply Le.none|apply Le.iter (n:=60)|apply Le.elim|apply Le.agree|intro _)
noncomputable def Ld.f41B:{E:_→_ // ∀ x,Le (E x) (Ld.f41F x)}:=by
 apply Subtype.mk;intro x;unfold Ld.f41F
 repeat' with_reducible (first|apply Le.bind|apply Le.ite|apply Le.some|apply Le.none|apply Le.iter (n:=60)|apply Le.elim|apply Le.agree|intro _)
noncomputable def Ld.f27B:{E:_→_ // ∀ x,Le (E x) (Ld.f27F x)}:=by
 apply Subtype.mk;intro x;unfold Ld.f27F
 repeat' with_reducible (first|exact @Le.rfl _ (Ld.f40F _)|exact Ld.f41B.2 _|apply Le.bind|apply Le.ite|apply Le.some|apply Le.none|apply Le.iter (n:=60)|apply Le.elim|apply Le.agree|intro _)
noncomputable def Ld.f25B:{E:_→_ // ∀ x,Le (E x) (Ld.f25F x)}:=by
 apply Subtype.mk;intro x;unfold Ld.f25F
 repeat' with_reducible (first|exact Ld.f27B.2 _|apply Le.bind|apply Le.ite|apply Le.some|apply Le.none|apply Le.iter (n:=60)|apply Le.elim|apply Le.agree|intro _)
noncomputable def Ld.f37B:{E:_→_ // ∀ x,Le (E x) (Ld.f37F x)}:=by
 apply Subtype.mk;intro x;unfold Ld.f37F
 repeat' with_reducible (first|exact Ld.f27B.2 _|exact @Le.rfl _ (Ld.f53F _)|apply Le.bind|apply Le.ite|apply Le.some|apply Le.none|apply Le.iter (n:=60)|apply Le.elim|apply Le.agree|intro _)
noncomputable def Ld.f22B:{E:_→_ // ∀ x,Le (E x) (Ld.f22F x)}:=by
 apply Subtype.mk;intro x;unfold Ld.f22F
 repeat' with_reducible (first|exact Ld.f25B.2 _|exact Ld.f37B.2 _|apply Le.bind|apply Le.ite|apply Le.some|apply Le.none|apply Le.iter (n:=60)|apply Le.elim|apply Le.agree|intro _)
noncomputable def Ld.f15B:{E:_→_ // ∀ x,Le (E x) (Ld.f15F x)}:=by
 apply Subtype.mk;intro x;unfold Ld.f15F
 repeat' with_reducible (first|exact Ld.f22B.2 _|apply Le.bind|apply Le.ite|apply Le.some|apply Le.none|apply Le.iter (n:=60)|apply Le.elim|apply Le.agree|intro _)
noncomputable def Ld.f60B:{E:_→_ // ∀ x,Le (E x) (Ld.f60F x)}:=by
 apply Subtype.mk;intro x;unfold Ld.f60F
 repeat' with_reducible (first|exact Ld.f25B.2 _|exact Ld.f27B.2 _|exact Ld.f37B.2 _|apply Le.bind|apply Le.ite|apply Le.some|apply Le.none|apply Le.iter (n:=60)|apply Le.elim|apply Le.agree|intro _)
noncomputable def Ld.f61B:{E:_→_ // ∀ x,Le (E x) (Ld.f61F x)}:=by
 apply Subtype.mk;intro x;unfold Ld.f61F
 repeat' with_reducible (first|exact @Le.rfl _ (Ld.f78F _)|apply Le.bind|apply Le.ite|apply Le.some|apply Le.none|apply Le.iter (n:=60)|apply Le.elim|apply Le.agree|intro _)
noncomputable def Ld.f39B:{E:_→_ // ∀ x,Le (E x) (Ld.f39F x)}:=by
 apply Subtype.mk;intro x;unfold Ld.f39F
 repeat' with_reducible (first|exact @Le.rfl _ (Ld.f38F _)|exact @Le.rfl _ (Ld.f54F _)|exact @Le.rfl _ (Ld.f55F _)|exact @Le.rfl _ (Ld.f56F _)|exact @Le.rfl _ (Ld.f57F _)|exact @Le.rfl _ (Ld.f58F _)|exact @Le.rfl _ (Ld.f59F _)|exact Ld.f60B.2 _|exact Ld.f61B.2 _|exact @Le.rfl _ (Ld.f62F _)|apply Le.bind|apply Le.ite|apply Le.some|apply Le.none|apply Le.iter (n:=60)|apply Le.elim|apply Le.agree|intro _)
noncomputable def Ld.f23B:{E:_→_ // ∀ x,Le (E x) (Ld.f23F x)}:=by
 apply Subtype.mk;intro x;unfold Ld.f23F
 repeat' with_reducible (first|exact @Le.rfl _ (Ld.f38F _)|exact Ld.f39B.2 _|apply Le.bind|apply Le.ite|apply Le.some|apply Le.none|apply Le.iter (n:=60)|apply Le.elim|apply Le.agree|intro _)
noncomputable def Ld.f16B:{E:_→_ // ∀ x,Le (E x) (Ld.f16F x)}:=by
 apply Subtype.mk;intro x;unfold Ld.f16F
 repeat' with_reducible (first|exact Ld.f23B.2 _|apply Le.bind|apply Le.ite|apply Le.some|apply Le.none|apply Le.iter (n:=60)|apply Le.elim|apply Le.agree|intro _)
noncomputable def Ld.s0B:{E:_→_ // ∀ x,Le (E x) (Ld.s0F x)}:=by
 apply Subtype.mk;intro x;unfold Ld.s0F
 repeat' with_reducible (first|apply Le.bind|apply Le.ite|apply Le.some|apply Le.none|apply Le.iter (n:=60)|apply Le.elim|apply Le.agree|intro _)
noncomputable def Ld.f34B:{E:_→_ // ∀ x,Le (E x) (Ld.f34F x)}:=by
 apply Subtype.mk;intro x;unfold Ld.f34F
 repeat' with_reducible (first|exact @Le.rfl _ (Ld.f40F _)|exact Ld.f41B.2 _|apply Le.bind|apply Le.ite|apply Le.some|apply Le.none|apply Le.iter (n:=60)|apply Le.elim|apply Le.agree|intro _)
noncomputable def Ld.f24B:{E:_→_ // ∀ x,Le (E x) (Ld.f24F x)}:=by
 apply Subtype.mk;intro x;unfold Ld.f24F
 repeat' with_reducible (first|exact Ld.f34B.2 _|apply Le.bind|apply Le.ite|apply Le.some|apply Le.none|apply Le.iter (n:=60)|apply Le.elim|apply Le.agree|intro _)
noncomputable def Ld.f26B:{E:_→_ // ∀ x,Le (E x) (Ld.f26F x)}:=by
 apply Subtype.mk;intro x;unfold Ld.f26F
 repeat' with_reducible (first|apply Le.bind|apply Le.ite|apply Le.some|apply Le.none|apply Le.iter (n:=60)|apply Le.elim|apply Le.agree|intro _)
noncomputable def Ld.f28B:{E:_→_ // ∀ x,Le (E x) (Ld.f28F x)}:=by
 apply Subtype.mk;intro x;unfold Ld.f28F
 repeat' with_reducible (first|exact Ld.f27B.2 _|exact @Le.rfl _ (Ld.f42F _)|exact @Le.rfl _ (Ld.f43F _)|apply Le.bind|apply Le.ite|apply Le.some|apply Le.none|apply Le.iter (n:=60)|apply Le.elim|apply Le.agree|intro _)
noncomputable def Ld.f17B:{E:_→_ // ∀ x,Le (E x) (Ld.f17F x)}:=by
 apply Subtype.mk;intro x;unfold Ld.f17F
 repeat' with_reducible (first|exact Ld.f24B.2 _|exact Ld.f25B.2 _|exact Ld.f26B.2 _|exact Ld.f27B.2 _|exact Ld.f28B.2 _|apply Le.bind|apply Le.ite|apply Le.some|apply Le.none|apply Le.iter (n:=60)|apply Le.elim|apply Le.agree|intro _)
noncomputable def Ld.s1B:{E:_→_ // ∀ x,Le (E x) (Ld.s1F x)}:=by
 apply Subtype.mk;intro x;unfold Ld.s1F
 repeat' with_reducible (first|apply Le.bind|apply Le.ite|apply Le.some|apply Le.none|apply Le.iter (n:=60)|apply Le.elim|apply Le.agree|intro _)
noncomputable def Ld.f29B:{E:_→_ // ∀ x,Le (E x) (Ld.f29F x)}:=by
 apply Subtype.mk;intro x;unfold Ld.f29F
 repeat' with_reducible (first|apply Le.bind|apply Le.ite|apply Le.some|apply Le.none|apply Le.iter (n:=60)|apply Le.elim|apply Le.agree|intro _)
noncomputable def Ld.f44B:{E:_→_ // ∀ x,Le (E x) (Ld.f44F x)}:=by
 apply Subtype.mk;intro x;unfold Ld.f44F
 repeat' with_reducible (first|exact @Le.rfl _ (Ld.f62F _)|apply Le.bind|apply Le.ite|apply Le.some|apply Le.none|apply Le.iter (n:=60)|apply Le.elim|apply Le.agree|intro _)
noncomputable def Ld.f63B:{E:_→_ // ∀ x,Le (E x) (Ld.f63F x)}:=by
 apply Subtype.mk;intro x;unfold Ld.f63F
 repeat' with_reducible (first|exact Ld.f27B.2 _|apply Le.bind|apply Le.ite|apply Le.some|apply Le.none|apply Le.iter (n:=60)|apply Le.elim|apply Le.agree|intro _)
noncomputable def Ld.f80B:{E:_→_ // ∀ x,Le (E x) (Ld.f80F x)}:=by
 apply Subtype.mk;intro x;unfold Ld.f80F
 repeat' with_reducible (first|exact @Le.rfl _ (Ld.f40F _)|exact Ld.f41B.2 _|apply Le.bind|apply Le.ite|apply Le.some|apply Le.none|apply Le.iter (n:=60)|apply Le.elim|apply Le.agree|intro _)
noncomputable def Ld.f79B:{E:_→_ // ∀ x,Le (E x) (Ld.f79F x)}:=by
 apply Subtype.mk;intro x;unfold Ld.f79F
 repeat' with_reducible (first|exact Ld.f80B.2 _|exact @Le.rfl _ (Ld.f81F _)|apply Le.bind|apply Le.ite|apply Le.some|apply Le.none|apply Le.iter (n:=60)|apply Le.elim|apply Le.agree|intro _)
noncomputable def Ld.f64B:{E:_→_ // ∀ x,Le (E x) (Ld.f64F x)}:=by
 apply Subtype.mk;intro x;unfold Ld.f64F
 repeat' with_reducible (first|exact Ld.f79B.2 _|apply Le.bind|apply Le.ite|apply Le.some|apply Le.none|apply Le.iter (n:=60)|apply Le.elim|apply Le.agree|intro _)
noncomputable def Ld.f65B:{E:_→_ // ∀ x,Le (E x) (Ld.f65F x)}:=by
 apply Subtype.mk;intro x;unfold Ld.f65F
 repeat' with_reducible (first|apply Le.bind|apply Le.ite|apply Le.some|apply Le.none|apply Le.iter (n:=60)|apply Le.elim|apply Le.agree|intro _)
noncomputable def Ld.f66B:{E:_→_ // ∀ x,Le (E x) (Ld.f66F x)}:=by
 apply Subtype.mk;intro x;unfold Ld.f66F
 repeat' with_reducible (first|apply Le.bind|apply Le.ite|apply Le.some|apply Le.none|apply Le.iter (n:=60)|apply Le.elim|apply Le.agree|intro _)
noncomputable def Ld.f67B:{E:_→_ // ∀ x,Le (E x) (Ld.f67F x)}:=by
 apply Subtype.mk;intro x;unfold Ld.f67F
 repeat' with_reducible (first|apply Le.bind|apply Le.ite|apply Le.some|apply Le.none|apply Le.iter (n:=60)|apply Le.elim|apply Le.agree|intro _)
noncomputable def Ld.f45B:{E:_→_ // ∀ x,Le (E x) (Ld.f45F x)}:=by
 apply Subtype.mk;intro x;unfold Ld.f45F
 repeat' with_reducible (first|exact Ld.f63B.2 _|exact Ld.f64B.2 _|exact Ld.f65B.2 _|exact Ld.f66B.2 _|exact Ld.f67B.2 _|apply Le.bind|apply Le.ite|apply Le.some|apply Le.none|apply Le.iter (n:=60)|apply Le.elim|apply Le.agree|intro _)
noncomputable def Ld.f30B:{E:_→_ // ∀ x,Le (E x) (Ld.f30F x)}:=by
 apply Subtype.mk;intro x;unfold Ld.f30F
 repeat' with_reducible (first|exact Ld.f44B.2 _|exact Ld.f45B.2 _|exact @Le.rfl _ (Ld.f46F _)|apply Le.bind|apply Le.ite|apply Le.some|apply Le.none|apply Le.iter (n:=60)|apply Le.elim|apply Le.agree|intro _)
noncomputable def Ld.f12B:{E:_→_ // ∀ x,Le (E x) (Ld.f12F x)}:=by
 apply Subtype.mk;intro x;unfold Ld.f12F
 repeat' with_reducible (first|apply Le.bind|apply Le.ite|apply Le.some|apply Le.none|apply Le.iter (n:=60)|apply Le.elim|apply Le.agree|intro _)
noncomputable def Ld.f86B:{E:_→_ // ∀ x,Le (E x) (Ld.f86F x)}:=by
 apply Subtype.mk;intro x;unfold Ld.f86F
 repeat' with_reducible (first|exact @Le.rfl _ (Ld.f71F _)|apply Le.bind|apply Le.ite|apply Le.some|apply Le.none|apply Le.iter (n:=60)|apply Le.elim|apply Le.agree|intro _)
noncomputable def Ld.f96B:{E:_→_ // ∀ x,Le (E x) (Ld.f96F x)}:=by
 apply Subtype.mk;intro x;unfold Ld.f96F
 repeat' with_reducible (first|exact @Le.rfl _ (Ld.f71F _)|apply Le.bind|apply Le.ite|apply Le.some|apply Le.none|apply Le.iter (n:=60)|apply Le.elim|apply Le.agree|intro _)
noncomputable def Ld.f87B:{E:_→_ // ∀ x,Le (E x) (Ld.f87F x)}:=by
 apply Subtype.mk;intro x;unfold Ld.f87F
 repeat' with_reducible (first|exact Ld.f96B.2 _|apply Le.bind|apply Le.ite|apply Le.some|apply Le.none|apply Le.iter (n:=60)|apply Le.elim|apply Le.agree|intro _)
noncomputable def Ld.f88B:{E:_→_ // ∀ x,Le (E x) (Ld.f88F x)}:=by
 apply Subtype.mk;intro x;unfold Ld.f88F
 repeat' with_reducible (first|exact @Le.rfl _ (Ld.f97F _)|exact @Le.rfl _ (Ld.f98F _)|apply Le.bind|apply Le.ite|apply Le.some|apply Le.none|apply Le.iter (n:=60)|apply Le.elim|apply Le.agree|intro _)
noncomputable def Ld.f90B:{E:_→_ // ∀ x,Le (E x) (Ld.f90F x)}:=by
 apply Subtype.mk;intro x;unfold Ld.f90F
 repeat' with_reducible (first|apply Le.bind|apply Le.ite|apply Le.some|apply Le.none|apply Le.iter (n:=60)|apply Le.elim|apply Le.agree|intro _)
noncomputable def Ld.f91B:{E:_→_ // ∀ x,Le (E x) (Ld.f91F x)}:=by
 apply Subtype.mk;intro x;unfold Ld.f91F
 repeat' with_reducible (first|exact @Le.rfl _ (Ld.f71F _)|apply Le.bind|apply Le.ite|apply Le.some|apply Le.none|apply Le.iter (n:=60)|apply Le.elim|apply Le.agree|intro _)
noncomputable def Ld.f92B:{E:_→_ // ∀ x,Le (E x) (Ld.f92F x)}:=by
 apply Subtype.mk;intro x;unfold Ld.f92F
 repeat' with_reducible (first|exact @Le.rfl _ (Ld.f71F _)|apply Le.bind|apply Le.ite|apply Le.some|apply Le.none|apply Le.iter (n:=60)|apply Le.elim|apply Le.agree|intro _)
noncomputable def Ld.f93B:{E:_→_ // ∀ x,Le (E x) (Ld.f93F x)}:=by
 apply Subtype.mk;intro x;unfold Ld.f93F
 repeat' with_reducible (first|exact @Le.rfl _ (Ld.f71F _)|apply Le.bind|apply Le.ite|apply Le.some|apply Le.none|apply Le.iter (n:=60)|apply Le.elim|apply Le.agree|intro _)
noncomputable def Ld.f84SB {r r':Int×Int×Int×List (List Int)→Option (List (List Int))} (hr: ∀ x,Le (r x) (r' x)):{E:_→_ // ∀ x,Le (E x) (Ld.f84S r' x)}:=by
 apply Subtype.mk;intro x;unfold Ld.f84S
 repeat' with_reducible (first|exact hr _|exact @Le.rfl _ (Ld.f71F _)|exact Ld.f86B.2 _|exact Ld.f87B.2 _|exact Ld.f88B.2 _|exact @Le.rfl _ (Ld.f89F _)|exact Ld.f90B.2 _|exact Ld.f91B.2 _|exact Ld.f92B.2 _|exact Ld.f93B.2 _|apply Le.bind|apply Le.ite|apply Le.some|apply Le.none|apply Le.iter (n:=60)|apply Le.elim|apply Le.agree|intro _)
noncomputable def Ld.f84NB:(k m:Nat)→k≤m→{E:_→_ // ∀ x,Le (E x) (Ld.f84N m x)}
 |0,m,_=>⟨fun _=>none,fun x y hy=>by cases hy⟩
 |k+1,0,h=>absurd h (by omega)
 |k+1,m+1,h=>⟨(Ld.f84SB (Ld.f84NB k m (by omega)).2).1,(Ld.f84SB (Ld.f84NB k m (by omega)).2).2⟩
noncomputable def Ld.f84B:{E:_→_ // ∀ x,Le (E x) (Ld.f84F x)}:=⟨(Ld.f84NB 100 Ld.fuel (by decide)).1,(Ld.f84NB 100 Ld.fuel (by decide)).2⟩
noncomputable def Ld.f70B:{E:_→_ // ∀ x,Le (E x) (Ld.f70F x)}:=by
 apply Subtype.mk;intro x;unfold Ld.f70F
 repeat' with_reducible (first|exact Ld.f84B.2 _|exact @Le.rfl _ (Ld.f85F _)|apply Le.bind|apply Le.ite|apply Le.some|apply Le.none|apply Le.iter (n:=60)|apply Le.elim|apply Le.agree|intro _)
noncomputable def Ld.f47B:{E:_→_ // ∀ x,Le (E x) (Ld.f47F x)}:=by
 apply Subtype.mk;intro x;unfold Ld.f47F
 repeat' with_reducible (first|exact @Le.rfl _ (Ld.otherF _)|exact @Le.rfl _ (Ld.f69F _)|exact Ld.f70B.2 _|apply Le.bind|apply Le.ite|apply Le.some|apply Le.none|apply Le.iter (n:=60)|apply Le.elim|apply Le.agree|intro _)
noncomputable def Ld.f72B:{E:_→_ // ∀ x,Le (E x) (Ld.f72F x)}:=by
 apply Subtype.mk;intro x;unfold Ld.f72F
 repeat' with_reducible (first|exact @Le.rfl _ (Ld.f75F _)|apply Le.bind|apply Le.ite|apply Le.some|apply Le.none|apply Le.iter (n:=60)|apply Le.elim|apply Le.agree|intro _)
noncomputable def Ld.f73B:{E:_→_ // ∀ x,Le (E x) (Ld.f73F x)}:=by
 apply Subtype.mk;intro x;unfold Ld.f73F
 repeat' with_reducible (first|exact @Le.rfl _ (Ld.f75F _)|apply Le.bind|apply Le.ite|apply Le.some|apply Le.none|apply Le.iter (n:=60)|apply Le.elim|apply Le.agree|intro _)
noncomputable def Ld.f48B:{E:_→_ // ∀ x,Le (E x) (Ld.f48F x)}:=by
 apply Subtype.mk;intro x;unfold Ld.f48F
 repeat' with_reducible (first|exact Ld.f72B.2 _|exact Ld.f73B.2 _|apply Le.bind|apply Le.ite|apply Le.some|apply Le.none|apply Le.iter (n:=60)|apply Le.elim|apply Le.agree|intro _)
noncomputable def Ld.f49B:{E:_→_ // ∀ x,Le (E x) (Ld.f49F x)}:=by
 apply Subtype.mk;intro x;unfold Ld.f49F
 repeat' with_reducible (first|apply Le.bind|apply Le.ite|apply Le.some|apply Le.none|apply Le.iter (n:=60)|apply Le.elim|apply Le.agree|intro _)
noncomputable def Ld.f31B:{E:_→_ // ∀ x,Le (E x) (Ld.f31F x)}:=by
 apply Subtype.mk;intro x;unfold Ld.f31F
 repeat' with_reducible (first|exact Ld.f12B.2 _|exact @Le.rfl _ (Ld.f43F _)|exact Ld.f47B.2 _|exact Ld.f48B.2 _|exact Ld.f49B.2 _|apply Le.bind|apply Le.ite|apply Le.some|apply Le.none|apply Le.iter (n:=60)|apply Le.elim|apply Le.agree|intro _)
noncomputable def Ld.f74B:{E:_→_ // ∀ x,Le (E x) (Ld.f74F x)}:=by
 apply Subtype.mk;intro x;unfold Ld.f74F
 repeat' with_reducible (first|exact @Le.rfl _ (Ld.f40F _)|exact Ld.f41B.2 _|apply Le.bind|apply Le.ite|apply Le.some|apply Le.none|apply Le.iter (n:=60)|apply Le.elim|apply Le.agree|intro _)
noncomputable def Ld.f50B:{E:_→_ // ∀ x,Le (E x) (Ld.f50F x)}:=by
 apply Subtype.mk;intro x;unfold Ld.f50F
 repeat' with_reducible (first|exact Ld.f74B.2 _|apply Le.bind|apply Le.ite|apply Le.some|apply Le.none|apply Le.iter (n:=60)|apply Le.elim|apply Le.agree|intro _)
noncomputable def Ld.f32B:{E:_→_ // ∀ x,Le (E x) (Ld.f32F x)}:=by
 apply Subtype.mk;intro x;unfold Ld.f32F
 repeat' with_reducible (first|exact Ld.f12B.2 _|exact @Le.rfl _ (Ld.f43F _)|exact Ld.f50B.2 _|exact @Le.rfl _ (Ld.f51F _)|apply Le.bind|apply Le.ite|apply Le.some|apply Le.none|apply Le.iter (n:=60)|apply Le.elim|apply Le.agree|intro _)
noncomputable def Ld.f33B:{E:_→_ // ∀ x,Le (E x) (Ld.f33F x)}:=by
 apply Subtype.mk;intro x;unfold Ld.f33F
 repeat' with_reducible (first|exact @Le.rfl _ (Ld.f52F _)|apply Le.bind|apply Le.ite|apply Le.some|apply Le.none|apply Le.iter (n:=60)|apply Le.elim|apply Le.agree|intro _)
noncomputable def Ld.f18B:{E:_→_ // ∀ x,Le (E x) (Ld.f18F x)}:=by
 apply Subtype.mk;intro x;unfold Ld.f18F
 repeat' with_reducible (first|exact Ld.f29B.2 _|exact Ld.f30B.2 _|exact Ld.f31B.2 _|exact Ld.f32B.2 _|exact Ld.f33B.2 _|exact Ld.s1B.2 _|apply Le.bind|apply Le.ite|apply Le.some|apply Le.none|apply Le.iter (n:=60)|apply Le.elim|apply Le.agree|intro _)
noncomputable def Ld.f19B:{E:_→_ // ∀ x,Le (E x) (Ld.f19F x)}:=by
 apply Subtype.mk;intro x;unfold Ld.f19F
 repeat' with_reducible (first|exact Ld.f34B.2 _|apply Le.bind|apply Le.ite|apply Le.some|apply Le.none|apply Le.iter (n:=60)|apply Le.elim|apply Le.agree|intro _)
noncomputable def Ld.f10B:{E:_→_ // ∀ x,Le (E x) (Ld.f10F x)}:=by
 apply Subtype.mk;intro x;unfold Ld.f10F
 repeat' with_reducible (first|exact Ld.f14B.2 _|exact Ld.f15B.2 _|exact Ld.f16B.2 _|exact Ld.f17B.2 _|exact Ld.f18B.2 _|exact Ld.f19B.2 _|exact Ld.s0B.2 _|apply Le.bind|apply Le.ite|apply Le.some|apply Le.none|apply Le.iter (n:=60)|apply Le.elim|apply Le.agree|intro _)
noncomputable def Ld.f6B:{E:_→_ // ∀ x,Le (E x) (Ld.f6F x)}:=by
 apply Subtype.mk;intro x;unfold Ld.f6F
 repeat' with_reducible (first|exact Ld.f10B.2 _|apply Le.bind|apply Le.ite|apply Le.some|apply Le.none|apply Le.iter (n:=60)|apply Le.elim|apply Le.agree|intro _)
noncomputable def Ld.f9B:{E:_→_ // ∀ x,Le (E x) (Ld.f9F x)}:=by
 apply Subtype.mk;intro x;unfold Ld.f9F
 repeat' with_reducible (first|apply Le.bind|apply Le.ite|apply Le.some|apply Le.none|apply Le.iter (n:=60)|apply Le.elim|apply Le.agree|intro _)
noncomputable def Ld.f13B:{E:_→_ // ∀ x,Le (E x) (Ld.f13F x)}:=by
 apply Subtype.mk;intro x;unfold Ld.f13F
 repeat' with_reducible (first|apply Le.bind|apply Le.ite|apply Le.some|apply Le.none|apply Le.iter (n:=60)|apply Le.elim|apply Le.agree|intro _)
noncomputable def Ld.f8B:{E:_→_ // ∀ x,Le (E x) (Ld.f8F x)}:=by
 apply Subtype.mk;intro x;unfold Ld.f8F
 repeat' with_reducible (first|exact Ld.f13B.2 _|apply Le.bind|apply Le.ite|apply Le.some|apply Le.none|apply Le.iter (n:=60)|apply Le.elim|apply Le.agree|intro _)
noncomputable def Ld.f11B:{E:_→_ // ∀ x,Le (E x) (Ld.f11F x)}:=by
 apply Subtype.mk;intro x;unfold Ld.f11F
 repeat' with_reducible (first|apply Le.bind|apply Le.ite|apply Le.some|apply Le.none|apply Le.iter (n:=60)|apply Le.elim|apply Le.agree|intro _)
noncomputable def Ld.f7B:{E:_→_ // ∀ x,Le (E x) (Ld.f7F x)}:=by
 apply Subtype.mk;intro x;unfold Ld.f7F
 repeat' with_reducible (first|exact Ld.f11B.2 _|exact Ld.f12B.2 _|exact Ld.f6B.2 _|apply Le.bind|apply Le.ite|apply Le.some|apply Le.none|apply Le.iter (n:=60)|apply Le.elim|apply Le.agree|intro _)
noncomputable def Ld.f5B:{E:_→_ // ∀ x,Le (E x) (Ld.f5F x)}:=by
 apply Subtype.mk;intro x;unfold Ld.f5F
 repeat' with_reducible (first|exact Ld.f6B.2 _|exact Ld.f7B.2 _|exact Ld.f8B.2 _|exact Ld.f9B.2 _|apply Le.bind|apply Le.ite|apply Le.some|apply Le.none|apply Le.iter (n:=60)|apply Le.elim|apply Le.agree|intro _)
theorem ztv:Ld.f5F ()=some true:=Ld.f5B.2 () true (by decide+kernel)
end Go.Sx
