/- The functions, with a bound on rounds: to be run. -/
import Derived.Test.YtlppdabhaipbkaaGreatDoorSxTMb
import Derived.Test.YtlppdabhaipbkaaGreatDoorSxEv
set_option linter.unusedVariables false
set_option linter.unusedSimpArgs false
namespace Go.Sx
noncomputable def Lz.f71B:{E:_→_ // ∀ x,Le (E x) (Lz.f71F x)}:=by
 apply Subtype.mk;intro x;unfold Lz.f71F
 repeat' with_reducible (first|exact @Le.rfl _ (Lz.f72F _)|apply Le.bind|apply Le.ite|apply Le.some|apply Le.none|apply Le.iter (n:=60)|apply Le.elim|apply Le.agree|intro _)
noncomputable def Lz.f41B:{E:_→_ // ∀ x,Le (E x) (Lz.f41F x)}:=by
 apply Subtype.mk;intro x;unfold Lz.f41F
 repeat' with_reducible (first|exact Lz.f71B.2 _|apply Le.bind|apply Le.ite|apply Le.some|apply Le.none|apply Le.iter (n:=60)|apply Le.elim|apply Le.agree|intro _)
noncomputable def Lz.f25B:{E:_→_ // ∀ x,Le (E x) (Lz.f25F x)}:=by
 apply Subtype.mk;intro x;unfold Lz.f25F
 repeat' with_reducible (first|exact @Le.rfl _ (Lz.f40F _)|exact Lz.f41B.2 _|apply Le.bind|apply Le.ite|apply Le.some|apply Le.none|apply Le.iter (n:=60)|apply Le.elim|apply Le.agree|intro _)
noncomputable def Lz.f77B:{E:_→_ // ∀ x,Le (E x) (Lz.f77F x)}:=by
 apply Subtype.mk;intro x;unfold Lz.f77F
 repeat' with_reducible (first|apply Le.bind|apply Le.ite|apply Le.some|apply Le.none|apply Le.iter (n:=60)|apply Le.elim|apply Le.agree|intro _)
noncomputable def Lz.f47B:{E:_→_ // ∀ x,Le (E x) (Lz.f47F x)}:=by
 apply Subtype.mk;intro x;unfold Lz.f47F
 repeat' with_reducible (first|exact @Le.rfl _ (Lz.f76F _)|exact Lz.f77B.2 _|apply Le.bind|apply Le.ite|apply Le.some|apply Le.none|apply Le.iter (n:=60)|apply Le.elim|apply Le.agree|intro _)
noncomputable def Lz.f45B:{E:_→_ // ∀ x,Le (E x) (Lz.f45F x)}:=by
 apply Subtype.mk;intro x;unfold Lz.f45F
 repeat' with_reducible (first|exact Lz.f47B.2 _|apply Le.bind|apply Le.ite|apply Le.some|apply Le.none|apply Le.iter (n:=60)|apply Le.elim|apply Le.agree|intro _)
noncomputable def Lz.f73B:{E:_→_ // ∀ x,Le (E x) (Lz.f73F x)}:=by
 apply Subtype.mk;intro x;unfold Lz.f73F
 repeat' with_reducible (first|exact @Le.rfl _ (Lz.f109F _)|exact Lz.f47B.2 _|apply Le.bind|apply Le.ite|apply Le.some|apply Le.none|apply Le.iter (n:=60)|apply Le.elim|apply Le.agree|intro _)
noncomputable def Lz.f42B:{E:_→_ // ∀ x,Le (E x) (Lz.f42F x)}:=by
 apply Subtype.mk;intro x;unfold Lz.f42F
 repeat' with_reducible (first|exact Lz.f45B.2 _|exact Lz.f73B.2 _|apply Le.bind|apply Le.ite|apply Le.some|apply Le.none|apply Le.iter (n:=60)|apply Le.elim|apply Le.agree|intro _)
noncomputable def Lz.f26B:{E:_→_ // ∀ x,Le (E x) (Lz.f26F x)}:=by
 apply Subtype.mk;intro x;unfold Lz.f26F
 repeat' with_reducible (first|exact Lz.f42B.2 _|apply Le.bind|apply Le.ite|apply Le.some|apply Le.none|apply Le.iter (n:=60)|apply Le.elim|apply Le.agree|intro _)
noncomputable def Lz.f116B:{E:_→_ // ∀ x,Le (E x) (Lz.f116F x)}:=by
 apply Subtype.mk;intro x;unfold Lz.f116F
 repeat' with_reducible (first|exact Lz.f45B.2 _|exact Lz.f47B.2 _|exact Lz.f73B.2 _|apply Le.bind|apply Le.ite|apply Le.some|apply Le.none|apply Le.iter (n:=60)|apply Le.elim|apply Le.agree|intro _)
noncomputable def Lz.f117B:{E:_→_ // ∀ x,Le (E x) (Lz.f117F x)}:=by
 apply Subtype.mk;intro x;unfold Lz.f117F
 repeat' with_reducible (first|exact @Le.rfl _ (Lz.f143F _)|apply Le.bind|apply Le.ite|apply Le.some|apply Le.none|apply Le.iter (n:=60)|apply Le.elim|apply Le.agree|intro _)
noncomputable def Lz.f75B:{E:_→_ // ∀ x,Le (E x) (Lz.f75F x)}:=by
 apply Subtype.mk;intro x;unfold Lz.f75F
 repeat' with_reducible (first|exact @Le.rfl _ (Lz.f110F _)|exact @Le.rfl _ (Lz.f111F _)|exact @Le.rfl _ (Lz.f112F _)|exact @Le.rfl _ (Lz.f113F _)|exact @Le.rfl _ (Lz.f114F _)|exact @Le.rfl _ (Lz.f115F _)|exact Lz.f116B.2 _|exact Lz.f117B.2 _|exact @Le.rfl _ (Lz.f118F _)|exact @Le.rfl _ (Lz.f74F _)|apply Le.bind|apply Le.ite|apply Le.some|apply Le.none|apply Le.iter (n:=60)|apply Le.elim|apply Le.agree|intro _)
noncomputable def Lz.f43B:{E:_→_ // ∀ x,Le (E x) (Lz.f43F x)}:=by
 apply Subtype.mk;intro x;unfold Lz.f43F
 repeat' with_reducible (first|exact @Le.rfl _ (Lz.f74F _)|exact Lz.f75B.2 _|apply Le.bind|apply Le.ite|apply Le.some|apply Le.none|apply Le.iter (n:=60)|apply Le.elim|apply Le.agree|intro _)
noncomputable def Lz.f27B:{E:_→_ // ∀ x,Le (E x) (Lz.f27F x)}:=by
 apply Subtype.mk;intro x;unfold Lz.f27F
 repeat' with_reducible (first|exact Lz.f43B.2 _|apply Le.bind|apply Le.ite|apply Le.some|apply Le.none|apply Le.iter (n:=60)|apply Le.elim|apply Le.agree|intro _)
noncomputable def Lz.s0B:{E:_→_ // ∀ x,Le (E x) (Lz.s0F x)}:=by
 apply Subtype.mk;intro x;unfold Lz.s0F
 repeat' with_reducible (first|apply Le.bind|apply Le.ite|apply Le.some|apply Le.none|apply Le.iter (n:=60)|apply Le.elim|apply Le.agree|intro _)
noncomputable def Lz.f54B:{E:_→_ // ∀ x,Le (E x) (Lz.f54F x)}:=by
 apply Subtype.mk;intro x;unfold Lz.f54F
 repeat' with_reducible (first|exact @Le.rfl _ (Lz.f76F _)|exact Lz.f77B.2 _|apply Le.bind|apply Le.ite|apply Le.some|apply Le.none|apply Le.iter (n:=60)|apply Le.elim|apply Le.agree|intro _)
noncomputable def Lz.f44B:{E:_→_ // ∀ x,Le (E x) (Lz.f44F x)}:=by
 apply Subtype.mk;intro x;unfold Lz.f44F
 repeat' with_reducible (first|exact Lz.f54B.2 _|apply Le.bind|apply Le.ite|apply Le.some|apply Le.none|apply Le.iter (n:=60)|apply Le.elim|apply Le.agree|intro _)
noncomputable def Lz.f46B:{E:_→_ // ∀ x,Le (E x) (Lz.f46F x)}:=by
 apply Subtype.mk;intro x;unfold Lz.f46F
 repeat' with_reducible (first|apply Le.bind|apply Le.ite|apply Le.some|apply Le.none|apply Le.iter (n:=60)|apply Le.elim|apply Le.agree|intro _)
noncomputable def Lz.f48B:{E:_→_ // ∀ x,Le (E x) (Lz.f48F x)}:=by
 apply Subtype.mk;intro x;unfold Lz.f48F
 repeat' with_reducible (first|exact Lz.f47B.2 _|exact @Le.rfl _ (Lz.f78F _)|exact @Le.rfl _ (Lz.f79F _)|apply Le.bind|apply Le.ite|apply Le.some|apply Le.none|apply Le.iter (n:=60)|apply Le.elim|apply Le.agree|intro _)
noncomputable def Lz.f28B:{E:_→_ // ∀ x,Le (E x) (Lz.f28F x)}:=by
 apply Subtype.mk;intro x;unfold Lz.f28F
 repeat' with_reducible (first|exact Lz.f44B.2 _|exact Lz.f45B.2 _|exact Lz.f46B.2 _|exact Lz.f47B.2 _|exact Lz.f48B.2 _|apply Le.bind|apply Le.ite|apply Le.some|apply Le.none|apply Le.iter (n:=60)|apply Le.elim|apply Le.agree|intro _)
noncomputable def Lz.s1B:{E:_→_ // ∀ x,Le (E x) (Lz.s1F x)}:=by
 apply Subtype.mk;intro x;unfold Lz.s1F
 repeat' with_reducible (first|apply Le.bind|apply Le.ite|apply Le.some|apply Le.none|apply Le.iter (n:=60)|apply Le.elim|apply Le.agree|intro _)
noncomputable def Lz.f49B:{E:_→_ // ∀ x,Le (E x) (Lz.f49F x)}:=by
 apply Subtype.mk;intro x;unfold Lz.f49F
 repeat' with_reducible (first|apply Le.bind|apply Le.ite|apply Le.some|apply Le.none|apply Le.iter (n:=60)|apply Le.elim|apply Le.agree|intro _)
noncomputable def Lz.f80B:{E:_→_ // ∀ x,Le (E x) (Lz.f80F x)}:=by
 apply Subtype.mk;intro x;unfold Lz.f80F
 repeat' with_reducible (first|exact @Le.rfl _ (Lz.f118F _)|apply Le.bind|apply Le.ite|apply Le.some|apply Le.none|apply Le.iter (n:=60)|apply Le.elim|apply Le.agree|intro _)
noncomputable def Lz.f119B:{E:_→_ // ∀ x,Le (E x) (Lz.f119F x)}:=by
 apply Subtype.mk;intro x;unfold Lz.f119F
 repeat' with_reducible (first|exact Lz.f47B.2 _|apply Le.bind|apply Le.ite|apply Le.some|apply Le.none|apply Le.iter (n:=60)|apply Le.elim|apply Le.agree|intro _)
noncomputable def Lz.f145B:{E:_→_ // ∀ x,Le (E x) (Lz.f145F x)}:=by
 apply Subtype.mk;intro x;unfold Lz.f145F
 repeat' with_reducible (first|exact @Le.rfl _ (Lz.f76F _)|exact Lz.f77B.2 _|apply Le.bind|apply Le.ite|apply Le.some|apply Le.none|apply Le.iter (n:=60)|apply Le.elim|apply Le.agree|intro _)
noncomputable def Lz.f144B:{E:_→_ // ∀ x,Le (E x) (Lz.f144F x)}:=by
 apply Subtype.mk;intro x;unfold Lz.f144F
 repeat' with_reducible (first|exact Lz.f145B.2 _|exact @Le.rfl _ (Lz.f146F _)|apply Le.bind|apply Le.ite|apply Le.some|apply Le.none|apply Le.iter (n:=60)|apply Le.elim|apply Le.agree|intro _)
noncomputable def Lz.f120B:{E:_→_ // ∀ x,Le (E x) (Lz.f120F x)}:=by
 apply Subtype.mk;intro x;unfold Lz.f120F
 repeat' with_reducible (first|exact Lz.f144B.2 _|apply Le.bind|apply Le.ite|apply Le.some|apply Le.none|apply Le.iter (n:=60)|apply Le.elim|apply Le.agree|intro _)
noncomputable def Lz.f121B:{E:_→_ // ∀ x,Le (E x) (Lz.f121F x)}:=by
 apply Subtype.mk;intro x;unfold Lz.f121F
 repeat' with_reducible (first|apply Le.bind|apply Le.ite|apply Le.some|apply Le.none|apply Le.iter (n:=60)|apply Le.elim|apply Le.agree|intro _)
noncomputable def Lz.f122B:{E:_→_ // ∀ x,Le (E x) (Lz.f122F x)}:=by
 apply Subtype.mk;intro x;unfold Lz.f122F
 repeat' with_reducible (first|apply Le.bind|apply Le.ite|apply Le.some|apply Le.none|apply Le.iter (n:=60)|apply Le.elim|apply Le.agree|intro _)
noncomputable def Lz.f123B:{E:_→_ // ∀ x,Le (E x) (Lz.f123F x)}:=by
 apply Subtype.mk;intro x;unfold Lz.f123F
 repeat' with_reducible (first|apply Le.bind|apply Le.ite|apply Le.some|apply Le.none|apply Le.iter (n:=60)|apply Le.elim|apply Le.agree|intro _)
noncomputable def Lz.f81B:{E:_→_ // ∀ x,Le (E x) (Lz.f81F x)}:=by
 apply Subtype.mk;intro x;unfold Lz.f81F
 repeat' with_reducible (first|exact Lz.f119B.2 _|exact Lz.f120B.2 _|exact Lz.f121B.2 _|exact Lz.f122B.2 _|exact Lz.f123B.2 _|apply Le.bind|apply Le.ite|apply Le.some|apply Le.none|apply Le.iter (n:=60)|apply Le.elim|apply Le.agree|intro _)
noncomputable def Lz.f50B:{E:_→_ // ∀ x,Le (E x) (Lz.f50F x)}:=by
 apply Subtype.mk;intro x;unfold Lz.f50F
 repeat' with_reducible (first|exact Lz.f80B.2 _|exact Lz.f81B.2 _|exact @Le.rfl _ (Lz.f82F _)|apply Le.bind|apply Le.ite|apply Le.some|apply Le.none|apply Le.iter (n:=60)|apply Le.elim|apply Le.agree|intro _)
noncomputable def Lz.f24B:{E:_→_ // ∀ x,Le (E x) (Lz.f24F x)}:=by
 apply Subtype.mk;intro x;unfold Lz.f24F
 repeat' with_reducible (first|apply Le.bind|apply Le.ite|apply Le.some|apply Le.none|apply Le.iter (n:=60)|apply Le.elim|apply Le.agree|intro _)
noncomputable def Lz.f151B:{E:_→_ // ∀ x,Le (E x) (Lz.f151F x)}:=by
 apply Subtype.mk;intro x;unfold Lz.f151F
 repeat' with_reducible (first|exact @Le.rfl _ (Lz.f127F _)|apply Le.bind|apply Le.ite|apply Le.some|apply Le.none|apply Le.iter (n:=60)|apply Le.elim|apply Le.agree|intro _)
noncomputable def Lz.f161B:{E:_→_ // ∀ x,Le (E x) (Lz.f161F x)}:=by
 apply Subtype.mk;intro x;unfold Lz.f161F
 repeat' with_reducible (first|exact @Le.rfl _ (Lz.f127F _)|apply Le.bind|apply Le.ite|apply Le.some|apply Le.none|apply Le.iter (n:=60)|apply Le.elim|apply Le.agree|intro _)
noncomputable def Lz.f152B:{E:_→_ // ∀ x,Le (E x) (Lz.f152F x)}:=by
 apply Subtype.mk;intro x;unfold Lz.f152F
 repeat' with_reducible (first|exact Lz.f161B.2 _|apply Le.bind|apply Le.ite|apply Le.some|apply Le.none|apply Le.iter (n:=60)|apply Le.elim|apply Le.agree|intro _)
noncomputable def Lz.f153B:{E:_→_ // ∀ x,Le (E x) (Lz.f153F x)}:=by
 apply Subtype.mk;intro x;unfold Lz.f153F
 repeat' with_reducible (first|exact @Le.rfl _ (Lz.f162F _)|exact @Le.rfl _ (Lz.f163F _)|apply Le.bind|apply Le.ite|apply Le.some|apply Le.none|apply Le.iter (n:=60)|apply Le.elim|apply Le.agree|intro _)
noncomputable def Lz.f155B:{E:_→_ // ∀ x,Le (E x) (Lz.f155F x)}:=by
 apply Subtype.mk;intro x;unfold Lz.f155F
 repeat' with_reducible (first|apply Le.bind|apply Le.ite|apply Le.some|apply Le.none|apply Le.iter (n:=60)|apply Le.elim|apply Le.agree|intro _)
noncomputable def Lz.f156B:{E:_→_ // ∀ x,Le (E x) (Lz.f156F x)}:=by
 apply Subtype.mk;intro x;unfold Lz.f156F
 repeat' with_reducible (first|exact @Le.rfl _ (Lz.f127F _)|apply Le.bind|apply Le.ite|apply Le.some|apply Le.none|apply Le.iter (n:=60)|apply Le.elim|apply Le.agree|intro _)
noncomputable def Lz.f157B:{E:_→_ // ∀ x,Le (E x) (Lz.f157F x)}:=by
 apply Subtype.mk;intro x;unfold Lz.f157F
 repeat' with_reducible (first|exact @Le.rfl _ (Lz.f127F _)|apply Le.bind|apply Le.ite|apply Le.some|apply Le.none|apply Le.iter (n:=60)|apply Le.elim|apply Le.agree|intro _)
noncomputable def Lz.f158B:{E:_→_ // ∀ x,Le (E x) (Lz.f158F x)}:=by
 apply Subtype.mk;intro x;unfold Lz.f158F
 repeat' with_reducible (first|exact @Le.rfl _ (Lz.f127F _)|apply Le.bind|apply Le.ite|apply Le.some|apply Le.none|apply Le.iter (n:=60)|apply Le.elim|apply Le.agree|intro _)
noncomputable def Lz.f149SB {r r':Int×Int×Int×List (List Int)→Option (List (List Int))} (hr: ∀ x,Le (r x) (r' x)):{E:_→_ // ∀ x,Le (E x) (Lz.f149S r' x)}:=by
 apply Subtype.mk;intro x;unfold Lz.f149S
 repeat' with_reducible (first|exact hr _|exact @Le.rfl _ (Lz.f127F _)|exact Lz.f151B.2 _|exact Lz.f152B.2 _|exact Lz.f153B.2 _|exact @Le.rfl _ (Lz.f154F _)|exact Lz.f155B.2 _|exact Lz.f156B.2 _|exact Lz.f157B.2 _|exact Lz.f158B.2 _|apply Le.bind|apply Le.ite|apply Le.some|apply Le.none|apply Le.iter (n:=60)|apply Le.elim|apply Le.agree|intro _)
noncomputable def Lz.f149NB:(k m:Nat)→k≤m→{E:_→_ // ∀ x,Le (E x) (Lz.f149N m x)}
 |0,m,_=>⟨fun _=>none,fun x y hy=>by cases hy⟩
 |k+1,0,h=>absurd h (by omega)
 |k+1,m+1,h=>⟨(Lz.f149SB (Lz.f149NB k m (by omega)).2).1,(Lz.f149SB (Lz.f149NB k m (by omega)).2).2⟩
noncomputable def Lz.f149B:{E:_→_ // ∀ x,Le (E x) (Lz.f149F x)}:=⟨(Lz.f149NB 60 Lz.fuel (by decide)).1,(Lz.f149NB 60 Lz.fuel (by decide)).2⟩
noncomputable def Lz.f126B:{E:_→_ // ∀ x,Le (E x) (Lz.f126F x)}:=by
 apply Subtype.mk;intro x;unfold Lz.f126F
 repeat' with_reducible (first|exact Lz.f149B.2 _|exact @Le.rfl _ (Lz.f150F _)|apply Le.bind|apply Le.ite|apply Le.some|apply Le.none|apply Le.iter (n:=60)|apply Le.elim|apply Le.agree|intro _)
noncomputable def Lz.f83B:{E:_→_ // ∀ x,Le (E x) (Lz.f83F x)}:=by
 apply Subtype.mk;intro x;unfold Lz.f83F
 repeat' with_reducible (first|exact @Le.rfl _ (Lz.otherF _)|exact @Le.rfl _ (Lz.f125F _)|exact Lz.f126B.2 _|apply Le.bind|apply Le.ite|apply Le.some|apply Le.none|apply Le.iter (n:=60)|apply Le.elim|apply Le.agree|intro _)
noncomputable def Lz.f128B:{E:_→_ // ∀ x,Le (E x) (Lz.f128F x)}:=by
 apply Subtype.mk;intro x;unfold Lz.f128F
 repeat' with_reducible (first|exact @Le.rfl _ (Lz.f131F _)|apply Le.bind|apply Le.ite|apply Le.some|apply Le.none|apply Le.iter (n:=60)|apply Le.elim|apply Le.agree|intro _)
noncomputable def Lz.f129B:{E:_→_ // ∀ x,Le (E x) (Lz.f129F x)}:=by
 apply Subtype.mk;intro x;unfold Lz.f129F
 repeat' with_reducible (first|exact @Le.rfl _ (Lz.f131F _)|apply Le.bind|apply Le.ite|apply Le.some|apply Le.none|apply Le.iter (n:=60)|apply Le.elim|apply Le.agree|intro _)
noncomputable def Lz.f84B:{E:_→_ // ∀ x,Le (E x) (Lz.f84F x)}:=by
 apply Subtype.mk;intro x;unfold Lz.f84F
 repeat' with_reducible (first|exact Lz.f128B.2 _|exact Lz.f129B.2 _|apply Le.bind|apply Le.ite|apply Le.some|apply Le.none|apply Le.iter (n:=60)|apply Le.elim|apply Le.agree|intro _)
noncomputable def Lz.f85B:{E:_→_ // ∀ x,Le (E x) (Lz.f85F x)}:=by
 apply Subtype.mk;intro x;unfold Lz.f85F
 repeat' with_reducible (first|apply Le.bind|apply Le.ite|apply Le.some|apply Le.none|apply Le.iter (n:=60)|apply Le.elim|apply Le.agree|intro _)
noncomputable def Lz.f51B:{E:_→_ // ∀ x,Le (E x) (Lz.f51F x)}:=by
 apply Subtype.mk;intro x;unfold Lz.f51F
 repeat' with_reducible (first|exact Lz.f24B.2 _|exact @Le.rfl _ (Lz.f79F _)|exact Lz.f83B.2 _|exact Lz.f84B.2 _|exact Lz.f85B.2 _|apply Le.bind|apply Le.ite|apply Le.some|apply Le.none|apply Le.iter (n:=60)|apply Le.elim|apply Le.agree|intro _)
noncomputable def Lz.f130B:{E:_→_ // ∀ x,Le (E x) (Lz.f130F x)}:=by
 apply Subtype.mk;intro x;unfold Lz.f130F
 repeat' with_reducible (first|exact @Le.rfl _ (Lz.f76F _)|exact Lz.f77B.2 _|apply Le.bind|apply Le.ite|apply Le.some|apply Le.none|apply Le.iter (n:=60)|apply Le.elim|apply Le.agree|intro _)
noncomputable def Lz.f86B:{E:_→_ // ∀ x,Le (E x) (Lz.f86F x)}:=by
 apply Subtype.mk;intro x;unfold Lz.f86F
 repeat' with_reducible (first|exact Lz.f130B.2 _|apply Le.bind|apply Le.ite|apply Le.some|apply Le.none|apply Le.iter (n:=60)|apply Le.elim|apply Le.agree|intro _)
noncomputable def Lz.f52B:{E:_→_ // ∀ x,Le (E x) (Lz.f52F x)}:=by
 apply Subtype.mk;intro x;unfold Lz.f52F
 repeat' with_reducible (first|exact Lz.f24B.2 _|exact @Le.rfl _ (Lz.f79F _)|exact Lz.f86B.2 _|exact @Le.rfl _ (Lz.f87F _)|apply Le.bind|apply Le.ite|apply Le.some|apply Le.none|apply Le.iter (n:=60)|apply Le.elim|apply Le.agree|intro _)
noncomputable def Lz.f53B:{E:_→_ // ∀ x,Le (E x) (Lz.f53F x)}:=by
 apply Subtype.mk;intro x;unfold Lz.f53F
 repeat' with_reducible (first|exact @Le.rfl _ (Lz.f88F _)|apply Le.bind|apply Le.ite|apply Le.some|apply Le.none|apply Le.iter (n:=60)|apply Le.elim|apply Le.agree|intro _)
noncomputable def Lz.f29B:{E:_→_ // ∀ x,Le (E x) (Lz.f29F x)}:=by
 apply Subtype.mk;intro x;unfold Lz.f29F
 repeat' with_reducible (first|exact Lz.f49B.2 _|exact Lz.f50B.2 _|exact Lz.f51B.2 _|exact Lz.f52B.2 _|exact Lz.f53B.2 _|exact Lz.s1B.2 _|apply Le.bind|apply Le.ite|apply Le.some|apply Le.none|apply Le.iter (n:=60)|apply Le.elim|apply Le.agree|intro _)
noncomputable def Lz.f30B:{E:_→_ // ∀ x,Le (E x) (Lz.f30F x)}:=by
 apply Subtype.mk;intro x;unfold Lz.f30F
 repeat' with_reducible (first|exact Lz.f54B.2 _|apply Le.bind|apply Le.ite|apply Le.some|apply Le.none|apply Le.iter (n:=60)|apply Le.elim|apply Le.agree|intro _)
noncomputable def Lz.f19B:{E:_→_ // ∀ x,Le (E x) (Lz.f19F x)}:=by
 apply Subtype.mk;intro x;unfold Lz.f19F
 repeat' with_reducible (first|exact Lz.f25B.2 _|exact Lz.f26B.2 _|exact Lz.f27B.2 _|exact Lz.f28B.2 _|exact Lz.f29B.2 _|exact Lz.f30B.2 _|exact Lz.s0B.2 _|apply Le.bind|apply Le.ite|apply Le.some|apply Le.none|apply Le.iter (n:=60)|apply Le.elim|apply Le.agree|intro _)
noncomputable def Lz.f7B:{E:_→_ // ∀ x,Le (E x) (Lz.f7F x)}:=by
 apply Subtype.mk;intro x;unfold Lz.f7F
 repeat' with_reducible (first|exact Lz.f19B.2 _|apply Le.bind|apply Le.ite|apply Le.some|apply Le.none|apply Le.iter (n:=60)|apply Le.elim|apply Le.agree|intro _)
noncomputable def Lz.f10B:{E:_→_ // ∀ x,Le (E x) (Lz.f10F x)}:=by
 apply Subtype.mk;intro x;unfold Lz.f10F
 repeat' with_reducible (first|apply Le.bind|apply Le.ite|apply Le.some|apply Le.none|apply Le.iter (n:=60)|apply Le.elim|apply Le.agree|intro _)
noncomputable def Lz.f22B:{E:_→_ // ∀ x,Le (E x) (Lz.f22F x)}:=by
 apply Subtype.mk;intro x;unfold Lz.f22F
 repeat' with_reducible (first|apply Le.bind|apply Le.ite|apply Le.some|apply Le.none|apply Le.iter (n:=60)|apply Le.elim|apply Le.agree|intro _)
noncomputable def Lz.f13B:{E:_→_ // ∀ x,Le (E x) (Lz.f13F x)}:=by
 apply Subtype.mk;intro x;unfold Lz.f13F
 repeat' with_reducible (first|exact Lz.f22B.2 _|apply Le.bind|apply Le.ite|apply Le.some|apply Le.none|apply Le.iter (n:=60)|apply Le.elim|apply Le.agree|intro _)
noncomputable def Lz.f23B:{E:_→_ // ∀ x,Le (E x) (Lz.f23F x)}:=by
 apply Subtype.mk;intro x;unfold Lz.f23F
 repeat' with_reducible (first|apply Le.bind|apply Le.ite|apply Le.some|apply Le.none|apply Le.iter (n:=60)|apply Le.elim|apply Le.agree|intro _)
noncomputable def Lz.f15B:{E:_→_ // ∀ x,Le (E x) (Lz.f15F x)}:=by
 apply Subtype.mk;intro x;unfold Lz.f15F
 repeat' with_reducible (first|exact Lz.f23B.2 _|exact Lz.f24B.2 _|exact Lz.f7B.2 _|apply Le.bind|apply Le.ite|apply Le.some|apply Le.none|apply Le.iter (n:=60)|apply Le.elim|apply Le.agree|intro _)
noncomputable def Lz.f6B:{E:_→_ // ∀ x,Le (E x) (Lz.f6F x)}:=by
 apply Subtype.mk;intro x;unfold Lz.f6F
 repeat' with_reducible (first|exact Lz.f10B.2 _|exact Lz.f13B.2 _|exact Lz.f15B.2 _|exact Lz.f7B.2 _|apply Le.bind|apply Le.ite|apply Le.some|apply Le.none|apply Le.iter (n:=60)|apply Le.elim|apply Le.agree|intro _)
theorem zug:Lz.f6F ()=some true:=Lz.f6B.2 () true (by decide+kernel)
end Go.Sx
