/- The functions, with a bound on rounds: to be run. -/
import Derived.Test.YtpmbmobjnknnhaaGreatDoorSxTAc
import Derived.Test.YtpmbmobjnknnhaaGreatDoorSxEv
set_option linter.unusedVariables false
set_option linter.unusedSimpArgs false
namespace Go.Sx
noncomputable def R.f24B:{E:_→_ // ∀ x,Le (E x) (R.f24F x)}:=by
 apply Subtype.mk;intro x;unfold R.f24F
 repeat' with_reducible (first|apply Le.bind|apply Le.ite|apply Le.some|apply Le.none|apply Le.iter (n:=60)|apply Le.elim|apply Le.agree|intro _)
noncomputable def R.f98B:{E:_→_ // ∀ x,Le (E x) (R.f98F x)}:=by
 apply Subtype.mk;intro x;unfold R.f98F
 repeat' with_reducible (first|exact @Le.rfl _ (R.f99F _)|apply Le.bind|apply Le.ite|apply Le.some|apply Le.none|apply Le.iter (n:=60)|apply Le.elim|apply Le.agree|intro _)
noncomputable def R.f67B:{E:_→_ // ∀ x,Le (E x) (R.f67F x)}:=by
 apply Subtype.mk;intro x;unfold R.f67F
 repeat' with_reducible (first|exact R.f98B.2 _|apply Le.bind|apply Le.ite|apply Le.some|apply Le.none|apply Le.iter (n:=60)|apply Le.elim|apply Le.agree|intro _)
noncomputable def R.f45B:{E:_→_ // ∀ x,Le (E x) (R.f45F x)}:=by
 apply Subtype.mk;intro x;unfold R.f45F
 repeat' with_reducible (first|exact @Le.rfl _ (R.f66F _)|exact R.f67B.2 _|apply Le.bind|apply Le.ite|apply Le.some|apply Le.none|apply Le.iter (n:=60)|apply Le.elim|apply Le.agree|intro _)
noncomputable def R.f80B:{E:_→_ // ∀ x,Le (E x) (R.f80F x)}:=by
 apply Subtype.mk;intro x;unfold R.f80F
 repeat' with_reducible (first|apply Le.bind|apply Le.ite|apply Le.some|apply Le.none|apply Le.iter (n:=60)|apply Le.elim|apply Le.agree|intro _)
noncomputable def R.f53B:{E:_→_ // ∀ x,Le (E x) (R.f53F x)}:=by
 apply Subtype.mk;intro x;unfold R.f53F
 repeat' with_reducible (first|exact @Le.rfl _ (R.f79F _)|exact R.f80B.2 _|apply Le.bind|apply Le.ite|apply Le.some|apply Le.none|apply Le.iter (n:=60)|apply Le.elim|apply Le.agree|intro _)
noncomputable def R.f71B:{E:_→_ // ∀ x,Le (E x) (R.f71F x)}:=by
 apply Subtype.mk;intro x;unfold R.f71F
 repeat' with_reducible (first|exact R.f53B.2 _|apply Le.bind|apply Le.ite|apply Le.some|apply Le.none|apply Le.iter (n:=60)|apply Le.elim|apply Le.agree|intro _)
noncomputable def R.f100B:{E:_→_ // ∀ x,Le (E x) (R.f100F x)}:=by
 apply Subtype.mk;intro x;unfold R.f100F
 repeat' with_reducible (first|exact @Le.rfl _ (R.f133F _)|exact R.f53B.2 _|apply Le.bind|apply Le.ite|apply Le.some|apply Le.none|apply Le.iter (n:=60)|apply Le.elim|apply Le.agree|intro _)
noncomputable def R.f68B:{E:_→_ // ∀ x,Le (E x) (R.f68F x)}:=by
 apply Subtype.mk;intro x;unfold R.f68F
 repeat' with_reducible (first|exact R.f100B.2 _|exact R.f71B.2 _|apply Le.bind|apply Le.ite|apply Le.some|apply Le.none|apply Le.iter (n:=60)|apply Le.elim|apply Le.agree|intro _)
noncomputable def R.f46B:{E:_→_ // ∀ x,Le (E x) (R.f46F x)}:=by
 apply Subtype.mk;intro x;unfold R.f46F
 repeat' with_reducible (first|exact R.f68B.2 _|apply Le.bind|apply Le.ite|apply Le.some|apply Le.none|apply Le.iter (n:=60)|apply Le.elim|apply Le.agree|intro _)
noncomputable def R.f140B:{E:_→_ // ∀ x,Le (E x) (R.f140F x)}:=by
 apply Subtype.mk;intro x;unfold R.f140F
 repeat' with_reducible (first|exact R.f100B.2 _|exact R.f53B.2 _|exact R.f71B.2 _|apply Le.bind|apply Le.ite|apply Le.some|apply Le.none|apply Le.iter (n:=60)|apply Le.elim|apply Le.agree|intro _)
noncomputable def R.f141B:{E:_→_ // ∀ x,Le (E x) (R.f141F x)}:=by
 apply Subtype.mk;intro x;unfold R.f141F
 repeat' with_reducible (first|exact @Le.rfl _ (R.f167F _)|apply Le.bind|apply Le.ite|apply Le.some|apply Le.none|apply Le.iter (n:=60)|apply Le.elim|apply Le.agree|intro _)
noncomputable def R.f102B:{E:_→_ // ∀ x,Le (E x) (R.f102F x)}:=by
 apply Subtype.mk;intro x;unfold R.f102F
 repeat' with_reducible (first|exact @Le.rfl _ (R.f101F _)|exact @Le.rfl _ (R.f134F _)|exact @Le.rfl _ (R.f135F _)|exact @Le.rfl _ (R.f136F _)|exact @Le.rfl _ (R.f137F _)|exact @Le.rfl _ (R.f138F _)|exact @Le.rfl _ (R.f139F _)|exact R.f140B.2 _|exact R.f141B.2 _|exact @Le.rfl _ (R.f142F _)|apply Le.bind|apply Le.ite|apply Le.some|apply Le.none|apply Le.iter (n:=60)|apply Le.elim|apply Le.agree|intro _)
noncomputable def R.f69B:{E:_→_ // ∀ x,Le (E x) (R.f69F x)}:=by
 apply Subtype.mk;intro x;unfold R.f69F
 repeat' with_reducible (first|exact @Le.rfl _ (R.f101F _)|exact R.f102B.2 _|apply Le.bind|apply Le.ite|apply Le.some|apply Le.none|apply Le.iter (n:=60)|apply Le.elim|apply Le.agree|intro _)
noncomputable def R.f47B:{E:_→_ // ∀ x,Le (E x) (R.f47F x)}:=by
 apply Subtype.mk;intro x;unfold R.f47F
 repeat' with_reducible (first|exact R.f69B.2 _|apply Le.bind|apply Le.ite|apply Le.some|apply Le.none|apply Le.iter (n:=60)|apply Le.elim|apply Le.agree|intro _)
noncomputable def R.s0B:{E:_→_ // ∀ x,Le (E x) (R.s0F x)}:=by
 apply Subtype.mk;intro x;unfold R.s0F
 repeat' with_reducible (first|apply Le.bind|apply Le.ite|apply Le.some|apply Le.none|apply Le.iter (n:=60)|apply Le.elim|apply Le.agree|intro _)
noncomputable def R.f54B:{E:_→_ // ∀ x,Le (E x) (R.f54F x)}:=by
 apply Subtype.mk;intro x;unfold R.f54F
 repeat' with_reducible (first|exact @Le.rfl _ (R.f79F _)|exact R.f80B.2 _|apply Le.bind|apply Le.ite|apply Le.some|apply Le.none|apply Le.iter (n:=60)|apply Le.elim|apply Le.agree|intro _)
noncomputable def R.f70B:{E:_→_ // ∀ x,Le (E x) (R.f70F x)}:=by
 apply Subtype.mk;intro x;unfold R.f70F
 repeat' with_reducible (first|exact R.f54B.2 _|apply Le.bind|apply Le.ite|apply Le.some|apply Le.none|apply Le.iter (n:=60)|apply Le.elim|apply Le.agree|intro _)
noncomputable def R.f72B:{E:_→_ // ∀ x,Le (E x) (R.f72F x)}:=by
 apply Subtype.mk;intro x;unfold R.f72F
 repeat' with_reducible (first|apply Le.bind|apply Le.ite|apply Le.some|apply Le.none|apply Le.iter (n:=60)|apply Le.elim|apply Le.agree|intro _)
noncomputable def R.f73B:{E:_→_ // ∀ x,Le (E x) (R.f73F x)}:=by
 apply Subtype.mk;intro x;unfold R.f73F
 repeat' with_reducible (first|exact @Le.rfl _ (R.f103F _)|exact @Le.rfl _ (R.f104F _)|exact R.f53B.2 _|apply Le.bind|apply Le.ite|apply Le.some|apply Le.none|apply Le.iter (n:=60)|apply Le.elim|apply Le.agree|intro _)
noncomputable def R.f48B:{E:_→_ // ∀ x,Le (E x) (R.f48F x)}:=by
 apply Subtype.mk;intro x;unfold R.f48F
 repeat' with_reducible (first|exact R.f53B.2 _|exact R.f70B.2 _|exact R.f71B.2 _|exact R.f72B.2 _|exact R.f73B.2 _|apply Le.bind|apply Le.ite|apply Le.some|apply Le.none|apply Le.iter (n:=60)|apply Le.elim|apply Le.agree|intro _)
noncomputable def R.s1B:{E:_→_ // ∀ x,Le (E x) (R.s1F x)}:=by
 apply Subtype.mk;intro x;unfold R.s1F
 repeat' with_reducible (first|apply Le.bind|apply Le.ite|apply Le.some|apply Le.none|apply Le.iter (n:=60)|apply Le.elim|apply Le.agree|intro _)
noncomputable def R.f74B:{E:_→_ // ∀ x,Le (E x) (R.f74F x)}:=by
 apply Subtype.mk;intro x;unfold R.f74F
 repeat' with_reducible (first|apply Le.bind|apply Le.ite|apply Le.some|apply Le.none|apply Le.iter (n:=60)|apply Le.elim|apply Le.agree|intro _)
noncomputable def R.f105B:{E:_→_ // ∀ x,Le (E x) (R.f105F x)}:=by
 apply Subtype.mk;intro x;unfold R.f105F
 repeat' with_reducible (first|exact @Le.rfl _ (R.f142F _)|apply Le.bind|apply Le.ite|apply Le.some|apply Le.none|apply Le.iter (n:=60)|apply Le.elim|apply Le.agree|intro _)
noncomputable def R.f143B:{E:_→_ // ∀ x,Le (E x) (R.f143F x)}:=by
 apply Subtype.mk;intro x;unfold R.f143F
 repeat' with_reducible (first|exact R.f53B.2 _|apply Le.bind|apply Le.ite|apply Le.some|apply Le.none|apply Le.iter (n:=60)|apply Le.elim|apply Le.agree|intro _)
noncomputable def R.f169B:{E:_→_ // ∀ x,Le (E x) (R.f169F x)}:=by
 apply Subtype.mk;intro x;unfold R.f169F
 repeat' with_reducible (first|exact @Le.rfl _ (R.f79F _)|exact R.f80B.2 _|apply Le.bind|apply Le.ite|apply Le.some|apply Le.none|apply Le.iter (n:=60)|apply Le.elim|apply Le.agree|intro _)
noncomputable def R.f168B:{E:_→_ // ∀ x,Le (E x) (R.f168F x)}:=by
 apply Subtype.mk;intro x;unfold R.f168F
 repeat' with_reducible (first|exact R.f169B.2 _|exact @Le.rfl _ (R.f170F _)|apply Le.bind|apply Le.ite|apply Le.some|apply Le.none|apply Le.iter (n:=60)|apply Le.elim|apply Le.agree|intro _)
noncomputable def R.f144B:{E:_→_ // ∀ x,Le (E x) (R.f144F x)}:=by
 apply Subtype.mk;intro x;unfold R.f144F
 repeat' with_reducible (first|exact R.f168B.2 _|apply Le.bind|apply Le.ite|apply Le.some|apply Le.none|apply Le.iter (n:=60)|apply Le.elim|apply Le.agree|intro _)
noncomputable def R.f145B:{E:_→_ // ∀ x,Le (E x) (R.f145F x)}:=by
 apply Subtype.mk;intro x;unfold R.f145F
 repeat' with_reducible (first|apply Le.bind|apply Le.ite|apply Le.some|apply Le.none|apply Le.iter (n:=60)|apply Le.elim|apply Le.agree|intro _)
noncomputable def R.f146B:{E:_→_ // ∀ x,Le (E x) (R.f146F x)}:=by
 apply Subtype.mk;intro x;unfold R.f146F
 repeat' with_reducible (first|apply Le.bind|apply Le.ite|apply Le.some|apply Le.none|apply Le.iter (n:=60)|apply Le.elim|apply Le.agree|intro _)
noncomputable def R.f147B:{E:_→_ // ∀ x,Le (E x) (R.f147F x)}:=by
 apply Subtype.mk;intro x;unfold R.f147F
 repeat' with_reducible (first|apply Le.bind|apply Le.ite|apply Le.some|apply Le.none|apply Le.iter (n:=60)|apply Le.elim|apply Le.agree|intro _)
noncomputable def R.f106B:{E:_→_ // ∀ x,Le (E x) (R.f106F x)}:=by
 apply Subtype.mk;intro x;unfold R.f106F
 repeat' with_reducible (first|exact R.f143B.2 _|exact R.f144B.2 _|exact R.f145B.2 _|exact R.f146B.2 _|exact R.f147B.2 _|apply Le.bind|apply Le.ite|apply Le.some|apply Le.none|apply Le.iter (n:=60)|apply Le.elim|apply Le.agree|intro _)
noncomputable def R.f75B:{E:_→_ // ∀ x,Le (E x) (R.f75F x)}:=by
 apply Subtype.mk;intro x;unfold R.f75F
 repeat' with_reducible (first|exact R.f105B.2 _|exact R.f106B.2 _|exact @Le.rfl _ (R.f107F _)|apply Le.bind|apply Le.ite|apply Le.some|apply Le.none|apply Le.iter (n:=60)|apply Le.elim|apply Le.agree|intro _)
noncomputable def R.f49B:{E:_→_ // ∀ x,Le (E x) (R.f49F x)}:=by
 apply Subtype.mk;intro x;unfold R.f49F
 repeat' with_reducible (first|apply Le.bind|apply Le.ite|apply Le.some|apply Le.none|apply Le.iter (n:=60)|apply Le.elim|apply Le.agree|intro _)
noncomputable def R.f175B:{E:_→_ // ∀ x,Le (E x) (R.f175F x)}:=by
 apply Subtype.mk;intro x;unfold R.f175F
 repeat' with_reducible (first|exact @Le.rfl _ (R.f151F _)|apply Le.bind|apply Le.ite|apply Le.some|apply Le.none|apply Le.iter (n:=60)|apply Le.elim|apply Le.agree|intro _)
noncomputable def R.f185B:{E:_→_ // ∀ x,Le (E x) (R.f185F x)}:=by
 apply Subtype.mk;intro x;unfold R.f185F
 repeat' with_reducible (first|exact @Le.rfl _ (R.f151F _)|apply Le.bind|apply Le.ite|apply Le.some|apply Le.none|apply Le.iter (n:=60)|apply Le.elim|apply Le.agree|intro _)
noncomputable def R.f176B:{E:_→_ // ∀ x,Le (E x) (R.f176F x)}:=by
 apply Subtype.mk;intro x;unfold R.f176F
 repeat' with_reducible (first|exact R.f185B.2 _|apply Le.bind|apply Le.ite|apply Le.some|apply Le.none|apply Le.iter (n:=60)|apply Le.elim|apply Le.agree|intro _)
noncomputable def R.f177B:{E:_→_ // ∀ x,Le (E x) (R.f177F x)}:=by
 apply Subtype.mk;intro x;unfold R.f177F
 repeat' with_reducible (first|exact @Le.rfl _ (R.f186F _)|exact @Le.rfl _ (R.f187F _)|apply Le.bind|apply Le.ite|apply Le.some|apply Le.none|apply Le.iter (n:=60)|apply Le.elim|apply Le.agree|intro _)
noncomputable def R.f179B:{E:_→_ // ∀ x,Le (E x) (R.f179F x)}:=by
 apply Subtype.mk;intro x;unfold R.f179F
 repeat' with_reducible (first|apply Le.bind|apply Le.ite|apply Le.some|apply Le.none|apply Le.iter (n:=60)|apply Le.elim|apply Le.agree|intro _)
noncomputable def R.f180B:{E:_→_ // ∀ x,Le (E x) (R.f180F x)}:=by
 apply Subtype.mk;intro x;unfold R.f180F
 repeat' with_reducible (first|exact @Le.rfl _ (R.f151F _)|apply Le.bind|apply Le.ite|apply Le.some|apply Le.none|apply Le.iter (n:=60)|apply Le.elim|apply Le.agree|intro _)
noncomputable def R.f181B:{E:_→_ // ∀ x,Le (E x) (R.f181F x)}:=by
 apply Subtype.mk;intro x;unfold R.f181F
 repeat' with_reducible (first|exact @Le.rfl _ (R.f151F _)|apply Le.bind|apply Le.ite|apply Le.some|apply Le.none|apply Le.iter (n:=60)|apply Le.elim|apply Le.agree|intro _)
noncomputable def R.f182B:{E:_→_ // ∀ x,Le (E x) (R.f182F x)}:=by
 apply Subtype.mk;intro x;unfold R.f182F
 repeat' with_reducible (first|exact @Le.rfl _ (R.f151F _)|apply Le.bind|apply Le.ite|apply Le.some|apply Le.none|apply Le.iter (n:=60)|apply Le.elim|apply Le.agree|intro _)
noncomputable def R.f173SB {r r':Int×Int×Int×List (List Int)→Option (List (List Int))} (hr: ∀ x,Le (r x) (r' x)):{E:_→_ // ∀ x,Le (E x) (R.f173S r' x)}:=by
 apply Subtype.mk;intro x;unfold R.f173S
 repeat' with_reducible (first|exact hr _|exact @Le.rfl _ (R.f151F _)|exact R.f175B.2 _|exact R.f176B.2 _|exact R.f177B.2 _|exact @Le.rfl _ (R.f178F _)|exact R.f179B.2 _|exact R.f180B.2 _|exact R.f181B.2 _|exact R.f182B.2 _|apply Le.bind|apply Le.ite|apply Le.some|apply Le.none|apply Le.iter (n:=60)|apply Le.elim|apply Le.agree|intro _)
noncomputable def R.f173NB:(k m:Nat)→k≤m→{E:_→_ // ∀ x,Le (E x) (R.f173N m x)}
 |0,m,_=>⟨fun _=>none,fun x y hy=>by cases hy⟩
 |k+1,0,h=>absurd h (by omega)
 |k+1,m+1,h=>⟨(R.f173SB (R.f173NB k m (by omega)).2).1,(R.f173SB (R.f173NB k m (by omega)).2).2⟩
noncomputable def R.f173B:{E:_→_ // ∀ x,Le (E x) (R.f173F x)}:=⟨(R.f173NB 60 R.fuel (by decide)).1,(R.f173NB 60 R.fuel (by decide)).2⟩
noncomputable def R.f150B:{E:_→_ // ∀ x,Le (E x) (R.f150F x)}:=by
 apply Subtype.mk;intro x;unfold R.f150F
 repeat' with_reducible (first|exact R.f173B.2 _|exact @Le.rfl _ (R.f174F _)|apply Le.bind|apply Le.ite|apply Le.some|apply Le.none|apply Le.iter (n:=60)|apply Le.elim|apply Le.agree|intro _)
noncomputable def R.f108B:{E:_→_ // ∀ x,Le (E x) (R.f108F x)}:=by
 apply Subtype.mk;intro x;unfold R.f108F
 repeat' with_reducible (first|exact @Le.rfl _ (R.otherF _)|exact @Le.rfl _ (R.f149F _)|exact R.f150B.2 _|apply Le.bind|apply Le.ite|apply Le.some|apply Le.none|apply Le.iter (n:=60)|apply Le.elim|apply Le.agree|intro _)
noncomputable def R.f152B:{E:_→_ // ∀ x,Le (E x) (R.f152F x)}:=by
 apply Subtype.mk;intro x;unfold R.f152F
 repeat' with_reducible (first|exact @Le.rfl _ (R.f155F _)|apply Le.bind|apply Le.ite|apply Le.some|apply Le.none|apply Le.iter (n:=60)|apply Le.elim|apply Le.agree|intro _)
noncomputable def R.f153B:{E:_→_ // ∀ x,Le (E x) (R.f153F x)}:=by
 apply Subtype.mk;intro x;unfold R.f153F
 repeat' with_reducible (first|exact @Le.rfl _ (R.f155F _)|apply Le.bind|apply Le.ite|apply Le.some|apply Le.none|apply Le.iter (n:=60)|apply Le.elim|apply Le.agree|intro _)
noncomputable def R.f109B:{E:_→_ // ∀ x,Le (E x) (R.f109F x)}:=by
 apply Subtype.mk;intro x;unfold R.f109F
 repeat' with_reducible (first|exact R.f152B.2 _|exact R.f153B.2 _|apply Le.bind|apply Le.ite|apply Le.some|apply Le.none|apply Le.iter (n:=60)|apply Le.elim|apply Le.agree|intro _)
noncomputable def R.f110B:{E:_→_ // ∀ x,Le (E x) (R.f110F x)}:=by
 apply Subtype.mk;intro x;unfold R.f110F
 repeat' with_reducible (first|apply Le.bind|apply Le.ite|apply Le.some|apply Le.none|apply Le.iter (n:=60)|apply Le.elim|apply Le.agree|intro _)
noncomputable def R.f76B:{E:_→_ // ∀ x,Le (E x) (R.f76F x)}:=by
 apply Subtype.mk;intro x;unfold R.f76F
 repeat' with_reducible (first|exact @Le.rfl _ (R.f104F _)|exact R.f108B.2 _|exact R.f109B.2 _|exact R.f110B.2 _|exact R.f49B.2 _|apply Le.bind|apply Le.ite|apply Le.some|apply Le.none|apply Le.iter (n:=60)|apply Le.elim|apply Le.agree|intro _)
noncomputable def R.f154B:{E:_→_ // ∀ x,Le (E x) (R.f154F x)}:=by
 apply Subtype.mk;intro x;unfold R.f154F
 repeat' with_reducible (first|exact @Le.rfl _ (R.f79F _)|exact R.f80B.2 _|apply Le.bind|apply Le.ite|apply Le.some|apply Le.none|apply Le.iter (n:=60)|apply Le.elim|apply Le.agree|intro _)
noncomputable def R.f111B:{E:_→_ // ∀ x,Le (E x) (R.f111F x)}:=by
 apply Subtype.mk;intro x;unfold R.f111F
 repeat' with_reducible (first|exact R.f154B.2 _|apply Le.bind|apply Le.ite|apply Le.some|apply Le.none|apply Le.iter (n:=60)|apply Le.elim|apply Le.agree|intro _)
noncomputable def R.f77B:{E:_→_ // ∀ x,Le (E x) (R.f77F x)}:=by
 apply Subtype.mk;intro x;unfold R.f77F
 repeat' with_reducible (first|exact @Le.rfl _ (R.f104F _)|exact R.f111B.2 _|exact @Le.rfl _ (R.f112F _)|exact R.f49B.2 _|apply Le.bind|apply Le.ite|apply Le.some|apply Le.none|apply Le.iter (n:=60)|apply Le.elim|apply Le.agree|intro _)
noncomputable def R.f78B:{E:_→_ // ∀ x,Le (E x) (R.f78F x)}:=by
 apply Subtype.mk;intro x;unfold R.f78F
 repeat' with_reducible (first|exact @Le.rfl _ (R.f113F _)|apply Le.bind|apply Le.ite|apply Le.some|apply Le.none|apply Le.iter (n:=60)|apply Le.elim|apply Le.agree|intro _)
noncomputable def R.f50B:{E:_→_ // ∀ x,Le (E x) (R.f50F x)}:=by
 apply Subtype.mk;intro x;unfold R.f50F
 repeat' with_reducible (first|exact R.f74B.2 _|exact R.f75B.2 _|exact R.f76B.2 _|exact R.f77B.2 _|exact R.f78B.2 _|exact R.s1B.2 _|apply Le.bind|apply Le.ite|apply Le.some|apply Le.none|apply Le.iter (n:=60)|apply Le.elim|apply Le.agree|intro _)
noncomputable def R.f51B:{E:_→_ // ∀ x,Le (E x) (R.f51F x)}:=by
 apply Subtype.mk;intro x;unfold R.f51F
 repeat' with_reducible (first|exact R.f54B.2 _|apply Le.bind|apply Le.ite|apply Le.some|apply Le.none|apply Le.iter (n:=60)|apply Le.elim|apply Le.agree|intro _)
noncomputable def R.f36B:{E:_→_ // ∀ x,Le (E x) (R.f36F x)}:=by
 apply Subtype.mk;intro x;unfold R.f36F
 repeat' with_reducible (first|exact R.f45B.2 _|exact R.f46B.2 _|exact R.f47B.2 _|exact R.f48B.2 _|exact R.f50B.2 _|exact R.f51B.2 _|exact R.s0B.2 _|apply Le.bind|apply Le.ite|apply Le.some|apply Le.none|apply Le.iter (n:=60)|apply Le.elim|apply Le.agree|intro _)
noncomputable def R.f25B:{E:_→_ // ∀ x,Le (E x) (R.f25F x)}:=by
 apply Subtype.mk;intro x;unfold R.f25F
 repeat' with_reducible (first|exact R.f36B.2 _|apply Le.bind|apply Le.ite|apply Le.some|apply Le.none|apply Le.iter (n:=60)|apply Le.elim|apply Le.agree|intro _)
noncomputable def R.f52B:{E:_→_ // ∀ x,Le (E x) (R.f52F x)}:=by
 apply Subtype.mk;intro x;unfold R.f52F
 repeat' with_reducible (first|exact @Le.rfl _ (R.f66F _)|exact R.f67B.2 _|apply Le.bind|apply Le.ite|apply Le.some|apply Le.none|apply Le.iter (n:=60)|apply Le.elim|apply Le.agree|intro _)
noncomputable def R.f37B:{E:_→_ // ∀ x,Le (E x) (R.f37F x)}:=by
 apply Subtype.mk;intro x;unfold R.f37F
 repeat' with_reducible (first|exact R.f52B.2 _|exact R.f53B.2 _|exact R.f54B.2 _|apply Le.bind|apply Le.ite|apply Le.some|apply Le.none|apply Le.iter (n:=60)|apply Le.elim|apply Le.agree|intro _)
noncomputable def R.f56B:{E:_→_ // ∀ x,Le (E x) (R.f56F x)}:=by
 apply Subtype.mk;intro x;unfold R.f56F
 repeat' with_reducible (first|exact R.f53B.2 _|exact R.f54B.2 _|apply Le.bind|apply Le.ite|apply Le.some|apply Le.none|apply Le.iter (n:=60)|apply Le.elim|apply Le.agree|intro _)
noncomputable def R.f40B:{E:_→_ // ∀ x,Le (E x) (R.f40F x)}:=by
 apply Subtype.mk;intro x;unfold R.f40F
 repeat' with_reducible (first|exact R.f49B.2 _|exact R.f52B.2 _|exact R.f56B.2 _|apply Le.bind|apply Le.ite|apply Le.some|apply Le.none|apply Le.iter (n:=60)|apply Le.elim|apply Le.agree|intro _)
noncomputable def R.f81B:{E:_→_ // ∀ x,Le (E x) (R.f81F x)}:=by
 apply Subtype.mk;intro x;unfold R.f81F
 repeat' with_reducible (first|apply Le.bind|apply Le.ite|apply Le.some|apply Le.none|apply Le.iter (n:=60)|apply Le.elim|apply Le.agree|intro _)
noncomputable def R.f55SB {r r':List Int×List Int×Int→Option (List Int)} (hr: ∀ x,Le (r x) (r' x)):{E:_→_ // ∀ x,Le (E x) (R.f55S r' x)}:=by
 apply Subtype.mk;intro x;unfold R.f55S
 repeat' with_reducible (first|exact hr _|exact R.f81B.2 _|apply Le.bind|apply Le.ite|apply Le.some|apply Le.none|apply Le.iter (n:=60)|apply Le.elim|apply Le.agree|intro _)
noncomputable def R.f55NB:(k m:Nat)→k≤m→{E:_→_ // ∀ x,Le (E x) (R.f55N m x)}
 |0,m,_=>⟨fun _=>none,fun x y hy=>by cases hy⟩
 |k+1,0,h=>absurd h (by omega)
 |k+1,m+1,h=>⟨(R.f55SB (R.f55NB k m (by omega)).2).1,(R.f55SB (R.f55NB k m (by omega)).2).2⟩
noncomputable def R.f55B:{E:_→_ // ∀ x,Le (E x) (R.f55F x)}:=⟨(R.f55NB 60 R.fuel (by decide)).1,(R.f55NB 60 R.fuel (by decide)).2⟩
noncomputable def R.f39B:{E:_→_ // ∀ x,Le (E x) (R.f39F x)}:=by
 apply Subtype.mk;intro x;unfold R.f39F
 repeat' with_reducible (first|exact R.f55B.2 _|apply Le.bind|apply Le.ite|apply Le.some|apply Le.none|apply Le.iter (n:=60)|apply Le.elim|apply Le.agree|intro _)
noncomputable def R.f38B:{E:_→_ // ∀ x,Le (E x) (R.f38F x)}:=by
 apply Subtype.mk;intro x;unfold R.f38F
 repeat' with_reducible (first|apply Le.bind|apply Le.ite|apply Le.some|apply Le.none|apply Le.iter (n:=60)|apply Le.elim|apply Le.agree|intro _)
noncomputable def R.f26B:{E:_→_ // ∀ x,Le (E x) (R.f26F x)}:=by
 apply Subtype.mk;intro x;unfold R.f26F
 repeat' with_reducible (first|exact R.f37B.2 _|exact R.f38B.2 _|exact R.f39B.2 _|exact R.f40B.2 _|apply Le.bind|apply Le.ite|apply Le.some|apply Le.none|apply Le.iter (n:=60)|apply Le.elim|apply Le.agree|intro _)
noncomputable def R.f10B:{E:_→_ // ∀ x,Le (E x) (R.f10F x)}:=by
 apply Subtype.mk;intro x;unfold R.f10F
 repeat' with_reducible (first|exact R.f24B.2 _|exact R.f25B.2 _|exact R.f26B.2 _|apply Le.bind|apply Le.ite|apply Le.some|apply Le.none|apply Le.iter (n:=60)|apply Le.elim|apply Le.agree|intro _)
noncomputable def R.f14B:{E:_→_ // ∀ x,Le (E x) (R.f14F x)}:=by
 apply Subtype.mk;intro x;unfold R.f14F
 repeat' with_reducible (first|exact @Le.rfl _ (R.f31F _)|apply Le.bind|apply Le.ite|apply Le.some|apply Le.none|apply Le.iter (n:=60)|apply Le.elim|apply Le.agree|intro _)
noncomputable def R.f32B:{E:_→_ // ∀ x,Le (E x) (R.f32F x)}:=by
 apply Subtype.mk;intro x;unfold R.f32F
 repeat' with_reducible (first|apply Le.bind|apply Le.ite|apply Le.some|apply Le.none|apply Le.iter (n:=60)|apply Le.elim|apply Le.agree|intro _)
noncomputable def R.f16B:{E:_→_ // ∀ x,Le (E x) (R.f16F x)}:=by
 apply Subtype.mk;intro x;unfold R.f16F
 repeat' with_reducible (first|exact R.f32B.2 _|apply Le.bind|apply Le.ite|apply Le.some|apply Le.none|apply Le.iter (n:=60)|apply Le.elim|apply Le.agree|intro _)
noncomputable def R.f23B:{E:_→_ // ∀ x,Le (E x) (R.f23F x)}:=by
 apply Subtype.mk;intro x;unfold R.f23F
 repeat' with_reducible (first|apply Le.bind|apply Le.ite|apply Le.some|apply Le.none|apply Le.iter (n:=60)|apply Le.elim|apply Le.agree|intro _)
noncomputable def R.f19B:{E:_→_ // ∀ x,Le (E x) (R.f19F x)}:=by
 apply Subtype.mk;intro x;unfold R.f19F
 repeat' with_reducible (first|apply Le.bind|apply Le.ite|apply Le.some|apply Le.none|apply Le.iter (n:=60)|apply Le.elim|apply Le.agree|intro _)
noncomputable def R.f9B:{E:_→_ // ∀ x,Le (E x) (R.f9F x)}:=by
 apply Subtype.mk;intro x;unfold R.f9F
 repeat' with_reducible (first|exact R.f10B.2 _|exact R.f14B.2 _|exact R.f16B.2 _|exact R.f19B.2 _|exact R.f23B.2 _|apply Le.bind|apply Le.ite|apply Le.some|apply Le.none|apply Le.iter (n:=60)|apply Le.elim|apply Le.agree|intro _)
theorem zx7:R.f9F ()=some true:=R.f9B.2 () true (by decide+kernel)
end Go.Sx
