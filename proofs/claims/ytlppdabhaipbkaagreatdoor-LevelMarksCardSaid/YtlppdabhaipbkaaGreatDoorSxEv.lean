/- What a bounded run tells, the unbounded one tells. -/
import Derived.Test.YtlppdabhaipbkaaGreatDoorSxS
set_option linter.unusedVariables false
set_option linter.unusedSimpArgs false
namespace Go.Sx
def Le {α:Type} (a b:Option α):Prop:= ∀ y,a=some y→b=some y
def z0c {S E:Type} (n:Nat) (f:S→Option (S ⊕ E)) (s:S):Option E:=xh f n s
theorem Le.rfl {α:Type} {a:Option α}:Le a a:=fun _ h=>h
theorem Le.some {α:Type} {a:α}:Le (some a) (some a):=fun _ h=>h
theorem Le.none {α:Type}:Le (none:Option α) none:=fun _ h=>nomatch h
theorem Le.bind {α β:Type} {a a':Option α} {k k':α→Option β} (h:Le a a') (hk: ∀ x,Le (k x) (k' x)):Le (a.bind k) (a'.bind k'):=by
 intro y hy
 cases ha:a with
 |none=>rw[ha] at hy;cases hy
 |some x=>
  rw[ha] at hy
  rw[h x ha]
  exact hk x y hy
theorem Le.ite {α:Type} {c:Prop} [Decidable c] {a a' b b':Option α} (h:Le a a') (k:Le b b'):Le (if c then a else b) (if c then a' else b'):=by
 split
 ·exact h
 ·exact k
theorem Le.elim {α β γ:Type} {f f':α→Option γ} {g g':β→Option γ} {x:α ⊕ β} (h: ∀ a,Le (f a) (f' a)) (k: ∀ b,Le (g b) (g' b)):Le (Sum.elim f g x) (Sum.elim f' g' x):=by
 cases x with
 |inl a=>exact h a
 |inr b=>exact k b
theorem Le.iter {S E:Type} {n:Nat} {f g:S→Option (S ⊕ E)} {s:S} (h: ∀ s,Le (f s) (g s)):Le (z0c n f s) (iter g s):=by
 intro y hy
 unfold z0c at hy
 refine qp (n:=n) ?_
 induction n generalizing s with
 |zero=>cases hy
 |succ n ih=>
  unfold xh at hy ⊢
  cases hf:f s with
  |none=>rw[hf] at hy;cases hy
  |some r=>
   rw[hf] at hy
   rw[h s r hf]
   cases r with
   |inl s'=>exact ih hy
   |inr e=>exact hy
def zxf {R:Type} [DecidableEq R] (x y:Option R):Option R:=if x=y then x else none
theorem Le.agree {R:Type} [DecidableEq R] {x y x' y':Option R} (h:Le x x') (k:Le y y'):Le (zxf x y) (Go.Sx.agree x' y'):=by
 intro r hr
 unfold zxf at hr
 split at hr
 ·rename_i e
  have h1:=h r hr
  have h2:=k r (e▸hr)
  unfold Go.Sx.agree
  rw[h1,h2,if_pos (by rfl)]
 ·cases hr
end Go.Sx
