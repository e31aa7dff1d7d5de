import Derived.Test.YtjmdfkcgglidaaaDoorSxW4
set_option linter.unusedVariables false
set_option linter.unusedSimpArgs false
namespace Go.Sx

def St.init (b : Int) : St := ⟨b, 0, 0, 0, 1, [(b, -1, false)], [], []⟩
def runS (l : List Int) (b : Int) (n : Nat) : St := (List.range n).foldl (fun s i => s.step l i) (St.init b)

theorem runS_succ (l : List Int) (b : Int) (n : Nat) : runS l b (n + 1) = (runS l b n).step l n := by
  unfold runS
  rw [List.range_succ, List.foldl_append]
  rfl

theorem runS_inv {b : Int} (hb : b = 0 ∨ b = 1) (l : List Int) : ∀ n, SInv n n (runS l b n)
  | 0 => {
    lev := fun e he => by
      simp only [runS, List.range_zero, List.foldl_nil, St.init, List.mem_singleton] at he
      subst he; simp only; omega
    ov := fun e he => by
      simp only [runS, List.range_zero, List.foldl_nil, St.init, List.mem_singleton] at he
      subst he; exact .inl rfl
    len := by simp [runS, St.init]
    li0 := Int.le_refl 0
    li1 := Int.le_refl 0
    le0 := Int.le_refl 0
    le1 := Int.le_refl 0
    vn := rfl
    lv := Nat.le_refl 0
    cl := Nat.le_refl 0
    base := hb
    bot := ⟨[], rfl⟩
    m0 := by simp [runS, St.init]
    m1 := by simp [runS, St.init] }
  | n + 1 => by
    rw [runS_succ]
    exact (runS_inv hb l n).step l n

def baseOf (n : Int) : Int := if n = 0 then 0 else 1
theorem baseOf_or (n : Int) : baseOf n = 0 ∨ baseOf n = 1 := by unfold baseOf; split <;> simp

theorem f35_eq {l : List Int} (hl : l.length ≤ 99000) (n : Int) : G.f35F (l, n) = some (pt (runS l (baseOf n) l.length)) := by
  unfold G.f35F
  have e0 : (if (n != (0 : Int)) = true then some ((1 : Int), (0 : Int), (0 : Int), (0 : Int), (0 : Int), ([] : List Ent), ([] : List Int), ([] : List Int)) else some ((0 : Int), (0 : Int), (0 : Int), (0 : Int), (0 : Int), [], [], [])) = some (pt ⟨baseOf n, 0, 0, 0, 0, [], [], []⟩) := by
    unfold baseOf
    by_cases h : n = 0
    · rw [if_neg (by simpa using h), if_pos h]; rfl
    · rw [if_pos (by simpa using h), if_neg h]; rfl
  simp only []
  rw [e0]
  have e40 := f40_eq ⟨baseOf n, 0, 0, 0, 0, [], [], []⟩
  simp only [pt] at e40
  simp only [Option.bind_some, pt, e40]
  have hinit : (St.mk (baseOf n) 0 0 0 0 [] [] []).reset = runS l (baseOf n) 0 := rfl
  rw [hinit]
  suffices h : ∃ e, iter _ _ = some e ∧ e = pt (runS l (baseOf n) l.length) by
    obtain ⟨e, h1, rfl⟩ := h
    rw [h1]
    rfl
  refine iter_rule (I := fun s => ∃ i : Nat, i ≤ l.length ∧ s = ((i : Int), pt (runS l (baseOf n) i))) (fun s => (l.length - s.1).toNat) ?_ _ ⟨0, Nat.zero_le _, rfl⟩
  rintro _ ⟨i, hi, rfl⟩
  dsimp only
  by_cases h : i < l.length
  · rw [if_pos (by rw [decide_eq_true_eq]; omega)]
    have e41 := f41_eq (runS_inv (baseOf_or n) l i) (by omega) (show l.length ≤ 100000 by omega) h
    simp only [pt] at e41
    simp only [e41, Option.bind_some]
    refine .inl ⟨_, rfl, ⟨i + 1, h, ?_⟩, ?_⟩
    · rw [runS_succ, wrap_i64 (by omega) (by omega)]
      rfl
    · simp only []
      rw [wrap_i64 (by omega) (by omega)]
      omega
  · have : i = l.length := by omega
    subst this
    rw [if_neg (by rw [decide_eq_true_eq]; omega)]
    exact .inr ⟨_, rfl, rfl⟩

theorem f24_eq {l : List Int} (hl : l.length ≤ 99000) (n : Int) : G.f24F (l, n) = some ((runS l (baseOf n) l.length).lv, (runS l (baseOf n) l.length).cl) := by
  unfold G.f24F
  simp only [f35_eq hl, Option.bind_some]

theorem f26_eq {l : List Int} (hl : l.length ≤ 99000) (n : Int) : G.f26F (l, n) = some (runS l (baseOf n) l.length).most := by
  unfold G.f26F
  simp only [f35_eq hl, Option.bind_some]
end Go.Sx
