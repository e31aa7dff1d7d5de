import Derived.Test.YtjmdfkcgglidaaaDoorSxU2
set_option linter.unusedVariables false
set_option linter.unusedSimpArgs false
namespace Go.Sx
def ints (rs : List Nat) : List Int := (rs.map fun (j : Nat) => (j : Int)).reverse
theorem ints_len (rs : List Nat) : (ints rs).length = rs.length := by simp [ints]
theorem ints_cons (rs : List Nat) (r : Nat) : ints (r :: rs) = ints rs ++ [(r : Int)] := by simp [ints]
theorem take_last (rs : List Nat) (r : Nat) : (ints (r :: rs)).take rs.length = ints rs := by
  rw [ints_cons, List.take_left' (ints_len rs)]
theorem get_last (rs : List Nat) (r : Nat) : (ints (r :: rs)).getD rs.length 0 = (r : Int) := by
  rw [ints_cons, List.getD_eq_getElem?_getD, List.getElem?_append_right (by rw [ints_len]; omega), ints_len]
  simp
theorem f14_ok (l : List Int) (hl : l.length ≤ 100000) : ∃ m, G.f14F l = some m ∧ IsMatch l m := by
  unfold G.f14F
  rw [if_pos (by refine ⟨by omega, Int.le_refl _, ?_⟩; unfold roomOk; simp; omega)]
  refine bind_ex (iter_rule (I := fun s => ∃ (k : Nat) (m : List Int) (rs : List Nat), s = ((k : Int), m, ints rs) ∧ MInv l k m rs) (Q := fun m => IsMatch l m)
    (fun s => (l.length - s.1).toNat) ?_ _ ?_) fun m hm => ⟨m, rfl, hm⟩
  · rintro _ ⟨k, m, rs, rfl, h⟩
    have hle := h.le
    dsimp only
    by_cases hk : k < l.length
    · have hk' : (k : Int) < l.length := by omega
      have hb : (0 : Int) ≤ k ∧ (k : Int) < l.length := ⟨by omega, hk'⟩
      have hbm : (0 : Int) ≤ k ∧ (k : Int) < m.length := ⟨by omega, by rw [h.len]; exact hk'⟩
      have hget : l.getD k 0 = l[k] := by simp [List.getD_eq_getElem?_getD, hk]
      have hwr : IntKind.i64.wrap ((k : Int) + 1) = ((k + 1 : Nat) : Int) := by rw [wrap_i64 (by omega) (by omega)]; rfl
      have hrs : rs.length ≤ l.length := by
        have := h.nd
        have hsub : ∀ x ∈ rs, x ∈ List.range l.length := by
          intro x hx
          obtain ⟨t, ht, rfl⟩ := List.mem_iff_getElem.1 hx
          obtain ⟨_, ⟨hj, _⟩, _⟩ := h.st t ht
          exact List.mem_range.2 hj
        have := this.length_le_of_subset hsub
        simpa using this
      simp only [hk', decide_true, if_true, hb, hbm, and_self, hget, hwr, f32_eq, Option.bind_some, Int.toNat_natCast]
      by_cases h10 : l[k] = 10
      · simp only [h10, beq_self_eq_true, if_true]
        exact .inl ⟨_, rfl, ⟨k + 1, _, [], rfl, h.onB hk h10⟩, by simp; omega⟩
      · simp only [show (l[k] == (10 : Int)) = false by simpa using h10, Bool.false_eq_true, if_false]
        cases ho : opens l[k] with
        | true =>
          simp only [if_true]
          rw [if_pos (by unfold roomOk; simp [ints_len]; omega)]
          exact .inl ⟨_, rfl, ⟨k + 1, _, k :: rs, by rw [ints_cons], h.onOpen hk ho⟩, by simp; omega⟩
        | false =>
          simp only [Bool.false_eq_true, if_false]
          by_cases h22 : l[k] = 22
          · simp only [h22, beq_self_eq_true, if_true, Option.bind_some]
            cases rs with
            | nil =>
              rw [if_neg (by simp [ints])]
              exact .inl ⟨_, rfl, ⟨k + 1, _, [], rfl, h.onElse hk h10 ho (fun _ => rfl)⟩, by simp; omega⟩
            | cons r rs =>
              have hlen : ((ints (r :: rs)).length : Int) = (rs.length : Int) + 1 := by rw [ints_len]; simp
              have hlr : rs.length < l.length := by simp at hrs; omega
              have hw2 : IntKind.i64.wrap (((ints (r :: rs)).length : Int) - 1) = (rs.length : Int) := by rw [hlen, wrap_i64 (by omega) (by omega)]; omega
              rw [if_pos (by rw [hlen]; simp <;> omega)]
              simp only [hw2, Int.toNat_natCast]
              have hlast := get_last rs r
              obtain ⟨hr1, _, _⟩ := h.st 0 (by simp)
              have hr1' : r < k := hr1
              rw [if_pos ⟨by omega, by rw [hlen]; omega⟩, if_pos ⟨by omega, by rw [hlen]; omega⟩, if_pos ⟨trivial, by rw [List.length_set]; exact hbm.2⟩]
              simp only [hlast, Int.toNat_natCast]
              rw [if_pos (by simp only [List.length_set, h.len]; omega)]
              refine .inl ⟨_, rfl, ⟨k + 1, _, rs, by rw [take_last], h.onPop hk h22⟩, by simp; omega⟩
          · simp only [show (l[k] == (22 : Int)) = false by simpa using h22, Bool.false_eq_true, if_false, Option.bind_some]
            exact .inl ⟨_, rfl, ⟨k + 1, _, rs, rfl, h.onElse hk h10 ho (fun e => absurd e h22)⟩, by simp; omega⟩
    · have : k = l.length := by omega
      subst this
      right
      simp only [show ¬ ((l.length : Int) < l.length) by omega, decide_false, Bool.false_eq_true, if_false]
      exact ⟨m, rfl, h.done⟩
  · refine ⟨0, _, [], rfl, ?_⟩
    exact { le := Nat.zero_le _, len := by simp, st := fun t ht => by simp at ht, nd := List.nodup_nil, opIn := fun j _ hj => by omega, opOut := fun j _ hj => by omega, no := fun j _ hj => by omega }
end Go.Sx
