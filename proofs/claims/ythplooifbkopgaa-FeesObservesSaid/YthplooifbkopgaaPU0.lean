/- Rows in a row, first places, lists changed place by place. Nothing of the program is in here. -/
import Derived.Test.YthplooifbkopgaaP1
namespace Go.Proofs.Ythplooifbkopgaa
set_option linter.unusedVariables false
set_option linter.unusedSimpArgs false
theorem flat_takes {sz : Nat} : ∀ {es : List (List V)}, (∀ e ∈ es, e.length = sz) → ∀ (i : Nat), es.flatten.take (i * sz) = (es.take i).flatten
  | [], _, i => by simp
  | e :: es, h, 0 => by simp
  | e :: es, h, i + 1 => by
    have he := h e (by simp)
    have := flat_takes (es := es) (fun x hx => h x (by simp [hx])) i
    rw [List.flatten_cons, List.take_succ_cons, List.flatten_cons, ← this, show (i + 1) * sz = sz + i * sz by rw [Nat.add_mul]; omega, ← he, List.take_append, List.take_of_length_le (by omega)]
    congr 2; omega
theorem chunks_takes {sz : Nat} {es : List (List V)} (h : ∀ e ∈ es, e.length = sz) {w : Nat} (hw : w ≤ es.length) : chunks sz w es.flatten = es.take w := by
  induction w generalizing es with
  | zero => simp [chunks]
  | succ w ih =>
    cases es with
    | nil => simp at hw
    | cons e es =>
      have he := h e (by simp)
      have := ih (es := es) (fun x hx => h x (by simp [hx])) (by simpa using hw)
      simp only [chunks, List.flatten_cons, List.take_succ_cons]
      rw [List.take_append_of_le_length (by omega), List.take_of_length_le (by omega), List.drop_append_of_le_length (by omega), List.drop_of_length_le (by omega), List.nil_append, this]
/-- the first place of which something holds, -1 if there is none -/
def fidx {α : Type} (p : α → Bool) : List α → Nat → Int
  | [], _ => -1
  | x :: l, i => if p x = true then (i : Int) else fidx p l (i + 1)
theorem fidx_spec {α : Type} (p : α → Bool) : ∀ (l : List α) (a : Nat), (fidx p l a = -1 ∧ ∀ x ∈ l, p x = false) ∨ ∃ (i : Nat), ∃ h : i < l.length, fidx p l a = ((a + i : Nat) : Int) ∧ (∀ x ∈ l.take i, p x = false) ∧ p l[i] = true
  | [], a => .inl ⟨rfl, by simp⟩
  | x :: l, a => by
    by_cases hx : p x = true
    · exact .inr ⟨0, by simp, by simp [fidx, hx], by simp, by simpa using hx⟩
    · have hx' : p x = false := by simpa using hx
      rcases fidx_spec p l (a + 1) with ⟨h1, h2⟩ | ⟨i, hi, h1, h2, h3⟩
      · refine .inl ⟨by simp [fidx, hx', h1], ?_⟩
        intro y hy
        rcases List.mem_cons.1 hy with rfl | hy
        · exact hx'
        · exact h2 y hy
      · refine .inr ⟨i + 1, by simpa using hi, ?_, ?_, by simpa using h3⟩
        · simp only [fidx, hx', h1]; simp; omega
        · intro y hy
          simp only [List.take_succ_cons, List.mem_cons] at hy
          rcases hy with rfl | hy
          · exact hx'
          · exact h2 y hy
theorem fidx_ge {α : Type} (p : α → Bool) (l : List α) (a : Nat) : decide (fidx p l a ≥ 0) = l.any p := by
  rcases fidx_spec p l a with ⟨h1, h2⟩ | ⟨i, hi, h1, h2, h3⟩
  · rw [h1]
    have : l.any p = false := by
      rw [List.any_eq_false]
      intro x hx; rw [h2 x hx]; simp
    rw [this]; rfl
  · rw [h1]
    have : l.any p = true := List.any_eq_true.2 ⟨_, List.getElem_mem hi, h3⟩
    rw [this]
    exact decide_eq_true (by omega)
theorem set_take {α : Type} {l : List α} {i : Nat} (h : i < l.length) (x : α) : (l.set i x).take (i + 1) = l.take i ++ [x] := by
  rw [List.take_add_one, List.take_set_of_le (Nat.le_refl _)]
  simp [h]
theorem set_drop {α : Type} {l : List α} {i k : Nat} (h : i < k) (x : α) : (l.set i x).drop k = l.drop k := List.drop_set_of_lt h
theorem step_eq {α β : Type} {l : List α} {i : Nat} (h : i < l.length) (g : α → β) (a : List β) : a ++ [g l[i]] ++ (l.drop (i + 1)).map g = a ++ (l.drop i).map g := by
  rw [List.drop_eq_getElem_cons h, List.map_cons, List.append_assoc]; rfl
theorem wrap_succ {i : Nat} (h : i ≤ 1000000000) : IntKind.wrap .i64 ((i : Int) + 1) = ((i + 1 : Nat) : Int) := by
  rw [wrap_i64 (by omega) (by omega)]; omega
end Go.Proofs.Ythplooifbkopgaa
