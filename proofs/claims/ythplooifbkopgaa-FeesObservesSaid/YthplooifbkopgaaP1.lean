/- Rows of rows, and the deck of numbers. -/
import Derived.Test.YthplooifbkopgaaP0
namespace Go.Proofs.Ythplooifbkopgaa
set_option linter.unusedVariables false
set_option linter.unusedSimpArgs false
theorem setAt_all {cs new : List V} (h : new.length = cs.length) : setAt cs 0 new = new := by
  simp [setAt, h]
theorem setAt_len {cs new : List V} {off : Nat} (h : off + new.length ≤ cs.length) : (setAt cs off new).length = cs.length := by
  simp [setAt]; omega
theorem setAt_one {cs : List V} {off : Nat} {v : V} (h : off < cs.length) : setAt cs off [v] = cs.set off v := by
  simp only [setAt, List.length_singleton]
  rw [List.set_eq_take_append_cons_drop, if_pos h]
  simp
theorem chunks_flat {sz : Nat} : ∀ {es : List (List V)}, (∀ e ∈ es, e.length = sz) → chunks sz es.length es.flatten = es
  | [], _ => rfl
  | e :: es, h => by
    have he := h e (by simp)
    have := chunks_flat (es := es) (fun x hx => h x (by simp [hx]))
    simp only [List.length_cons, chunks, List.flatten_cons]
    rw [List.take_append_of_le_length (by omega), List.take_of_length_le (by omega), List.drop_append_of_le_length (by omega), List.drop_of_length_le (by omega), List.nil_append, this]
theorem flat_len {sz : Nat} {es : List (List V)} (h : ∀ e ∈ es, e.length = sz) : es.flatten.length = es.length * sz := flatten_len h
theorem flat_get {sz : Nat} (hs : 0 < sz) {es : List (List V)} (h : ∀ e ∈ es, e.length = sz) {i j : Nat} (hj : j < sz) {e : List V} (he : es[i]? = some e) : es.flatten[i * sz + j]? = e[j]? := by
  rw [rows_get es h hs]
  have e1 : (i * sz + j) / sz = i := by rw [Nat.mul_comm, Nat.mul_add_div hs, Nat.div_eq_of_lt hj, Nat.add_zero]
  have e2 : (i * sz + j) % sz = j := by rw [Nat.mul_comm, Nat.mul_add_mod, Nat.mod_eq_of_lt hj]
  rw [e1, e2, he]; rfl
theorem flat_drop {sz : Nat} : ∀ {es : List (List V)}, (∀ e ∈ es, e.length = sz) → ∀ (i : Nat), es.flatten.drop (i * sz) = (es.drop i).flatten
  | [], _, i => by simp
  | e :: es, h, 0 => by simp
  | e :: es, h, i + 1 => by
    have he := h e (by simp)
    have := flat_drop (es := es) (fun x hx => h x (by simp [hx])) i
    have e1 : (e ++ es.flatten).drop sz = es.flatten := by rw [List.drop_append_of_le_length (by omega), List.drop_of_length_le (by omega), List.nil_append]
    rw [List.flatten_cons, List.drop_succ_cons, ← this, show (i + 1) * sz = sz + i * sz by rw [Nat.add_mul]; omega, ← List.drop_drop, e1]
theorem flat_take {sz n : Nat} {es : List (List V)} (h : ∀ e ∈ es, e.length = sz) (hn : n ≤ sz) {i : Nat} {e : List V} (he : es[i]? = some e) : (es.flatten.drop (i * sz)).take n = e.take n := by
  rw [flat_drop h]
  obtain ⟨hi, rfl⟩ := List.getElem?_eq_some_iff.1 he
  rw [List.drop_eq_getElem_cons hi, List.flatten_cons, List.take_append_of_le_length (by rw [h _ (List.getElem_mem hi)]; exact hn)]
theorem flat_set {sz : Nat} (hs : 0 < sz) {es : List (List V)} (h : ∀ e ∈ es, e.length = sz) {i j : Nat} (hj : j < sz) {e : List V} (he : es[i]? = some e) (v : V) : setAt es.flatten (i * sz + j) [v] = (es.set i (e.set j v)).flatten := by
  obtain ⟨hi, rfl⟩ := List.getElem?_eq_some_iff.1 he
  have hlt : i * sz + j < es.flatten.length := by
    rw [flat_len h]
    have : (i + 1) * sz ≤ es.length * sz := Nat.mul_le_mul_right _ hi
    rw [Nat.add_mul] at this; omega
  rw [setAt_one hlt]
  have h' : ∀ x ∈ es.set i (es[i].set j v), x.length = sz := by
    intro x hx
    rcases List.mem_or_eq_of_mem_set hx with hx | rfl
    · exact h x hx
    · rw [List.length_set]; exact h _ (List.getElem_mem hi)
  apply List.ext_getElem?
  intro q
  rw [List.getElem?_set, rows_get _ h' hs, rows_get _ h hs, List.getElem?_set]
  have hm := Nat.mod_lt q hs
  have hd := Nat.div_add_mod q sz
  rw [Nat.mul_comm] at hd
  by_cases hq : i * sz + j = q
  · have e1 : q / sz = i := by rw [← hq, Nat.mul_comm, Nat.mul_add_div hs, Nat.div_eq_of_lt hj, Nat.add_zero]
    have e2 : q % sz = j := by rw [← hq, Nat.mul_comm, Nat.mul_add_mod, Nat.mod_eq_of_lt hj]
    rw [if_pos hq, if_pos hlt, if_pos e1.symm, if_pos hi, e2]
    simp [h _ (List.getElem_mem hi), hj]
  · rw [if_neg hq]
    by_cases e1 : i = q / sz
    · have e2 : j ≠ q % sz := by rintro rfl; rw [e1] at hq; exact hq hd
      rw [if_pos e1, if_pos hi]
      simp only [Option.bind_some]
      rw [List.getElem?_set_ne e2, ← e1, List.getElem?_eq_getElem hi]
      rfl
    · rw [if_neg e1]
/-- two rows of numbers, compared -/
theorem eqCells_row2 (k : IntKind) : ∀ (l m : List Int), l.length = m.length → eqCells (row k l) (row k m) = some (decide (l = m))
  | [], [], _ => rfl
  | x :: l, y :: m, h => by
    have := eqCells_row2 k l m (by simpa using h)
    simp only [row] at this
    simp only [row, List.map_cons, eqCells, if_true, this, Option.map_some]
    congr 1
    by_cases h1 : x = y <;> by_cases h2 : l = m <;> simp [h1, h2]
theorem eqC_row {β : Type} (k : IntKind) {n : Nat} {l m : List Int} (h1 : l.length = n) (h2 : m.length = n) (κ : Bool → Option β) : eqC n (row k l) (row k m) κ = κ (decide (l = m)) := by
  simp only [eqC, row_len, h1, h2, and_self, if_true, eqCells_row2 k l m (by omega)]
theorem ifb_decT {β : Type} {p : Prop} {inst : Decidable p} (a b : Option β) : ifb (!(@decide p inst)) a b = if p then b else a := by
  by_cases h : p <;> simp [ifb, h]
theorem ifb_bne {β : Type} (x y : Int) (a b : Option β) : ifb (x != y) a b = if x = y then b else a := by
  by_cases h : x = y
  · subst h; simp [ifb]
  · rw [bne_iff_ne.2 h, if_neg h]; rfl
theorem ifb_beq {β : Type} (x y : Int) (a b : Option β) : ifb (x == y) a b = if x = y then a else b := by
  by_cases h : x = y
  · subst h; simp [ifb]
  · rw [beq_eq_false_iff_ne.2 h, if_neg h]; rfl
end Go.Proofs.Ythplooifbkopgaa
