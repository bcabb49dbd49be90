/- Plain law: the way of a transaction. -/
namespace Go.Proofs.Ytpbbfpfmdckclaa.Way
/-- one step further along the routes, as long as nobody diffuses and nobody comes twice -/
def go (routes : List Int) (diffuse : List Bool) : Nat → List Int → List Int
  | 0, out => out
  | f + 1, out =>
    if (decide (1 < out.length) && diffuse.getD (out.getLastD 0).toNat false) = true then out
    else if (decide (0 ≤ routes.getD (out.getLastD 0).toNat 0) && (decide (routes.getD (out.getLastD 0).toNat 0 < routes.length) && !out.contains (routes.getD (out.getLastD 0).toNat 0))) = true
      then go routes diffuse f (out ++ [routes.getD (out.getLastD 0).toNat 0]) else out
def walk (routes : List Int) (diffuse : List Bool) (o : Int) : List Int :=
  if routes.length = diffuse.length ∧ routes.length ≤ 64 ∧ 0 ≤ o ∧ o < routes.length then go routes diffuse routes.length [o] else []

/-- what the way is, if it is at out and would go on to x -/
def next (routes : List Int) (diffuse : List Bool) (f : Nat) (out : List Int) (x : Int) : List Int :=
  if 0 ≤ x ∧ x < routes.length ∧ x ∉ out then go routes diffuse f (out ++ [x]) else out

theorem go_stop {routes : List Int} {diffuse : List Bool} {f : Nat} {out : List Int} {x : Int} (hx : diffuse.getD x.toNat false = true) (h0 : 0 < out.length) : go routes diffuse f (out ++ [x]) = out ++ [x] := by
  cases f with
  | zero => rfl
  | succ f =>
    rw [go, if_pos]
    rw [List.getLastD_concat, hx]
    simp; omega
theorem go_on {routes : List Int} {diffuse : List Bool} {f : Nat} {out : List Int} {x : Int} (hx : diffuse.getD x.toNat false = false ∨ out = []) : go routes diffuse (f + 1) (out ++ [x]) = next routes diffuse f (out ++ [x]) (routes.getD x.toNat 0) := by
  rw [go, if_neg, next]
  · rw [List.getLastD_concat]
    by_cases h : 0 ≤ routes.getD x.toNat 0 ∧ routes.getD x.toNat 0 < routes.length ∧ routes.getD x.toNat 0 ∉ out ++ [x]
    · rw [if_pos h, if_pos]
      simpa using h
    · rw [if_neg h, if_neg]
      simpa using h
  · rw [List.getLastD_concat]
    rcases hx with h | h
    · rw [h]; simp
    · subst h; simp
theorem nodup_lt {n : Nat} : ∀ {l : List Nat}, l.Nodup → (∀ x ∈ l, x < n) → l.length ≤ n := by
  induction n with
  | zero => intro l _ h; cases l with
    | nil => simp
    | cons a l => have := h a (by simp); omega
  | succ n ih =>
    intro l hn h
    have h1 := ih (l := l.filter (· ≠ n)) (hn.filter _) (fun x hx => by
      simp only [List.mem_filter, decide_eq_true_eq] at hx
      have := h x hx.1
      omega)
    have h2 : l.length ≤ (l.filter (· ≠ n)).length + l.count n := by
      clear ih h1 h hn
      induction l with
      | nil => simp
      | cons a l ih =>
        by_cases ha : a = n
        · subst ha; simp at ih ⊢; omega
        · simp [ha] at ih ⊢; omega
    have h3 : l.count n ≤ 1 := List.nodup_iff_count.1 hn n
    omega
theorem nodup_ints {n : Nat} {l : List Int} (h : l.Nodup) (hb : ∀ x ∈ l, 0 ≤ x ∧ x < n) : l.length ≤ n := by
  have := nodup_lt (n := n) (l := l.map Int.toNat) ?_ ?_
  · simpa using this
  · rw [List.nodup_iff_pairwise_ne, List.pairwise_map]
    have hp := List.nodup_iff_pairwise_ne.1 h
    refine hp.imp_of_mem ?_
    intro a b ha hb' hne he
    have := hb a ha; have := hb b hb'
    omega
  · intro x hx
    obtain ⟨y, hy, rfl⟩ := List.mem_map.1 hx
    have := hb y hy
    omega

/-- what is known of every way -/
structure Chain (r : List Int) (f : List Bool) (o : Int) (l : List Int) : Prop where
  pos : 0 < l.length
  head : l.getD 0 0 = o
  nodup : l.Nodup
  range : ∀ y ∈ l, 0 ≤ y ∧ y < r.length
  link : ∀ t, t + 1 < l.length → l.getD (t + 1) 0 = r.getD (l.getD t 0).toNat 0
  plain : ∀ t, 0 < t → t + 1 < l.length → f.getD (l.getD t 0).toNat false = false

theorem Chain.snoc {r : List Int} {f : List Bool} {o : Int} {l : List Int} {x : Int} (h : Chain r f o l) (hx : x = r.getD (l.getLastD 0).toNat 0) (h0 : 0 ≤ x) (h1 : x < r.length) (hn : x ∉ l)
    (hp : 1 < l.length → f.getD (l.getLastD 0).toNat false = false) : Chain r f o (l ++ [x]) := by
  have hp0 := h.pos
  have hlast : l.getLastD 0 = l.getD (l.length - 1) 0 := by
    rw [List.getLastD_eq_getLast?, List.getLast?_eq_getElem?]; simp
  refine ⟨by simp, ?_, ?_, ?_, ?_, ?_⟩
  · rw [← h.head, List.getD_eq_getElem?_getD, List.getD_eq_getElem?_getD, List.getElem?_append_left hp0]
  · rw [List.nodup_append]
    exact ⟨h.nodup, by simp, by intro a ha b hb; simp at hb; subst hb; intro e; subst e; exact hn ha⟩
  · intro y hy
    rcases List.mem_append.1 hy with hy | hy
    · exact h.range y hy
    · simp at hy; subst hy; exact ⟨h0, h1⟩
  · intro t ht
    simp at ht
    by_cases hl : t + 1 < l.length
    · have := h.link t hl
      simp only [List.getD_eq_getElem?_getD, List.getElem?_append_left hl, List.getElem?_append_left (show t < l.length by omega)] at this ⊢
      exact this
    · obtain rfl : t = l.length - 1 := by omega
      have e1 : l.length - 1 + 1 = l.length := by omega
      rw [e1]
      have e2 : (l ++ [x]).getD l.length 0 = x := by simp
      have e3 : (l ++ [x]).getD (l.length - 1) 0 = l.getLastD 0 := by
        rw [hlast]; simp [List.getElem?_append_left (show l.length - 1 < l.length by omega)]
      rw [e2, e3, hx]
  · intro t ht0 ht
    simp at ht
    by_cases hl : t + 1 < l.length
    · have := h.plain t ht0 hl
      simp only [List.getD_eq_getElem?_getD, List.getElem?_append_left (show t < l.length by omega)] at this ⊢
      exact this
    · obtain rfl : t = l.length - 1 := by omega
      have e3 : (l ++ [x]).getD (l.length - 1) 0 = l.getLastD 0 := by
        rw [hlast]; simp [List.getElem?_append_left (show l.length - 1 < l.length by omega)]
      rw [e3]
      exact hp (by omega)

/-- a way that can go no further -/
def Ended (r : List Int) (f : List Bool) (l : List Int) : Prop :=
  (1 < l.length ∧ f.getD (l.getLastD 0).toNat false = true) ∨ ¬ (0 ≤ r.getD (l.getLastD 0).toNat 0 ∧ r.getD (l.getLastD 0).toNat 0 < r.length ∧ r.getD (l.getLastD 0).toNat 0 ∉ l)

theorem go_chain {r : List Int} {f : List Bool} {o : Int} : ∀ (n : Nat) (l : List Int), Chain r f o l → Chain r f o (go r f n l) ∧ (r.length < n + l.length → Ended r f (go r f n l))
  | 0, l, h => ⟨h, fun hlt => by
      have := nodup_ints (n := r.length) h.nodup h.range
      omega⟩
  | n + 1, l, h => by
      rw [go]
      by_cases h1 : (decide (1 < l.length) && f.getD (l.getLastD 0).toNat false) = true
      · rw [if_pos h1]
        simp only [Bool.and_eq_true, decide_eq_true_eq] at h1
        exact ⟨h, fun _ => .inl h1⟩
      · rw [if_neg h1]
        by_cases h2 : (decide (0 ≤ r.getD (l.getLastD 0).toNat 0) && (decide (r.getD (l.getLastD 0).toNat 0 < r.length) && !l.contains (r.getD (l.getLastD 0).toNat 0))) = true
        · rw [if_pos h2]
          simp only [Bool.and_eq_true, decide_eq_true_eq, Bool.not_eq_true', List.contains_eq_mem, decide_eq_false_iff_not] at h2
          have hc := h.snoc rfl h2.1 h2.2.1 h2.2.2 (fun hl => by
            simp only [Bool.and_eq_true, decide_eq_true_eq, not_and, Bool.not_eq_true] at h1
            exact h1 hl)
          have := go_chain n _ hc
          refine ⟨this.1, fun hlt => this.2 (by simp; omega)⟩
        · rw [if_neg h2]
          simp only [Bool.and_eq_true, decide_eq_true_eq, Bool.not_eq_true', List.contains_eq_mem, decide_eq_false_iff_not] at h2
          exact ⟨h, fun _ => .inr h2⟩

theorem walk_chain {r : List Int} {f : List Bool} {o : Int} (h1 : r.length = f.length) (h2 : r.length ≤ 64) (h3 : 0 ≤ o) (h4 : o < r.length) : Chain r f o (walk r f o) ∧ Ended r f (walk r f o) := by
  unfold walk
  rw [if_pos ⟨h1, h2, h3, h4⟩]
  have hc : Chain r f o [o] := ⟨by simp, by simp, by simp, by intro y hy; simp at hy; subst hy; exact ⟨h3, h4⟩, by intro t ht; simp at ht, by intro t _ ht; simp at ht⟩
  have := go_chain (r := r) (f := f) (o := o) r.length [o] hc
  exact ⟨this.1, this.2 (by simp)⟩
theorem walk_len {r : List Int} {f : List Bool} {o : Int} : (walk r f o).length ≤ 64 := by
  by_cases h : r.length = f.length ∧ r.length ≤ 64 ∧ 0 ≤ o ∧ o < r.length
  · have := (walk_chain h.1 h.2.1 h.2.2.1 h.2.2.2).1
    have := nodup_ints (n := r.length) this.nodup this.range
    omega
  · unfold walk; rw [if_neg h]; simp
end Go.Proofs.Ytpbbfpfmdckclaa.Way
