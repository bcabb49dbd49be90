/- Arrays and structs of plain cells: how == answers. -/
import Derived.Test.YtnedkcnafnfdlaaBase
import Derived.ChangeKeysEq
import Derived.Laws.StructEq
namespace Go.Proofs.Ytnedkcnafnfdlaa
open Go.RowKit

theorem getElem?_drop0 {α : Type} (l : List α) (i : Nat) : (l.drop i)[0]? = l[i]? := by simp
/-- == at an array of integers -/
theorem run_eqItems_ints {P : Program} (d : Nat) {e : TypeId} {k : IntKind} (he : P.underlying e = some (.int k)) (a b : List Int) :
    ∀ (n i : Nat) (w : World), i + n = a.length → i + n = b.length → (Op.eqItems (d + 1) e 1 (a.map (Value.int k)).toArray (b.map (Value.int k)).toArray (List.range' i n)).run P w = .ok (decide (a.drop i = b.drop i)) w
  | 0, i, w, ha, hb => by
    rw [List.drop_of_length_le (by omega), List.drop_of_length_le (by omega)]
    simp [Op.eqItems]
  | n + 1, i, w, ha, hb => by
    have hia : i < a.length := by omega
    have hib : i < b.length := by omega
    have p1 : (part e (a.map (Value.int k)).toArray (i * 1)).run P w = .ok (.int k a[i]) w := run_part_plain w (by simp [Program.plainKey, he]) (by simp [hia])
    have p2 : (part e (b.map (Value.int k)).toArray (i * 1)).run P w = .ok (.int k b[i]) w := run_part_plain w (by simp [Program.plainKey, he]) (by simp [hib])
    have p3 := run_equalIn_int (P := P) w d e k k a[i] b[i] he
    have ih := run_eqItems_ints d he a b n (i + 1) w (by omega) (by omega)
    rw [List.range'_succ]
    simp only [Op.eqItems, Sem.run_bind, p1, p2, p3, Result.andThen_ok]
    have hd : (a.drop i = b.drop i) ↔ (a[i] = b[i] ∧ a.drop (i + 1) = b.drop (i + 1)) := by
      rw [List.drop_eq_getElem_cons hia, List.drop_eq_getElem_cons hib, List.cons.injEq]
    by_cases h : a[i] = b[i]
    · have hd' : (a.drop i = b.drop i) ↔ (a.drop (i + 1) = b.drop (i + 1)) := by rw [hd]; simp [h]
      simp only [h, beq_self_eq_true, Bool.not_true, Bool.false_eq_true, if_false, ih, hd']
    · have hd' : ¬ (a.drop i = b.drop i) := by rw [hd]; simp [h]
      simp [h, hd']
theorem run_equalIn_ints {P : Program} (d : Nat) {t e : TypeId} {k : IntKind} {n : Nat} (ht : P.underlying t = some (.array n e)) (he : P.underlying e = some (.int k)) (hc : P.cellsOf e = 1) (a b : List Int) (ha : a.length = n) (hb : b.length = n) (w : World) :
    (Op.equalIn (d + 2) t (.agg (a.map (Value.int k)).toArray) (.agg (b.map (Value.int k)).toArray)).run P w = .ok (decide (a = b)) w := by
  obtain ⟨i, hi⟩ := info_of_underlying he
  rw [run_equalIn_array w (d + 1) _ _ ht hi, hc, List.range_eq_range']
  have := run_eqItems_ints (P := P) d he a b n 0 w (by omega) (by omega)
  simpa using this
theorem run_eql_ints {P : Program} {t e : TypeId} {k : IntKind} {n : Nat} (ht : P.underlying t = some (.array n e)) (he : P.underlying e = some (.int k)) (hc : P.cellsOf e = 1) (a b : List Int) (ha : a.length = n) (hb : b.length = n) (w : World) :
    (binOp .eql t (.agg (a.map (Value.int k)).toArray) (.agg (b.map (Value.int k)).toArray)).run P w = .ok (.bool (decide (a = b))) w := by
  rw [run_eql_struct, run_equalIn_ints 9998 ht he hc a b ha hb w]
  rfl
theorem run_neq_ints {P : Program} {t e : TypeId} {k : IntKind} {n : Nat} (ht : P.underlying t = some (.array n e)) (he : P.underlying e = some (.int k)) (hc : P.cellsOf e = 1) (a b : List Int) (ha : a.length = n) (hb : b.length = n) (w : World) :
    (binOp .neq t (.agg (a.map (Value.int k)).toArray) (.agg (b.map (Value.int k)).toArray)).run P w = .ok (.bool (!decide (a = b))) w := by
  rw [run_neq_struct, run_equalIn_ints 9998 ht he hc a b ha hb w]
  rfl

/-- an element of an array of one-cell elements -/
theorem run_index_arr {P : Program} {t e : TypeId} {n : Nat} {kk : IntKind} {cs : Array Value} {u : Value} (ht : P.underlying t = some (.array n e)) (he : P.plainKey e = true) (hc : P.cellsOf e = 1) (k : Nat) (hk : k < n) (hu : cs[k]? = some u) (w : World) :
    (Instr.index t (.agg cs) (.int kk (k : Int))).run P w = .ok u w := by
  have hp := run_part_plain (P := P) w he hu
  have hi : ∃ i, P.info? e = some i := by
    unfold Program.plainKey at he
    cases hue : P.underlying e with
    | none => simp [hue] at he
    | some _ => exact info_of_underlying hue
  obtain ⟨i, hi⟩ := hi
  have hs := run_sizeOf (P := P) w hi
  unfold Instr.index
  simp only [asIntOf, Sem.run_bind, Sem.run_pure, Result.andThen_ok, run_underlying ht]
  rw [if_pos ⟨by omega, by omega⟩]
  simp only [Sem.run_bind, hs, Result.andThen_ok, hc]
  simpa using hp

/-! ### a whole row stored -/
theorem Blk.setCells {g : Nat} {t : TypeId} : ∀ (vs : List Value) (o : Nat) (cs : Array Value) (w : World), Blk w g t cs → o + vs.length ≤ cs.size →
    ∃ cs', Blk (w.setCells g o vs) g t cs' ∧ cs'.size = cs.size ∧ (∀ j, j < vs.length → cs'[o + j]? = vs[j]?) ∧ ∀ j, (j < o ∨ o + vs.length ≤ j) → cs'[j]? = cs[j]?
  | [], o, cs, w, h, _ => ⟨cs, h, rfl, fun j hj => by simp at hj, fun _ _ => rfl⟩
  | v :: r, o, cs, w, h, hl => by
    simp only [List.length_cons] at hl
    obtain ⟨cs', h1, h2, h3, h4⟩ := Blk.setCells r (o + 1) (cs.setIfInBounds o v) (w.setCell ⟨g, o, none⟩ v) (h.set_ o v) (by simp; omega)
    refine ⟨cs', h1, by simpa using h2, fun j hj => ?_, fun j hj => ?_⟩
    · simp only [List.length_cons] at hj
      cases j with
      | zero => rw [Nat.add_zero, h4 o (by omega)]; simp [show o < cs.size by omega]
      | succ j => rw [show o + (j + 1) = o + 1 + j by omega, h3 j (by omega)]; simp
    · simp only [List.length_cons] at hj
      rw [h4 j (by omega)]
      simp [show o ≠ j by omega]
theorem Blk.setRow {w : World} {g : Nat} {t : TypeId} {cs : Array Value} {vs : Array Value} (h : Blk w g t cs) (hl : vs.size = cs.size) : Blk (w.setCells g 0 vs.toList) g t vs := by
  obtain ⟨cs', h1, h2, h3, _⟩ := Blk.setCells vs.toList 0 cs w h (by simp [hl])
  have : cs' = vs := by
    apply Array.ext_getElem?
    intro j
    by_cases hj : j < vs.size
    · have := h3 j (by simpa using hj)
      simpa using this
    · rw [Array.getElem?_eq_none (by omega), Array.getElem?_eq_none (by omega)]
  rw [this] at h1
  exact h1
theorem Kept.setCells {O : Nat → Prop} {g : Nat} : ∀ (vs : List Value) (o : Nat) (w : World), (O g ∨ w.heap.size ≤ g) → Kept O w (w.setCells g o vs)
  | [], _, w, _ => Kept.refl _ _
  | v :: r, o, w, h => by
    have h1 := Kept.setCell (O := O) w (p := ⟨g, o, none⟩) h v
    exact h1.trans (Kept.setCells r (o + 1) _ (by rw [sz_set]; exact h)) (fun _ _ h => h)
theorem Blk.there {w : World} {g : Nat} {t : TypeId} {cs : Array Value} {n : Nat} (h : Blk w g t cs) (hn : n ≤ cs.size) : w.there g 0 n := fun j hj => by
  refine ⟨?_, ?_⟩
  · rw [h.cell]; simp; omega
  · exact h.frozen _
end Go.Proofs.Ytnedkcnafnfdlaa
