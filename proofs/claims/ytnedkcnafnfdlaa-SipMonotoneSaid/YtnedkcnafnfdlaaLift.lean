/- From the reading of an argument to what the walks ask. -/
import Derived.Test.YtnedkcnafnfdlaaBase
import Derived.ProofKit
import Derived.OpenShut
import Derived.ChangeOld
import Derived.Deep.Slices
import Derived.SizedLaws
namespace Go.Proofs.Ytnedkcnafnfdlaa
open Go.ChangeShapes Go.WideShapes Go.RowKit Go.Deep

section
variable {H : Type} {enc : TypeId × Value → H} {P : Program} {w : World} {base : Nat} {spare : Nat → Bool} {held : Bool}
theorem Rd.of_cells {α : Type} {f : α → Value} {a : Addr} {l : List α} (h : ∀ i (hi : i < l.length), w.cell? (a.add i) = some (f l[i])) : Rd w No 1 (some a) l.length (l.map f) :=
  ⟨by simp, fun _ => ⟨a, rfl, id, fun j u hu => by
    rw [List.getElem?_map] at hu
    obtain ⟨x, hx, rfl⟩ := Option.map_eq_some_iff.1 hu
    obtain ⟨hj, rfl⟩ := List.getElem?_eq_some_iff.1 hx
    exact h j hj⟩⟩
theorem lift_ints {t e : TypeId} {k : IntKind} {a : Option Addr} {len cap : Nat} {d : DataW H} {p : List MemPlace} (ht : P.underlying t = some (.slice e)) (he : P.underlying e = some (.int k)) (hc : P.cellsOf e = 1)
    (h : DataW.Trod enc P w base spare held t (.slice a len cap) d p) : ∃ l : List Int, len = l.length ∧ Rd w No 1 a l.length (l.map (Value.int k)) ∧ l.length ≤ 9223372036854775807 ∧ ∀ n ∈ l, (Lit.int k n).wf = true := by
  obtain ⟨fuel, hf⟩ := h
  rcases open_ints ht he hc hf with ⟨hcs, _⟩ | ⟨x, l, c, zs, hcs, _, hl, hm, hz, _, hcell, hwz⟩
  · simp [Value.cells] at hcs
    obtain ⟨rfl, rfl, rfl⟩ := hcs
    exact ⟨[], rfl, Rd.nil _ _ _ _, by simp, by simp⟩
  · simp [Value.cells] at hcs
    obtain ⟨rfl, rfl, rfl⟩ := hcs
    have hlen : len ≤ zs.length := by rw [hz]; split <;> omega
    refine ⟨zs.take len, by simp; omega, Rd.of_cells (fun i hi => ?_), by simp; unfold maxLen at hm; omega, fun n hn => hwz n (List.mem_of_mem_take hn)⟩
    have hi' : i < zs.length := by simp at hi; omega
    rw [hcell i hi']
    simp [hi']
theorem lift_bools {t e : TypeId} {a : Option Addr} {len cap : Nat} {d : DataW H} {p : List MemPlace} (ht : P.underlying t = some (.slice e)) (he : P.underlying e = some .bool) (hc : P.cellsOf e = 1)
    (h : DataW.Trod enc P w base spare held t (.slice a len cap) d p) : ∃ l : List Bool, len = l.length ∧ Rd w No 1 a l.length (l.map Value.bool) ∧ l.length ≤ 9223372036854775807 := by
  obtain ⟨fuel, hf⟩ := h
  rcases open_slice ht hf with ⟨hcs, _⟩ | ⟨x, l, c, m, n, D, Pl, hcs, _, hl, hm, hmm, _, hi⟩
  · simp [Value.cells] at hcs
    obtain ⟨rfl, rfl, rfl⟩ := hcs
    exact ⟨[], rfl, Rd.nil _ _ _ _, by simp⟩
  · simp [Value.cells] at hcs
    obtain ⟨rfl, rfl, rfl⟩ := hcs
    have hlm : len ≤ m := by rw [hmm]; split <;> omega
    have each : ∀ i, i < len → ∃ b, w.cell? (x.add i) = some (.bool b) := by
      intro i hil
      obtain ⟨cs', h1, h2⟩ := hi i (by omega)
      obtain ⟨b, rfl, _⟩ := DataW.trod_bool he h2
      rw [hc] at h1
      obtain ⟨_, hcl, hat⟩ := World.cells?_some h1
      have := hat 0 (by omega)
      refine ⟨b, ?_⟩
      rw [Nat.mul_one] at this
      rw [show (x.add i).add 0 = x.add i from rfl] at this
      rw [this]; rfl
    refine ⟨(List.range len).map fun i => match w.cell? (x.add i) with | some (.bool b) => b | _ => false, by simp, Rd.of_cells (fun i hi' => ?_), by simp; unfold maxLen at hm; omega⟩
    simp at hi'
    obtain ⟨b, hb⟩ := each i hi'
    simp [hb]
end
end Go.Proofs.Ytnedkcnafnfdlaa
