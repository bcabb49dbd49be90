/- The table of a seat's functions. -/
import Derived.Test.YthplooifbkopgaaE28
namespace Go.Proofs.Ythplooifbkopgaa
set_option linter.unusedVariables false

structure Row where
  f : Nat
  g : Nat
  h : Hint
  c : CF
def renOf (fg : List (Nat × Nat)) (f : Nat) : Option Nat := (fg.find? (fun e => e.1 == f)).map (·.2)
def tabOf (rows : List Row) (g : Nat) : Option CF := (rows.find? (fun e => e.g == g)).map (·.c)
def noPr : CB := fun _ _ _ => none
theorem noPr_ok {P : Program} {ren : Nat → Option Nat} : CBok P ren noPr := by intro g args bor r bor' h; cases h
/-- f's with the same g are the same -/
def fgOk (fg : List (Nat × Nat)) : Bool := nodupB (fg.map (·.2))
theorem nodupB_inj : ∀ (l : List (Nat × Nat)), nodupB (l.map (·.2)) = true → ∀ a ∈ l, ∀ b ∈ l, a.2 = b.2 → a = b
  | [], _, a, ha, _, _, _ => by cases ha
  | x :: l, h, a, ha, b, hb, e => by
    simp only [List.map_cons, nodupB, Bool.and_eq_true, Bool.not_eq_true', List.contains_eq_mem, decide_eq_false_iff_not] at h
    rcases List.mem_cons.1 ha with ea | ha'
    · rcases List.mem_cons.1 hb with eb | hb'
      · rw [ea, eb]
      · exact absurd (List.mem_map.2 ⟨b, hb', by rw [← e, ea]⟩) h.1
    · rcases List.mem_cons.1 hb with eb | hb'
      · exact absurd (List.mem_map.2 ⟨a, ha', by rw [e, eb]⟩) h.1
      · exact nodupB_inj l h.2 a ha' b hb' e
theorem table_ok {P : Program} {fg : List (Nat × Nat)} {rows : List Row} (h1 : fgOk fg = true) (h2 : ∀ r ∈ rows, (r.f, r.g) ∈ fg ∧ callable P r.f = true ∧ cFun P (renOf fg) r.h r.f = some r.c) :
    ∀ g c, tabOf rows g = some c → ∀ f, renOf fg f = some g → callable P f = true ∧ ∃ h, cFun P (renOf fg) h f = some c := by
  intro g c hT f hf
  simp only [tabOf, Option.map_eq_some_iff] at hT
  obtain ⟨r, hr, rfl⟩ := hT
  have hm := List.mem_of_find?_eq_some hr
  have hg : r.g = g := by have := List.find?_some hr; simpa using this
  simp only [renOf, Option.map_eq_some_iff] at hf
  obtain ⟨x, hx, hx2⟩ := hf
  have hxm := List.mem_of_find?_eq_some hx
  have hxf : x.1 = f := by have := List.find?_some hx; simpa using this
  obtain ⟨q1, q2, q3⟩ := h2 r hm
  have e := nodupB_inj fg h1 _ q1 x hxm (by rw [hx2]; exact hg)
  have ef : r.f = f := by rw [← hxf, ← e]
  subst ef
  exact ⟨q2, r.h, q3⟩
/-- the machine on a table -/
theorem seat_ok {P : Program} {fg : List (Nat × Nat)} {rows : List Row} (hm : P.follows .mixedOrders = true) (h1 : fgOk fg = true) (h2 : ∀ r ∈ rows, (r.f, r.g) ∈ fg ∧ callable P r.f = true ∧ cFun P (renOf fg) r.h r.f = some r.c) (L d : Nat) : CBok P (renOf fg) (evF (tabOf rows) noPr L d) :=
  evF_ok (table_ok h1 h2) noPr_ok (drawOk hm) d
end Go.Proofs.Ythplooifbkopgaa
