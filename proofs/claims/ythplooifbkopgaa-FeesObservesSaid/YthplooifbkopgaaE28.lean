/- A law's function, called from outside. -/
import Derived.Test.YthplooifbkopgaaE27
namespace Go.Proofs.Ythplooifbkopgaa
set_option linter.unusedVariables false
set_option linter.unusedSimpArgs false
variable {ren : Nat → Option Nat} {P : Program} {w : World}

def noWr : Nat → Nat → Prop := fun _ _ => False
theorem wr_none : wr noWr (fun _ => Ow.no) = noWr := by
  funext k o
  simp [wr, noWr]
theorem plain_rel {args : List V} {us : List Value} (hl : args.length = us.length) (h : ∀ (i : Nat) (v : V) (u : Value), args[i]? = some v → us[i]? = some u → RepP ren w noWr v u) :
    Rel ren w (fun _ => Ow.no) noWr No ⟨args, ([] : Bor).map toB⟩ ⟨us.toArray, []⟩ w (fun _ => Ow.no) (fun _ => 0) := by
  refine ⟨rfl, by simp [hl], fun i v hv => ?_, fun id p cs hb => by simp at hb, fun id cs hb => by simp at hb, fun id es hb => by simp at hb, Kept.refl _ _, fun k hk => absurd rfl hk, fun k o h => h.elim, fun k o u h1 h2 => ⟨h1, h2⟩, fun k => Nat.le_refl _⟩
  have hlt : i < us.length := by rw [← hl]; exact (List.getElem?_eq_some_iff.1 hv).1
  have e : (us.toArray).getD i undef = us[i] := by simp [hlt]
  show Rep ren _ _ _ ((us.toArray).getD i undef)
  rw [e]
  refine .pure ?_
  show RepP ren w (wr noWr (fun _ => Ow.no)) v us[i]
  rw [wr_none]
  exact h i v _ hv (List.getElem?_eq_getElem hlt)
/-- a call with plain arguments that answers true -/
theorem plain_call {cb : CB} (hcb : CBok P ren cb) {f : FuncId} {g : Nat} (hf : ren f = some g) {args : List V} {us : List Value} (hl : args.length = us.length) (h : ∀ (i : Nat) (v : V) (u : Value), args[i]? = some v → us[i]? = some u → RepP ren w noWr v u)
    {b : Bool} {bor' : Bor} (hr : cb g args [] = some (.sc (.bool b), bor')) : Calls P f us.toArray w fun e w' => e = .returned (.bool b) ∧ Kept No w w' := by
  obtain ⟨_, hp⟩ := hcb _ _ _ _ _ hr f hf
  refine (hp w us noWr No (fun _ => Ow.no) (fun _ => 0) (plain_rel hl h)).mono ?_
  rintro e w' ⟨u, ω', μ', rfl, R, _⟩
  have := (R.ts 0 _ rfl).sc_eq.1
  refine ⟨?_, R.kp⟩
  have hu : u = .bool b := by simpa using this
  rw [hu]
end Go.Proofs.Ythplooifbkopgaa
