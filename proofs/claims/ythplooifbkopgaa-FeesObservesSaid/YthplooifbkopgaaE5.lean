/- Operations of the abstract machine that only compute: what the model does. -/
import Derived.Test.YthplooifbkopgaaE4
import Derived.Laws.Tables
import Derived.Laws.BytesString
namespace Go.Proofs.Ythplooifbkopgaa
set_option linter.unusedVariables false
set_option linter.unusedSimpArgs false
variable {ren : Nat → Option Nat} {we : World} {ωe : Nat → Ow} {U : Nat → Nat → Prop} {O : Nat → Prop} {σ : St} {a : Act} {w : World} {ω : Nat → Ow} {μ : Nat → Nat} {P : Program}

theorem setAt_length {cs new : List V} {off : Nat} (h : off + new.length ≤ cs.length) : (setAt cs off new).length = cs.length := by
  unfold setAt; simp only [List.length_append, List.length_take, List.length_drop]; omega
theorem setAt_get {α : Type} {cs new : List α} {off : Nat} (h : off + new.length ≤ cs.length) (i : Nat) :
    (cs.take off ++ new ++ cs.drop (off + new.length))[i]? = if off ≤ i ∧ i < off + new.length then new[i - off]? else cs[i]? := by
  have hm : min off cs.length = off := by omega
  by_cases h1 : i < off
  · rw [if_neg (by omega), List.append_assoc, List.getElem?_append_left (by simp; omega), List.getElem?_take, if_pos h1]
  · by_cases h2 : i < off + new.length
    · rw [if_pos ⟨by omega, h2⟩, List.append_assoc, List.getElem?_append_right (by simp; omega), List.getElem?_append_left (by simp; omega)]
      simp [hm]
    · rw [if_neg (by omega), List.getElem?_append_right (by simp; omega), List.getElem?_drop]
      congr 1
      simp [hm]; omega

/-- a row of plain cells -/
def CellsP (ren : Nat → Option Nat) (w : World) (Wr : Nat → Nat → Prop) (cs : List V) (us : List Value) : Prop :=
  cs.length = us.length ∧ ∀ (i : Nat) (c : V), cs[i]? = some c → ∃ u, us[i]? = some u ∧ u.oneCell' = true ∧ RepP ren w Wr c u
theorem CellsP.agg {Wr : Nat → Nat → Prop} {cs : List V} {us : List Value} (h : CellsP ren w Wr cs us) : RepP ren w Wr (.agg cs) (.agg us.toArray) := by
  refine .agg cs us h.1 (fun i c u hc hu => ?_) (fun u hu => ?_)
  · obtain ⟨x, hx, _, hr⟩ := h.2 i c hc
    rw [hx] at hu; cases hu; exact hr
  · obtain ⟨i, hi, rfl⟩ := List.getElem_of_mem hu
    have hlt : i < cs.length := by rw [h.1]; exact hi
    obtain ⟨x, hx, h1, _⟩ := h.2 i _ (List.getElem?_eq_getElem hlt)
    rw [List.getElem?_eq_getElem hi] at hx; cases hx; exact h1
theorem RepP.cellsP {Wr : Nat → Nat → Prop} {v : V} {u : Value} (h : RepP ren w Wr v u) : CellsP ren w Wr v.cells u.cells.toList := by
  obtain ⟨h1, h2⟩ := h.cells
  refine ⟨by simpa using h1, fun i c hc => ?_⟩
  obtain ⟨x, hx, r⟩ := h2 i c hc
  exact ⟨x, by simpa using hx, r⟩
theorem CellsP.of_agg {Wr : Nat → Nat → Prop} {cs : List V} {u : Value} (h : RepP ren w Wr (.agg cs) u) : ∃ us : List Value, u = .agg us.toArray ∧ CellsP ren w Wr cs us := by
  cases h with
  | agg _ us hl h h1 =>
    refine ⟨us, rfl, hl, fun i c hc => ?_⟩
    have hi : i < us.length := by rw [← hl]; exact (List.getElem?_eq_some_iff.1 hc).1
    exact ⟨us[i], List.getElem?_eq_getElem hi, h1 _ (List.getElem_mem hi), h i c _ hc (List.getElem?_eq_getElem hi)⟩
theorem CellsP.setAt {Wr : Nat → Nat → Prop} {cs new : List V} {us xs : List Value} {off : Nat} (h : CellsP ren w Wr cs us) (hn : CellsP ren w Wr new xs) (hl : off + new.length ≤ cs.length) :
    CellsP ren w Wr (setAt cs off new) (us.take off ++ xs ++ us.drop (off + xs.length)) := by
  have e1 := h.1
  have e2 := hn.1
  refine ⟨?_, fun i c hc => ?_⟩
  · rw [setAt_length hl]
    simp only [List.length_append, List.length_take, List.length_drop]; omega
  · unfold Go.Proofs.Ythplooifbkopgaa.setAt at hc
    rw [setAt_get hl] at hc
    rw [setAt_get (by omega), ← e2]
    split at hc
    · rename_i hi
      rw [if_pos hi]; exact hn.2 _ c hc
    · rename_i hi
      rw [if_neg hi]; exact h.2 i c hc
theorem CellsP.dropTake {Wr : Nat → Nat → Prop} {cs : List V} {us : List Value} (h : CellsP ren w Wr cs us) (o n : Nat) : CellsP ren w Wr ((cs.drop o).take n) ((us.drop o).take n) := by
  have e1 := h.1
  refine ⟨by simp [e1], fun i c hc => ?_⟩
  rw [List.getElem?_take] at hc ⊢
  split at hc
  · rename_i hi
    rw [if_pos hi]
    rw [List.getElem?_drop] at hc ⊢
    exact h.2 _ c hc
  · cases hc
theorem CellsP.mono {w' : World} {Wr Wr' : Nat → Nat → Prop} {cs : List V} {us : List Value} (h : CellsP ren w Wr cs us)
    (H : ∀ k o u, ¬ Wr k o → w.cell? ⟨k, o, none⟩ = some u → ¬ Wr' k o ∧ w'.cell? ⟨k, o, none⟩ = some u) : CellsP ren w' Wr' cs us :=
  ⟨h.1, fun i c hc => by obtain ⟨u, h1, h2, h3⟩ := h.2 i c hc; exact ⟨u, h1, h2, h3.mono H⟩⟩

theorem foldl_set (off : Nat) : ∀ (l : List Value) (n : Nat) (cells : Array Value), off + n + l.length ≤ cells.size →
    ((l.zipIdx n).foldl (fun cs (p : Value × Nat) => cs.setIfInBounds (off + p.2) p.1) cells).toList = cells.toList.take (off + n) ++ l ++ cells.toList.drop (off + n + l.length)
  | [], n, cells, h => by simp
  | x :: l, n, cells, h => by
    simp only [List.zipIdx_cons, List.foldl_cons]
    simp only [List.length_cons] at h
    rw [foldl_set off l (n + 1) _ (by simp; omega)]
    have e := list_seg_step cells.toList (off + n) x l (by simp; omega)
    simp only [Array.toList_setIfInBounds, ← Nat.add_assoc] at e ⊢
    rw [e]
    simp [Nat.add_assoc, Nat.add_comm 1]

theorem fill_rel (R : Rel ren we ωe U O σ a w ω μ) (place : Nat → Option (Nat × TypeId)) (placeR : Nat → Option (Nat × Nat))
    (hpl : ∀ i off ty n, place i = some (off, ty) → sizeT P ty = some n → placeR i = some (off, n)) :
    ∀ (parts : List (Nat × Operand)) (ps : List (Nat × Nat × Src)) (cs cs' : List V) (arr : Array Value), cParts P ren place parts = some ps → fillParts σ ps cs = some cs' →
      CellsP ren w (wr U ω) cs arr.toList → ∃ arr' : Array Value, Instr.fill placeR arr (parts.map fun p => (p.1, a.eval p.2)) = some arr' ∧ CellsP ren w (wr U ω) cs' arr'.toList
  | [], ps, cs, cs', arr, hc, hf, h => by cases hc; cases hf; exact ⟨arr, rfl, h⟩
  | (i, x) :: parts, ps, cs, cs', arr, hc, hf, h => by
    simp only [cParts, Option.bind_eq_bind, Option.bind_eq_some_iff, Option.pure_def, Option.some.injEq, Prod.exists] at hc
    obtain ⟨off, ty, h1, s, h2, n, h3, rest, h4, rfl⟩ := hc
    simp only [fillParts, Option.bind_eq_bind, Option.bind_eq_some_iff] at hf
    obtain ⟨v, hv, hf⟩ := hf
    split at hf
    · rename_i hln
      have hr := (R.opnd h2).plain R.hU hv
      have hcp := hr.cellsP
      have e1 := hcp.1
      have e2 := h.1
      simp at e1 e2
      have hs : ((a.eval x).cells.zipIdx.foldl (fun cs (p : Value × Nat) => cs.setIfInBounds (off + p.2) p.1) arr).toList = arr.toList.take off ++ (a.eval x).cells.toList ++ arr.toList.drop (off + (a.eval x).cells.toList.length) := by
        have := foldl_set off (a.eval x).cells.toList 0 arr (by simp; omega)
        rw [← Array.foldl_toList, Array.toList_zipIdx]
        simpa using this
      obtain ⟨arr', g1, g2⟩ := fill_rel R place placeR hpl parts rest _ cs' _ h4 hf (by rw [hs]; exact h.setAt hcp (by omega))
      refine ⟨arr', ?_, g2⟩
      simp only [List.map_cons, Instr.fill, hpl i off ty n h1 h3]
      rw [if_neg (by simp; omega)]
      exact g1
    · cases hf

/-- cells of a struct that may hold slices of local memory -/
def CellsQ (ren : Nat → Option Nat) (E : En) (cs : List V) (us : List Value) : Prop :=
  cs.length = us.length ∧ ∀ (i : Nat) (c : V), cs[i]? = some c → ∃ u, us[i]? = some u ∧ u.oneCell' = true ∧ (RepP ren E.w E.Wr c u ∨ OwnAt E c u)
theorem CellsP.toQ {E : En} {cs : List V} {us : List Value} (h : CellsP ren E.w E.Wr cs us) : CellsQ ren E cs us :=
  ⟨h.1, fun i c hc => by obtain ⟨u, h1, h2, h3⟩ := h.2 i c hc; exact ⟨u, h1, h2, .inl h3⟩⟩
theorem CellsQ.setAt {E : En} {cs new : List V} {us un : List Value} (h : CellsQ ren E cs us) (hn : CellsQ ren E new un) {off : Nat} (hb : off + new.length ≤ cs.length) : CellsQ ren E (setAt cs off new) (us.take off ++ un ++ us.drop (off + un.length)) := by
  have e1 := h.1
  have e2 := hn.1
  refine ⟨by simp [Go.Proofs.Ythplooifbkopgaa.setAt, e1, e2], fun i c hc => ?_⟩
  simp only [Go.Proofs.Ythplooifbkopgaa.setAt, List.append_assoc] at hc ⊢
  rw [List.getElem?_append] at hc ⊢
  simp only [List.length_take, show min off cs.length = off by omega, show min off us.length = off by omega] at hc ⊢
  split at hc
  · rename_i hi
    rw [if_pos hi]
    rw [List.getElem?_take, if_pos hi] at hc ⊢
    exact h.2 i c hc
  · rename_i hi
    rw [if_neg hi]
    rw [List.getElem?_append] at hc ⊢
    split at hc
    · rename_i hi2
      rw [if_pos (by omega)]
      exact hn.2 _ c hc
    · rename_i hi2
      rw [if_neg (by omega)]
      rw [List.getElem?_drop] at hc ⊢
      rw [← e2]
      exact h.2 _ c hc
theorem OwnAt.isOwn {E : En} {v : V} {u : Value} (h : OwnAt E v u) : v.cells = [v] ∧ u.cells = #[u] ∧ u.oneCell' = true := by
  obtain ⟨id, off, len, sz, c, L, A, rfl, rfl, _⟩ := h
  exact ⟨rfl, rfl, rfl⟩
theorem Rep.refd' {E : En} (hU : ∀ β l h i, E.ω β = .gs l h → i < h → ¬ E.Wr β i) {l : Loc} {v v' : V} {u : Value} (h : Rep ren E l v u) (hp : v.refd = some v') : CellsQ ren E v'.cells u.cells.toList := by
  have : RepP ren E.w E.Wr v' u ∨ OwnAt E v' u := by
    cases v with
    | own id off len sz => cases hp; exact .inr h.ownAt
    | _ => exact .inl (h.plain hU hp)
  rcases this with h | h
  · exact h.cellsP.toQ
  · obtain ⟨e1, e2, e3⟩ := h.isOwn
    rw [e1, e2]
    refine ⟨rfl, fun i c hc => ?_⟩
    cases i with
    | zero => simp at hc; subst hc; exact ⟨u, rfl, e3, .inr h⟩
    | succ i => simp at hc
theorem fill_refs (R : Rel ren we ωe U O σ a w ω μ) (place : Nat → Option (Nat × TypeId)) (placeR : Nat → Option (Nat × Nat))
    (hpl : ∀ i off ty n, place i = some (off, ty) → sizeT P ty = some n → placeR i = some (off, n)) :
    ∀ (parts : List (Nat × Operand)) (ps : List (Nat × Nat × Src)) (cs cs' : List V) (arr : Array Value), cParts P ren place parts = some ps → fillRefs σ ps cs = some cs' →
      CellsQ ren (env U σ w ω μ) cs arr.toList → ∃ arr' : Array Value, Instr.fill placeR arr (parts.map fun p => (p.1, a.eval p.2)) = some arr' ∧ CellsQ ren (env U σ w ω μ) cs' arr'.toList
  | [], ps, cs, cs', arr, hc, hf, h => by cases hc; cases hf; exact ⟨arr, rfl, h⟩
  | (i, x) :: parts, ps, cs, cs', arr, hc, hf, h => by
    simp only [cParts, Option.bind_eq_bind, Option.bind_eq_some_iff, Option.pure_def, Option.some.injEq, Prod.exists] at hc
    obtain ⟨off, ty, h1, s, h2, n, h3, rest, h4, rfl⟩ := hc
    simp only [fillRefs, Option.bind_eq_bind, Option.bind_eq_some_iff] at hf
    obtain ⟨v, hv, hf⟩ := hf
    split at hf
    · rename_i hln
      have hcp := Rep.refd' R.hU (R.opnd h2) hv
      have e1 := hcp.1
      have e2 := h.1
      simp at e1 e2
      have hs : ((a.eval x).cells.zipIdx.foldl (fun cs (p : Value × Nat) => cs.setIfInBounds (off + p.2) p.1) arr).toList = arr.toList.take off ++ (a.eval x).cells.toList ++ arr.toList.drop (off + (a.eval x).cells.toList.length) := by
        have := foldl_set off (a.eval x).cells.toList 0 arr (by simp; omega)
        rw [← Array.foldl_toList, Array.toList_zipIdx]
        simpa using this
      obtain ⟨arr', g1, g2⟩ := fill_refs R place placeR hpl parts rest _ cs' _ h4 hf (by rw [hs]; exact h.setAt hcp (by omega))
      refine ⟨arr', ?_, g2⟩
      simp only [List.map_cons, Instr.fill, hpl i off ty n h1 h3]
      rw [if_neg (by simp; omega)]
      exact g1
    · cases hf

theorem mapM_at' {α β : Type} {f : α → Option β} : ∀ {l : List α} {r : List β}, l.mapM f = some r → ∀ (i : Nat) (x : α), l[i]? = some x → ∃ b, r[i]? = some b ∧ f x = some b
  | [], r, h, i, x, hx => by simp at hx
  | y :: l, r, h, i, x, hx => by
    simp only [List.mapM_cons, Option.bind_eq_bind, Option.bind_eq_some_iff, Option.pure_def, Option.some.injEq] at h
    obtain ⟨b, hb, bs, hbs, rfl⟩ := h
    cases i with
    | zero => simp at hx; subst hx; exact ⟨b, by simp, hb⟩
    | succ i => simp at hx; obtain ⟨c, h1, h2⟩ := mapM_at' hbs i x hx; exact ⟨c, by simpa using h1, h2⟩
theorem mapM_len' {α β : Type} {f : α → Option β} : ∀ {l : List α} {r : List β}, l.mapM f = some r → r.length = l.length
  | [], r, h => by simp at h; subst h; rfl
  | y :: l, r, h => by
    simp only [List.mapM_cons, Option.bind_eq_bind, Option.bind_eq_some_iff, Option.pure_def, Option.some.injEq] at h
    obtain ⟨b, hb, bs, hbs, rfl⟩ := h
    simp [mapM_len' hbs]
theorem run_int_arg (w : World) (k : IntKind) (n : Int) : (asIntOf (.int k n)).run P w = .ok (k, n) w := rfl
end Go.Proofs.Ythplooifbkopgaa
