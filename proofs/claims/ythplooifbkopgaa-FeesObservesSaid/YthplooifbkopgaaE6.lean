/- Operations of the abstract machine that only compute: one by one. -/
import Derived.Test.YthplooifbkopgaaE5
namespace Go.Proofs.Ythplooifbkopgaa
set_option linter.unusedVariables false
set_option linter.unusedSimpArgs false
variable {ren : Nat → Option Nat} {we : World} {ωe : Nat → Ow} {U : Nat → Nat → Prop} {O : Nat → Prop} {σ : St} {a : Act} {w : World} {ω : Nat → Ow} {μ : Nat → Nat} {P : Program}

/-- the operation gives a value and leaves the world alone -/
def Gives (P : Program) (ren : Nat → Option Nat) (E : En) (a : Act) (o : Oper) (v : V) : Prop :=
  ∃ u, (execOp a.eval o).run P E.w = .ok (.value u) E.w ∧ ∀ l, Rep ren E l v u

theorem zMatch_rep {Wr : Nat → Nat → Prop} {v : V} {u : Value} (h : zMatch v u = true) : u.oneCell' = true ∧ RepP ren w Wr v u := by
  unfold zMatch at h
  split at h
  · simp at h; subst h; exact ⟨rfl, .sc _ rfl⟩
  · simp at h; obtain ⟨rfl, rfl⟩ := h; exact ⟨rfl, .sc _ rfl⟩
  · rename_i x y
    simp only [Bool.and_eq_true, beq_iff_eq] at h
    have : x = y := by
      apply ByteArray.ext
      apply Array.ext
      · rw [ByteArray.size_data, ByteArray.size_data]; omega
      · intro i h1 h2; rw [ByteArray.size_data] at h1; omega
    subst this
    exact ⟨rfl, .sc _ rfl⟩
  · exact ⟨rfl, .sc _ rfl⟩
  · exact ⟨rfl, .sc _ rfl⟩
  · exact ⟨rfl, .sc _ rfl⟩
  · exact ⟨rfl, .nil _ _⟩
  · cases h
theorem zMatchAll_rep {Wr : Nat → Nat → Prop} : ∀ {vs : List V} {us : List Value}, zMatchAll vs us = true → CellsP ren w Wr vs us
  | [], [], h => ⟨rfl, by simp⟩
  | v :: vs, u :: us, h => by
    simp only [zMatchAll, Bool.and_eq_true] at h
    obtain ⟨e, ih⟩ := zMatchAll_rep h.2
    refine ⟨by simp [e], fun i c hc => ?_⟩
    cases i with
    | zero => simp at hc; subst hc; obtain ⟨h1, h2⟩ := zMatch_rep (ren := ren) (w := w) (Wr := Wr) h.1; exact ⟨u, by simp, h1, h2⟩
    | succ i => simp at hc; obtain ⟨x, hx⟩ := ih i c hc; exact ⟨x, by simpa using hx⟩
  | [], u :: us, h => by simp [zMatchAll] at h
  | v :: vs, [], h => by simp [zMatchAll] at h
theorem zeroC_rep {Wr : Nat → Nat → Prop} {t : TypeId} {cs : List V} (h : zeroC P t = some cs) : ∃ i z, P.info? t = some i ∧ i.zero = some z ∧ CellsP ren w Wr cs z.cells.toList := by
  unfold zeroC at h
  simp only [Option.bind_eq_bind, Option.bind_eq_some_iff] at h
  obtain ⟨cs', h1, z, ⟨i, hi, hz⟩, h3⟩ := h
  split at h3
  · rename_i hm; cases h3; exact ⟨i, z, hi, hz, zMatchAll_rep hm⟩
  · cases h3

theorem sizeT_info {t : TypeId} {n : Nat} (h : sizeT P t = some n) : ∃ i, P.info? t = some i ∧ i.size = n := by
  unfold sizeT at h
  cases hi : P.info? t with
  | none => simp [hi] at h
  | some i => simp [hi] at h; exact ⟨i, rfl, h⟩
theorem run_sizeOf {t : TypeId} {n : Nat} (h : sizeT P t = some n) (w : World) : (sizeOf t).run P w = .ok n w := by
  obtain ⟨i, hi, e⟩ := sizeT_info h
  simp [sizeOf, typeInfo, hi, e]
theorem run_isAgg {t : TypeId} {b : Bool} (h : aggT P t = some b) (w : World) : (isAgg t).run P w = .ok b w := by
  unfold aggT at h
  cases hu : P.underlying t with
  | none => simp [hu] at h
  | some d =>
    simp [hu] at h
    subst h
    unfold isAgg
    rw [Sem.run_bind, run_underlying hu w]
    cases d <;> simp

theorem pick_ok (R : Rel ren we ωe U O σ a w ω μ) {o : Oper} {c x y : Operand} (hop : o.op = .pick c x y) {sc sx sy : Src} {t1 t2 t3 : TypeId} (h1 : cSrc P ren t1 c = some sc) (h2 : cSrc P ren t2 x = some sx) (h3 : cSrc P ren t3 y = some sy)
    {v : V} (hp : pureK σ (.pick sc sx sy) = some v) : Gives P ren (env U σ w ω μ) a o v := by
  simp only [pureK, Option.bind_eq_bind, Option.bind_eq_some_iff, Option.pure_def, Option.some.injEq] at hp
  obtain ⟨t, ht, rfl⟩ := hp
  have hc := (R.opnd h1).bool ht
  refine ⟨if t then a.eval x else a.eval y, ?_, fun l => ?_⟩
  · simp [execOp, hop, hc, asBool]
  · cases t
    · exact (R.opnd h3).dem R.hU l
    · exact (R.opnd h2).dem R.hU l

theorem dem_cells {Wr : Nat → Nat → Prop} {cs : List V} {us : List Value} (h : CellsP ren w Wr cs us) : CellsP ren w Wr (cs.map V.dem) us := by
  refine ⟨by simpa using h.1, fun i c hc => ?_⟩
  rw [List.getElem?_map] at hc
  cases hci : cs[i]? with
  | none => simp [hci] at hc
  | some c' =>
    simp [hci] at hc; subst hc
    obtain ⟨u, g1, g2, g3⟩ := h.2 i c' hci
    refine ⟨u, g1, g2, ?_⟩
    cases g3 with
    | sc _ h => exact .sc _ h
    | agg cs us hl h h1 => exact .agg cs us hl h h1
    | sl sz es A c f hc hsz k o hA hcell h1 h => exact .sl sz es A c f hc hsz k o hA hcell h1 h
    | nil sz A => exact .sl sz [] A 0 (fun _ => undef) (Nat.le_refl _) (by simp) 0 0 (by simp) (by simp) (by simp) (by simp)
    | fn f g h => exact .fn f g h
theorem build_ok (R : Rel ren we ωe U O σ a w ω μ) {o : Oper} {take : Bool} {xs : List Nat} {t : TypeId} {parts : Array (Nat × Operand)} (hop : o.op = .build t parts) {k : K} (hk : cK P ren o take xs = some k) {v : V} (hp : pureK σ k = some v) : Gives P ren (env U σ w ω μ) a o v := by
  unfold cK at hk
  rw [hop] at hk
  simp only [Option.bind_eq_bind, Option.bind_eq_some_iff] at hk
  obtain ⟨z, hz, d, hd, hk⟩ := hk
  obtain ⟨it, zv, hit, hzv, hcp⟩ := zeroC_rep (ren := ren) (w := w) (Wr := wr U ω) hz
  have keyS : ∀ (place : Nat → Option (Nat × TypeId)) (placeR : Nat → Option (Nat × Nat)) (ps : List (Nat × Nat × Src)), (∀ i off ty n, place i = some (off, ty) → sizeT P ty = some n → placeR i = some (off, n)) →
      cParts P ren place parts.toList = some ps → pureK σ (.buildSt (z.map V.dem) ps) = some v → (∀ arr', Instr.fill placeR zv.cells (parts.toList.map fun p => (p.1, a.eval p.2)) = some arr' → P.built t (parts.map fun (i, x) => (i, a.eval x)).toList = some arr') → Gives P ren (env U σ w ω μ) a o v := by
    intro place placeR ps h1 h2 h3 h4
    simp only [pureK, Option.bind_eq_bind, Option.bind_eq_some_iff, Option.pure_def, Option.some.injEq] at h3
    obtain ⟨cs', hf, rfl⟩ := h3
    obtain ⟨arr', g1, g2⟩ := fill_refs R place placeR h1 parts.toList ps (z.map V.dem) cs' zv.cells h2 hf (dem_cells hcp).toQ
    refine ⟨.agg arr', ?_, fun l => ?_⟩
    · simp only [execOp, hop, Sem.run_bind, run_build _ t _ arr' (h4 arr' g1), Result.andThen_ok, Sem.run_pure]
    · have : Rep ren (env U σ w ω μ) l (.st cs') (.agg (List.toArray arr'.toList)) := by
        refine .st cs' arr'.toList g2.1 (fun i c u hc hu => ?_) (fun u hu => ?_)
        · obtain ⟨u', q1, _, q3⟩ := g2.2 i c hc
          rw [hu] at q1; cases q1; exact q3
        · obtain ⟨i, hi, e⟩ := List.getElem_of_mem hu
          obtain ⟨u', q1, q2, _⟩ := g2.2 i _ (List.getElem?_eq_getElem (by rw [g2.1]; exact hi))
          rw [List.getElem?_eq_getElem hi, e] at q1; cases q1; exact q2
      simpa using this
  have key : ∀ (place : Nat → Option (Nat × TypeId)) (placeR : Nat → Option (Nat × Nat)) (ps : List (Nat × Nat × Src)), (∀ i off ty n, place i = some (off, ty) → sizeT P ty = some n → placeR i = some (off, n)) →
      cParts P ren place parts.toList = some ps → pureK σ (.build (z.map V.dem) ps) = some v → (∀ arr', Instr.fill placeR zv.cells (parts.toList.map fun p => (p.1, a.eval p.2)) = some arr' → P.built t (parts.map fun (i, x) => (i, a.eval x)).toList = some arr') → Gives P ren (env U σ w ω μ) a o v := by
    intro place placeR ps h1 h2 h3 h4
    simp only [pureK, Option.bind_eq_bind, Option.bind_eq_some_iff, Option.pure_def, Option.some.injEq] at h3
    obtain ⟨cs', hf, rfl⟩ := h3
    obtain ⟨arr', g1, g2⟩ := fill_rel R place placeR h1 parts.toList ps (z.map V.dem) cs' zv.cells h2 hf (dem_cells hcp)
    refine ⟨.agg arr', ?_, fun l => .pure ?_⟩
    · simp only [execOp, hop, Sem.run_bind, run_build _ t _ arr' (h4 arr' g1), Result.andThen_ok, Sem.run_pure]
    · have : RepP ren w (wr U ω) (.agg cs') (.agg arr') := by simpa using g2.agg
      exact this
  split at hk
  · simp only [Option.bind_eq_some_iff, Option.some.injEq] at hk
    obtain ⟨places, hpl, ps, hps, rfl⟩ := hk
    rename_i fs
    have hA : ∀ i off ty n, fieldPlaces fs i = some (off, ty) → sizeT P ty = some n → places.toArray[i]? = some (off, n) := by
      intro i off ty n hpi hn
      unfold fieldPlaces at hpi
      cases hf : fs[i]? with
      | none => simp [hf] at hpi
      | some f =>
        simp [hf] at hpi
        obtain ⟨rfl, rfl⟩ := hpi
        obtain ⟨inf, hinf, e⟩ := sizeT_info hn
        have hf' : fs.toList[i]? = some f := by simpa using hf
        obtain ⟨b, hb, hb'⟩ := mapM_at' hpl i f hf'
        simp [hinf, e] at hb'
        simp [hb, ← hb']
    have hB : ∀ arr', Instr.fill (fun i => places.toArray[i]?) zv.cells (parts.toList.map fun p => (p.1, a.eval p.2)) = some arr' → P.built t (parts.map fun (i, x) => (i, a.eval x)).toList = some arr' := by
      intro arr' g
      unfold Program.built
      simp only [hit, hd, hzv, hpl]
      simpa using g
    cases take with
    | true => exact keyS _ (fun i => places.toArray[i]?) ps hA hps hp hB
    | false => exact key _ (fun i => places.toArray[i]?) ps hA hps hp hB
  · rename_i n e
    simp only [Option.bind_eq_some_iff, Option.some.injEq] at hk
    obtain ⟨sz, hsz, ps, hps, rfl⟩ := hk
    obtain ⟨ie, hie, e1⟩ := sizeT_info hsz
    have hA : ∀ i off ty n, (fun i => some (i * sz, e)) i = some (off, ty) → sizeT P ty = some n → (fun i => some (i * ie.size, ie.size)) i = some (off, n) := by
      intro i off ty n hpi hn
      simp at hpi
      obtain ⟨rfl, rfl⟩ := hpi
      rw [hsz] at hn; cases hn
      simp [e1]
    have hB : ∀ arr', Instr.fill (fun i => some (i * ie.size, ie.size)) zv.cells (parts.toList.map fun p => (p.1, a.eval p.2)) = some arr' → P.built t (parts.map fun (i, x) => (i, a.eval x)).toList = some arr' := by
      intro arr' g
      unfold Program.built
      simp only [hit, hd, hzv, hie]
      simpa using g
    cases take with
    | true => exact keyS _ (fun i => some (i * ie.size, ie.size)) ps hA hps hp hB
    | false => exact key _ (fun i => some (i * ie.size, ie.size)) ps hA hps hp hB
  · cases hk

theorem nilCheck_ok (R : Rel ren we ωe U O σ a w ω μ) {o : Oper} {x : Operand} (hop : o.op = .nilCheck x) {s : Src} {t1 : TypeId} (h1 : cSrc P ren t1 x = some s)
    {v : V} (hp : pureK σ (.nilCheck s) = some v) : Gives P ren (env U σ w ω μ) a o v := by
  have hr := R.opnd h1
  simp only [pureK] at hp
  split at hp
  · rename_i id off hg
    cases hp
    rw [hg] at hr
    obtain ⟨L, hL, e⟩ := hr.ptr_inv
    exact ⟨a.eval x, by simp only [execOp, hop, e]; rfl, fun l => by rw [e]; exact .ptr id off L hL⟩
  · rename_i n cs hg
    cases hp
    rw [hg] at hr
    obtain ⟨k, o', f, e, hl, hcell, h1, h⟩ := hr.fp_inv
    exact ⟨a.eval x, by simp only [execOp, hop, e]; rfl, fun l => by rw [e]; exact .fp n cs k o' f hl hcell h1 h⟩
  · rename_i f caps hg
    cases hp
    rw [hg] at hr
    obtain ⟨f', us, e, hr', hl, h⟩ := hr.fn_inv
    exact ⟨a.eval x, by simp only [execOp, hop, e]; rfl, fun l => by rw [e]; exact .fn f' f caps us hr' hl h⟩
  · cases hp
end Go.Proofs.Ythplooifbkopgaa
