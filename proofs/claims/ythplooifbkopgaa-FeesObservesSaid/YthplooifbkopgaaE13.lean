/- Operations of the abstract machine: loads, stores, slices that are written out. -/
import Derived.Test.YthplooifbkopgaaE12
namespace Go.Proofs.Ythplooifbkopgaa
set_option linter.unusedVariables false
set_option linter.unusedSimpArgs false
variable {ren : Nat → Option Nat} {we : World} {ωe : Nat → Ow} {U : Nat → Nat → Prop} {O : Nat → Prop} {σ : St} {a : Act} {w : World} {ω : Nat → Ow} {μ : Nat → Nat} {P : Program} {nb : Nat}

theorem buildSlice_step (R : Rel ren we ωe U O σ a w ω μ) {o : Oper} {t e : TypeId} {n : Nat} {parts : Array (Nat × Operand)} (hop : o.op = .buildSlice t n parts) (ht : P.underlying t = some (.slice e)) {z : List V} (hz : zeroC P e = some z) {sz : Nat} (hsz : sizeT P e = some sz) (hpos : 0 < sz) (hzl : z.length = sz) (hbig : n * sz ≤ 1000000)
    {ps : List (Nat × Nat × Src)} (hps : cParts P ren (fun i => some (i * sz, e)) parts.toList = some ps) {nb : Nat} {cb : CB} {pin : Bool} {σ' : St} (h : stepK cb nb σ o.dst pin (.buildSlice sz n (z.map V.dem) ps) = some σ') : StepOk P ren we ωe U O a w o σ' nb μ := by
  obtain ⟨i, zv, hi, hzv, hcz⟩ := zeroC_rep (ren := ren) (w := w) (Wr := wr U ω) hz
  obtain ⟨i2, hi2, e2⟩ := sizeT_info hsz
  rw [hi] at hi2; cases hi2
  simp only [stepK, Option.bind_eq_bind, Option.bind_eq_some_iff] at h
  obtain ⟨cs', hf, h⟩ := h
  have hd := dem_cells hcz
  have hzl' : (z.map V.dem).length = sz := by simp [hzl]
  have hbig' : ¬ (2 ^ 24 < n * sz) := by omega
  let zero : Array Value := if n * sz = 0 then #[] else zv.cells
  have hzero : zero = if n * sz = 0 then #[] else zv.cells := rfl
  have hinit : CellsP ren w (wr U ω) (List.replicate n (z.map V.dem)).flatten ((Array.range (n * sz)).map (fun i => zero[i % zero.size]!)).toList := by
    refine ⟨?_, fun j v hv => ?_⟩
    · rw [flatten_len (sz := sz) (fun x hx => by rw [List.eq_of_mem_replicate hx]; exact hzl')]; simp
    · have hn0 : n * sz ≠ 0 := by
        intro h0
        have : n = 0 := by
          rcases Nat.mul_eq_zero.1 h0 with h | h
          · exact h
          · omega
        subst this
        simp at hv
      rw [hzero, if_neg hn0]
      obtain ⟨u, g1, g2⟩ := zeros_cells hd n (n * sz) (by rw [hzl']; exact Nat.le_refl _) (by omega) j v hv
      exact ⟨u, by rw [Array.getElem?_toList]; exact g1, g2⟩
  obtain ⟨arr', g1, g2⟩ := fill_rel R (fun i => some (i * sz, e)) (fun i => some (i * sz, sz)) (fun i off ty m h1 h2 => by simp at h1; obtain ⟨rfl, rfl⟩ := h1; rw [hsz] at h2; cases h2; rfl) parts.toList ps _ cs' _ hps hf hinit
  have g1' : Instr.fill (fun i => some (i * sz, sz)) ((Array.range (n * sz)).map (fun i => zero[i % zero.size]!)) ((parts.map fun (i, x) => (i, a.eval x)).toList) = some arr' := by simpa using g1
  have run : (Instr.buildSlice t n (parts.map fun (i, x) => (i, a.eval x))).run P w = .ok (.slice (some ⟨w.heap.size, 0, none⟩) n n) (w.alloc (.cells arr' e)) := by
    unfold Instr.buildSlice
    by_cases h0 : n * sz = 0
    · have hz0 : zero = #[] := by rw [hzero, if_pos h0]
      rw [hz0] at g1'
      simp only [Sem.run_bind, run_underlying ht, run_sizeOf hsz, Result.andThen_ok]
      simp [h0] at g1' ⊢
      simp [g1', newRow]
    · have hz0 : zero = zv.cells := by rw [hzero, if_neg h0]
      rw [hz0] at g1'
      simp only [Sem.run_bind, run_underlying ht, run_sizeOf hsz, Result.andThen_ok]
      have hnb : ¬ (16777216 < n * sz) := by omega
      have g1'' : Instr.fill (fun i => some (i * sz, sz)) ((Array.range (n * sz)).map (fun i => zv.cells[i % zv.cells.size]!)) (List.map (fun x => (x.fst, a.eval x.snd)) parts.toList) = some arr' := by simpa using g1'
      simp [h0, hnb, zeroValue, typeInfo, hi, hzv, g1'', newRow]
  refine .value (u := .slice (some ⟨w.heap.size, 0, none⟩) n n) (w' := w.alloc (.cells arr' e)) (by simp [execOp, hop, run]) ?_
  have hl' : cs'.length = n * sz := by
    have h1 := g2.1
    have h2 : ∀ (ps : List (Nat × Nat × Src)) (cs cs' : List V), fillParts σ ps cs = some cs' → cs'.length = cs.length := by
      intro ps
      induction ps with
      | nil => intro cs cs' h; cases h; rfl
      | cons p ps ih =>
        obtain ⟨off, m, x⟩ := p
        intro cs cs' h
        simp only [fillParts, Option.bind_eq_bind, Option.bind_eq_some_iff] at h
        obtain ⟨v, _, h⟩ := h
        split at h
        · rename_i hc
          rw [ih _ _ h, setAt_length (by omega)]
        · cases h
    rw [h2 _ _ _ hf, flatten_len (sz := sz) (fun x hx => by rw [List.eq_of_mem_replicate hx]; exact hzl')]; simp
  obtain ⟨q1, q2⟩ := cells_arr g2
  have key := putG_new R h (arr := arr') (T := e) (c := n) (chunks_each _ _ _ (by omega)) (by rw [chunks_length]; exact Nat.le_refl _) (fun _ he => by rw [← chunks_length sz n cs', he]; rfl) (by omega) (fun j v hv => by
    rw [chunks_flatten, List.take_of_length_le (by omega)] at hv
    exact q2 j v hv)
  rw [chunks_length] at key
  exact key

theorem run_load {t : TypeId} {b : Bool} {n : Nat} (h1 : aggT P t = some b) (h2 : sizeT P t = some n) {k q : Nat} (us : List Value) (hb1 : b = true → us.length = n) (hb2 : b = false → us.length = 1) (hc : ∀ (j : Nat) (u : Value), us[j]? = some u → w.cell? ⟨k, q + j, none⟩ = some u) {o : Oper} {x : Operand} (hop : o.op = .load t x) (hx : a.eval x = .pointer (some ⟨k, q, none⟩)) :
    (execOp a.eval o).run P w = .ok (.value (if b then .agg us.toArray else us.getD 0 undef)) w := by
  have hl := run_loadCells_list (P := P) w ⟨k, q, none⟩ us (fun j u hu => by rw [add_mk]; exact hc j u hu)
  simp only [execOp, hop, hx, Instr.loadAt, Instr.sureAddr, Sem.run_bind, Sem.run_pure, Result.andThen_ok, loadVar, run_isAgg h1]
  cases b with
  | true =>
    rw [hb1 rfl] at hl
    simp only [if_true, Sem.run_bind, run_sizeOf h2, Result.andThen_ok, hl, Sem.run_pure]
  | false =>
    cases us with
    | nil => simp at hb2
    | cons u us =>
      have := hc 0 u rfl
      simp only [Nat.add_zero] at this
      simp [load, Sem.run, this]
theorem load_fp_step (R : Rel ren we ωe U O σ a w ω μ) {o : Oper} {t : TypeId} {x : Operand} (hop : o.op = .load t x) {b : Bool} {n : Nat} (h1 : aggT P t = some b) (h2 : sizeT P t = some n) {s : Src} {t1 : TypeId} (hs : cSrc P ren t1 x = some s) {m : Nat} {cs : List V} (hg : s.get σ = .fp m cs) {v : V}
    (hv : (b = true ∧ n ≤ m ∧ v = .agg (cs.take n)) ∨ (b = false ∧ cs[0]? = some v)) : StepOk P ren we ωe U O a w o (σ.put o.dst v) nb μ := by
  have hr := R.opnd hs
  rw [hg] at hr
  obtain ⟨k, q, f, ex, hl, hcell, g1, g2⟩ := hr.fp_inv
  rcases hv with ⟨rfl, hn, rfl⟩ | ⟨rfl, hv⟩
  · have hcs : ∀ (j : Nat) (u : Value), ((List.range n).map f)[j]? = some u → w.cell? ⟨k, q + j, none⟩ = some u ∧ ∃ c, cs[j]? = some c ∧ u = f j := by
      intro j u hu
      rw [List.getElem?_map] at hu
      cases hj : (List.range n)[j]? with
      | none => simp [hj] at hu
      | some j' =>
        have hjn : j < n := by have := (List.getElem?_eq_some_iff.1 hj).1; simpa using this
        have hj' : j' = j := by rw [List.getElem?_range hjn] at hj; cases hj; rfl
        subst hj'
        simp [hj] at hu
        subst hu
        have hlt : j' < cs.length := by omega
        have := hcell j' _ (List.getElem?_eq_getElem hlt)
        exact ⟨this.2, _, List.getElem?_eq_getElem hlt, rfl⟩
    have run := run_load (P := P) (a := a) (w := w) h1 h2 ((List.range n).map f) (by simp) (by simp) (fun j u hu => (hcs j u hu).1) hop ex
    refine .value run ⟨ω, μ, R.put _ (fun i _ => .pure ?_), fun _ _ => rfl⟩
    refine CellsP.agg (us := (List.range n).map f) ⟨by simp; omega, fun i c hc => ?_⟩
    rw [List.getElem?_take] at hc
    split at hc
    · rename_i hin
      exact ⟨f i, by simp [hin], g1 i c hc, g2 i c hc⟩
    · cases hc
  · have run := run_load (P := P) (a := a) (w := w) h1 h2 [f 0] (by simp) (by simp) (fun j u hu => by
      cases j with
      | zero => simp at hu; subst hu; exact (hcell 0 v hv).2
      | succ j => simp at hu) hop ex
    exact .value run ⟨ω, μ, R.put _ (fun i _ => .pure (g2 0 v hv)), fun _ _ => rfl⟩
/-- a block's cells, as a list -/
theorem Rel.cellsAt {T : TypeId} {fr : Nat × Nat} {k : Nat} {arr : Array Value} (h : w.heap[k]? = some (.cells arr T fr)) {off n : Nat} (hl : off + n ≤ arr.size) : ∀ (j : Nat) (u : Value), ((arr.toList.drop off).take n)[j]? = some u → w.cell? ⟨k, off + j, none⟩ = some u := by
  intro j u hu
  rw [List.getElem?_take] at hu
  split at hu
  · rw [List.getElem?_drop] at hu
    rw [cell_of_row _ _ _ _ _ _ h]; simpa using hu
  · cases hu
theorem load_agg_step (R : Rel ren we ωe U O σ a w ω μ) {o : Oper} {t : TypeId} {x : Operand} (hop : o.op = .load t x) {n : Nat} (h1 : aggT P t = some true) (h2 : sizeT P t = some n) {s : Src} {t1 : TypeId} (hs : cSrc P ren t1 x = some s) {id off : Nat} (hg : s.get σ = .ptr id off) {arr : Array Value} {T : TypeId} {fr : Nat × Nat} (hb : w.heap[μ id]? = some (.cells arr T fr)) {vs : List V}
    (hl : off + n ≤ arr.size) (hvl : vs.length = n) (hc : ∀ (j : Nat) (c : V), vs[j]? = some c → ∃ u, arr[off + j]? = some u ∧ u.oneCell' = true ∧ RepP ren w (wr U ω) c u) : StepOk P ren we ωe U O a w o (σ.put o.dst (.agg vs)) nb μ := by
  have hr := R.opnd hs
  rw [hg] at hr
  obtain ⟨L, hL, ex⟩ := hr.ptr_inv
  have run := run_load (P := P) (a := a) (w := w) h1 h2 ((arr.toList.drop off).take n) (by simp; omega) (by simp) (Rel.cellsAt hb hl) hop ex
  refine .value run ⟨ω, μ, R.put _ (fun i _ => .pure ?_), fun _ _ => rfl⟩
  refine CellsP.agg (us := (arr.toList.drop off).take n) ⟨by simp; omega, fun j c hcj => ?_⟩
  obtain ⟨u, g1, g2, g3⟩ := hc j c hcj
  have hjn : j < n := by have := (List.getElem?_eq_some_iff.1 hcj).1; omega
  refine ⟨u, ?_, g2, g3⟩
  rw [List.getElem?_take, if_pos hjn, List.getElem?_drop]; simpa using g1
theorem load_st_step (R : Rel ren we ωe U O σ a w ω μ) {o : Oper} {t : TypeId} {x : Operand} (hop : o.op = .load t x) {n : Nat} (h1 : aggT P t = some true) (h2 : sizeT P t = some n) {s : Src} {t1 : TypeId} (hs : cSrc P ren t1 x = some s) {id off : Nat} (hg : s.get σ = .ptr id off) {arr : Array Value} {T : TypeId} {fr : Nat × Nat} (hb : w.heap[μ id]? = some (.cells arr T fr)) {vs : List V}
    (hl : off + n ≤ arr.size) (hvl : vs.length = n) (hc : ∀ (j : Nat) (c : V), vs[j]? = some c → ∃ u, arr[off + j]? = some u ∧ u.oneCell' = true ∧ (RepP ren w (wr U ω) c u ∨ OwnAt (env U σ w ω μ) c u)) : StepOk P ren we ωe U O a w o (σ.put o.dst (.st vs)) nb μ := by
  have hr := R.opnd hs
  rw [hg] at hr
  obtain ⟨L, hL, ex⟩ := hr.ptr_inv
  have run := run_load (P := P) (a := a) (w := w) h1 h2 ((arr.toList.drop off).take n) (by simp; omega) (by simp) (Rel.cellsAt hb hl) hop ex
  refine .value run ⟨ω, μ, R.put _ (fun i _ => ?_), fun _ _ => rfl⟩
  have at_ : ∀ (j : Nat) (c : V), vs[j]? = some c → ∃ u, ((arr.toList.drop off).take n)[j]? = some u ∧ u.oneCell' = true ∧ (RepP ren w (wr U ω) c u ∨ OwnAt (env U σ w ω μ) c u) := by
    intro j c hcj
    obtain ⟨u, g1, g2, g3⟩ := hc j c hcj
    have hjn : j < n := by have := (List.getElem?_eq_some_iff.1 hcj).1; omega
    refine ⟨u, ?_, g2, g3⟩
    rw [List.getElem?_take, if_pos hjn, List.getElem?_drop]; simpa using g1
  have hlen : ((arr.toList.drop off).take n).length = n := by simp; omega
  refine .st vs ((arr.toList.drop off).take n) (by omega) (fun j c u hcj hu => ?_) (fun u hu => ?_)
  · obtain ⟨u', g1, g2, g3⟩ := at_ j c hcj
    rw [hu] at g1; cases g1
    exact g3
  · obtain ⟨j, hj, e⟩ := List.getElem_of_mem hu
    have hjv : j < vs.length := by omega
    obtain ⟨u', g1, g2, g3⟩ := at_ j _ (List.getElem?_eq_getElem hjv)
    rw [List.getElem?_eq_getElem hj, e] at g1; cases g1
    exact g2
theorem Rep.refd {E : En} (hU : ∀ β l h i, E.ω β = .gs l h → i < h → ¬ E.Wr β i) {l : Loc} {v v' : V} {u : Value} (h : Rep ren E l v u) (hp : v.refd = some v') : RepP ren E.w E.Wr v' u ∨ OwnAt E v' u := by
  cases v with
  | own id off len sz => cases hp; exact .inr h.ownAt
  | _ => exact .inl (h.plain hU hp)
theorem load_cell_step (R : Rel ren we ωe U O σ a w ω μ) {o : Oper} {t : TypeId} {x : Operand} (hop : o.op = .load t x) {n : Nat} (h1 : aggT P t = some false) (h2 : sizeT P t = some n) {s : Src} {t1 : TypeId} (hs : cSrc P ren t1 x = some s) {id off : Nat} (hg : s.get σ = .ptr id off) {arr : Array Value} {T : TypeId} {fr : Nat × Nat} (hb : w.heap[μ id]? = some (.cells arr T fr)) {u : Value} (hu : arr[off]? = some u) {σ' : St} (hR : ∃ ω' μ', Rel ren we ωe U O σ' (a.put o.dst u) w ω' μ' ∧ ∀ k, k < nb → μ' k = μ k) : StepOk P ren we ωe U O a w o σ' nb μ := by
  have hr := R.opnd hs
  rw [hg] at hr
  obtain ⟨L, hL, ex⟩ := hr.ptr_inv
  have run := run_load (P := P) (a := a) (w := w) h1 h2 [u] (by simp) (by simp) (fun j u' hu' => by
    cases j with
    | zero => simp at hu'; subst hu'; show w.cell? ⟨μ id, off + 0, none⟩ = _; rw [Nat.add_zero, cell_of_row _ _ _ _ _ _ hb]; exact hu
    | succ j => simp at hu') hop ex
  exact .value run hR
theorem Rel.setCellV (R : Rel ren we ωe U O σ a w ω μ) {id : Nat} {cs : List V} (hid : σ.b[id]? = some (.live false cs)) {off : Nat} {v : V} (hv : cs[off]? = some v) : Rel ren we ωe U O (σ.setB id (.live false (cs.set off v.dem))) a w ω μ := by
  have hlt : id < σ.b.length := (List.getElem?_eq_some_iff.1 hid).1
  have hne : cs ≠ [] := by rintro rfl; simp at hv
  obtain ⟨e0, arr, T, e1, e2, e3⟩ := R.live hid hne
  obtain ⟨F, key⟩ := R.write hid hne (cs' := cs.set off v.dem) (by simp) e1 rfl e1 (fun k _ => rfl) (Kept.refl _ w)
  refine key (fun j c hc => ?_)
  by_cases hj : j = off
  · subst hj
    rw [List.getElem?_set_self (List.getElem?_eq_some_iff.1 hv).1] at hc
    cases hc
    obtain ⟨u, g1, g2, _, g4⟩ := e3 j v hv
    refine ⟨u, g1, g2, by simp, Rep.frame0 F (fun l => g4.dem R.hU l) (fun x xs => ?_) _⟩
    cases v with
    | tup vs => cases vs <;> simp [V.dem]
    | _ => simp [V.dem]
  · rw [List.getElem?_set_ne (fun e => hj e.symm)] at hc
    obtain ⟨u, g1, g2, g3, g4⟩ := e3 j c hc
    exact ⟨u, g1, g2, by simp, g4.frame F (fun l β h _ e => ⟨e, rfl⟩)⟩
/-- a growing slice is taken out of a cell -/
theorem Rel.takenCell (R : Rel ren we ωe U O σ a w ω μ) {id : Nat} {cs : List V} (hid : σ.b[id]? = some (.live false cs)) {off : Nat} {v : V} (hv : cs[off]? = some v) {u : Value} (hr : Rep ren (env U σ w ω μ) (.cell id off) v u) (l' : Loc) :
    ∃ ω', Rel ren we ωe U O (σ.setB id (.live false (cs.set off v.dem))) a w ω' μ ∧ Rep ren (env U (σ.setB id (.live false (cs.set off v.dem))) w ω' μ) l' v.tk u := by
  have hlt : id < σ.b.length := (List.getElem?_eq_some_iff.1 hid).1
  have R1 := R.setCellV hid hv
  have hne : cs ≠ [] := by rintro rfl; simp at hv
  obtain ⟨e0, arr, T, e1, e2, e3⟩ := R.live hid hne
  obtain ⟨F1, _⟩ := R.write hid hne (cs' := cs.set off v.dem) (by simp) e1 rfl e1 (fun k _ => rfl) (Kept.refl _ w)
  have hbl : blen (σ.b.set id (.live false (cs.set off v.dem))) = blen σ.b := by
    funext k
    unfold blen
    by_cases hk : k = id
    · subst hk; rw [List.getElem?_set_self hlt, hid]; simp
    · rw [List.getElem?_set_ne (fun e => hk e.symm)]
  have plain : (∀ sz es, v ≠ .gs sz es) → ∃ ω', Rel ren we ωe U O (σ.setB id (.live false (cs.set off v.dem))) a w ω' μ ∧ Rep ren (env U (σ.setB id (.live false (cs.set off v.dem))) w ω' μ) l' v.tk u := by
    intro hne
    refine ⟨ω, R1, ?_⟩
    have e : v.tk = v.dem := by cases v <;> first | rfl | exact absurd rfl (hne _ _)
    rw [e]
    refine Rep.frame0 F1 (fun l => hr.dem R.hU l) (fun x xs => ?_) _
    cases v with
    | tup vs => cases vs <;> simp [V.dem]
    | _ => simp [V.dem]
  cases v with
  | gs sz es =>
    cases hr with
    | pure h => cases h with
      | nil _ A => exact ⟨ω, R1, .pure (.nil _ _)⟩
    | gs _ _ β c arr' T' f hω hb hc hn hsz hcell h1 h =>
      have hβ : ω β = .gs (.cell id off) (es.length * sz) := hω
      have F := relabel_fr U (σ.setB id (.live false (cs.set off (V.gs sz es).dem))) w μ hβ l'
      have R2 := R1.relabel (l := .cell id off) hβ l' (fun t v hj hl => by cases hl) (fun id' j p cs' v' hb' hc' hl u' hr' => by
        cases hl
        simp only [St.setB] at hb'
        rw [List.getElem?_set_self hlt] at hb'
        cases hb'
        rw [List.getElem?_set_self (List.getElem?_eq_some_iff.1 hv).1] at hc'
        cases hc'
        refine Rep.frame0 F (fun l => ?_) (by simp [V.dem]) _
        cases hr' with
        | pure h => exact .pure h)
      exact ⟨_, R2, .gs sz es β c arr' T' f (upd_same _ _ _) hb hc hn hsz hcell h1 (fun i v hv => ((h i v hv).mono F1.st).mono F.st)⟩
  | _ => exact plain (by simp)
theorem mapM_plain {vs : List V} : ∀ {cs : List V}, cs.mapM V.plain = some vs → vs.length = cs.length ∧ ∀ (j : Nat) (c : V), vs[j]? = some c → ∃ c0, cs[j]? = some c0 ∧ c0.plain = some c := by
  intro cs h
  refine ⟨mapM_len' h, fun j c hc => ?_⟩
  have hlt : j < cs.length := by rw [← mapM_len' h]; exact (List.getElem?_eq_some_iff.1 hc).1
  obtain ⟨b, hb, hb'⟩ := mapM_at' h j _ (List.getElem?_eq_getElem hlt)
  rw [hc] at hb; cases hb
  exact ⟨_, List.getElem?_eq_getElem hlt, hb'⟩
theorem mapM_refd {vs : List V} : ∀ {cs : List V}, cs.mapM V.refd = some vs → vs.length = cs.length ∧ ∀ (j : Nat) (c : V), vs[j]? = some c → ∃ c0, cs[j]? = some c0 ∧ c0.refd = some c := by
  intro cs h
  refine ⟨mapM_len' h, fun j c hc => ?_⟩
  have hlt : j < cs.length := by rw [← mapM_len' h]; exact (List.getElem?_eq_some_iff.1 hc).1
  obtain ⟨b, hb, hb'⟩ := mapM_at' h j _ (List.getElem?_eq_getElem hlt)
  rw [hc] at hb; cases hb
  exact ⟨_, List.getElem?_eq_getElem hlt, hb'⟩
theorem load_step (R : Rel ren we ωe U O σ a w ω μ) {o : Oper} {t : TypeId} {x : Operand} (hop : o.op = .load t x) {b : Bool} {n : Nat} (h1 : aggT P t = some b) (h2 : sizeT P t = some n) {s : Src} {t1 : TypeId} (hs : cSrc P ren t1 x = some s) {nb : Nat} {cb : CB} {take pin : Bool} {σ' : St} (h : stepK cb nb σ o.dst pin (.load b n s take) = some σ') : StepOk P ren we ωe U O a w o σ' nb μ := by
  simp only [stepK] at h
  split at h
  · rename_i id off hg
    split at h
    · rename_i p cs hb
      rcases R.bs id p cs hb with h0 | hbs
      · subst h0
        split at h
        · rename_i hagg
          subst hagg
          split at h
          · rename_i hfit
            obtain rfl : n = 0 := by simp at hfit; omega
            have hr := R.opnd hs
            rw [hg] at hr
            obtain ⟨L, hL, ex⟩ := hr.ptr_inv
            have run := run_load (P := P) (a := a) (w := w) h1 h2 [] (by simp) (by simp) (fun j u hu => by simp at hu) hop ex
            refine .value run ⟨ω, μ, ?_, fun _ _ => rfl⟩
            split at h
            · cases h; exact R.put _ (fun i _ => .pure (.agg _ [] (by simp) (by simp) (by simp)))
            · split at h
              · simp at h; subst h; exact R.put _ (fun i _ => .st _ [] (by simp) (by simp) (by simp))
              · simp at h; subst h; exact R.put _ (fun i _ => .pure (.agg _ [] (by simp) (by simp) (by simp)))
          · cases h
        · simp at h
      obtain ⟨e0, arr, T, e1, e2, e3⟩ := hbs
      split at h
      · rename_i hagg
        subst hagg
        split at h
        · rename_i hfit
          split at h
          · rename_i hp
            subst hp
            cases h
            refine load_agg_step R hop h1 h2 hs hg e1 (by omega) (by simp; omega) (fun j c hc => ?_)
            rw [List.getElem?_take] at hc
            split at hc
            · rw [List.getElem?_drop] at hc
              obtain ⟨u, g1, g2, g3, _⟩ := e3 _ c hc
              exact ⟨u, g1, g2, g3 rfl⟩
            · cases hc
          split at h
          · simp only [Option.bind_eq_bind, Option.bind_eq_some_iff, Option.some.injEq] at h
            obtain ⟨vs, hvs, rfl⟩ := h
            obtain ⟨q1, q2⟩ := mapM_refd hvs
            refine load_st_step R hop h1 h2 hs hg e1 (by omega) (by rw [q1]; simp; omega) (fun j c hc => ?_)
            obtain ⟨c0, hc0, hp0⟩ := q2 j c hc
            rw [List.getElem?_take] at hc0
            split at hc0
            · rw [List.getElem?_drop] at hc0
              obtain ⟨u, g1, g2, g3, g4⟩ := e3 _ c0 hc0
              exact ⟨u, g1, g2, g4.refd R.hU hp0⟩
            · cases hc0
          · simp only [Option.bind_eq_bind, Option.bind_eq_some_iff, Option.some.injEq] at h
            obtain ⟨vs, hvs, rfl⟩ := h
            obtain ⟨q1, q2⟩ := mapM_plain hvs
            refine load_agg_step R hop h1 h2 hs hg e1 (by omega) (by rw [q1]; simp; omega) (fun j c hc => ?_)
            obtain ⟨c0, hc0, hp0⟩ := q2 j c hc
            rw [List.getElem?_take] at hc0
            split at hc0
            · rw [List.getElem?_drop] at hc0
              obtain ⟨u, g1, g2, g3, g4⟩ := e3 _ c0 hc0
              exact ⟨u, g1, g2, g4.plain R.hU hp0⟩
            · cases hc0
        · cases h
      · rename_i hagg
        obtain rfl : b = false := by simpa using hagg
        split at h
        · rename_i v hv
          obtain ⟨u, g1, g2, g3, g4⟩ := e3 _ v hv
          split at h
          · split at h
            · cases h
            · rename_i hp
              obtain rfl : p = false := by simpa using hp
              cases h
              refine load_cell_step R hop h1 h2 hs hg e1 g1 ?_
              cases hd : o.dst with
              | none =>
                obtain ⟨ω', R', _⟩ := R.takenCell hb hv g4 (.slot 0 0)
                exact ⟨ω', μ, R', fun _ _ => rfl⟩
              | some d =>
                obtain ⟨ω', R', hr'⟩ := R.takenCell hb hv g4 (.slot d 0)
                exact ⟨ω', μ, R'.put (some d) (fun i hi => by cases hi; exact hr'), fun _ _ => rfl⟩
          · cases h
            exact load_cell_step R hop h1 h2 hs hg e1 g1 ⟨ω, μ, R.put _ (fun i _ => g4.dem R.hU _), fun _ _ => rfl⟩
        · cases h
    · rename_i cs hb
      obtain ⟨e0, arr, T, fr, e1, e2, e3⟩ := R.fs id cs hb
      split at h
      · rename_i hagg
        subst hagg
        split at h
        · cases h
          refine load_agg_step R hop h1 h2 hs hg e1 (by omega) (by simp; omega) (fun j c hc => ?_)
          rw [List.getElem?_take] at hc
          split at hc
          · rw [List.getElem?_drop] at hc
            exact e3 _ c hc
          · cases hc
        · cases h
      · rename_i hagg
        obtain rfl : b = false := by simpa using hagg
        split at h
        · rename_i v hv
          cases h
          obtain ⟨u, g1, g2, g3⟩ := e3 _ v hv
          exact load_cell_step R hop h1 h2 hs hg e1 g1 ⟨ω, μ, R.put _ (fun i _ => .pure g3), fun _ _ => rfl⟩
        · cases h
    · cases h
  · rename_i m cs hg
    split at h
    · rename_i hagg
      split at h
      · rename_i hn; cases h; exact load_fp_step R hop h1 h2 hs hg (.inl ⟨hagg, hn, rfl⟩)
      · cases h
    · rename_i hagg
      split at h
      · rename_i v hv; cases h; exact load_fp_step R hop h1 h2 hs hg (.inr ⟨by simpa using hagg, hv⟩)
      · cases h
  · cases h
end Go.Proofs.Ythplooifbkopgaa
