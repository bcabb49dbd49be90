/- Operations of the abstract machine: stores, append, copy, results of calls taken apart. -/
import Derived.Test.YthplooifbkopgaaE13
namespace Go.Proofs.Ythplooifbkopgaa
set_option linter.unusedVariables false
set_option linter.unusedSimpArgs false
variable {ren : Nat → Option Nat} {we : World} {ωe : Nat → Ow} {U : Nat → Nat → Prop} {O : Nat → Prop} {σ : St} {a : Act} {w : World} {ω : Nat → Ow} {μ : Nat → Nat} {P : Program} {nb : Nat}

theorem kept_setRow (w : World) (g : Nat) (cs : Array Value) : Kept (fun k => k = g) w (w.setRow g cs) :=
  ⟨rfl, rfl, rfl, by simp, fun k _ hn => setRow_other w g k cs hn⟩
theorem oneCell_list {Wr : Nat → Nat → Prop} {cs : List V} {us : List Value} (h : CellsP ren w Wr cs us) : ∀ u ∈ us, u.oneCell' = true := by
  intro u hu
  obtain ⟨i, hi, rfl⟩ := List.getElem_of_mem hu
  have hlt : i < cs.length := by rw [h.1]; exact hi
  obtain ⟨x, hx, h1, _⟩ := h.2 i _ (List.getElem?_eq_getElem hlt)
  rw [List.getElem?_eq_getElem hi] at hx; cases hx; exact h1
/-- the model's store -/
theorem run_store_at {t : TypeId} {n : Nat} (h2 : sizeT P t = some n) {o : Oper} {x y : Operand} (hop : o.op = .store t x y) {k q : Nat} (hx : a.eval x = .pointer (some ⟨k, q, none⟩)) (hn : (a.eval y).cells.size = n) {arr : Array Value} {T : TypeId} (hb : w.heap[k]? = some (.cells arr T (0, 0))) (hfit : q + n ≤ arr.size) (h1 : ∀ v ∈ (a.eval y).cells.toList, v.oneCell' = true) :
    (execOp a.eval o).run P w = .ok .skip (w.setRow k (arr.toList.take q ++ (a.eval y).cells.toList ++ arr.toList.drop (q + (a.eval y).cells.toList.length)).toArray) := by
  have hst := run_storeCells_at P k q T (a.eval y).cells.toList 0 arr w hb (by simp; omega) h1
  simp only [Nat.add_zero] at hst
  simp only [execOp, hop, hx, Instr.storeAt, Instr.sureAddr, Sem.run_bind, Sem.run_pure, Result.andThen_ok, storeVar, run_sizeOf h2, hn, ne_eq, not_true_eq_false, if_false, hst]
/-- a row of cells is written into a block -/
theorem Rel.writeCellsG (R : Rel ren we ωe U O σ a w ω μ) {id : Nat} {p : Bool} {cs : List V} (hid : σ.b[id]? = some (.live p cs)) (hne : cs ≠ []) {arr : Array Value} {T : TypeId} (ha : w.heap[μ id]? = some (.cells arr T (0, 0))) {new : List V} {us : List Value} (hul : new.length = us.length) (hn : ∀ (j : Nat) (c : V), new[j]? = some c → ∃ u, us[j]? = some u ∧ u.oneCell' = true ∧ (RepP ren w (wr U ω) c u ∨ (p = false ∧ OwnAt (env U σ w ω μ) c u))) {off : Nat} (hfit : off + new.length ≤ cs.length) :
    Rel ren we ωe U O (σ.setB id (.live p (setAt cs off new))) a (w.setRow (μ id) (arr.toList.take off ++ us ++ arr.toList.drop (off + us.length)).toArray) ω μ := by
  obtain ⟨e0, arr0, T0, e1, e2, e3⟩ := R.live hid hne
  rw [ha] at e1; cases e1
  have hsz : (arr.toList.take off ++ us ++ arr.toList.drop (off + us.length)).toArray.size = arr.size := by simp; omega
  obtain ⟨F, key⟩ := R.write hid hne (setAt_length hfit) ha hsz (setRow_heap w _ arr _ T _ ha) (fun k hk => setRow_other w _ k _ hk) (kept_setRow w _ _)
  refine key (fun j c hc => ?_)
  unfold setAt at hc
  rw [setAt_get hfit] at hc
  have hget : (arr.toList.take off ++ us ++ arr.toList.drop (off + us.length)).toArray[j]? = if off ≤ j ∧ j < off + us.length then us[j - off]? else arr.toList[j]? := by
    rw [List.getElem?_toArray, setAt_get (by simp; omega)]
  rw [hget]
  split at hc
  · rename_i hj
    rw [if_pos (by omega)]
    obtain ⟨u, g1, g2, g3⟩ := hn _ c hc
    rcases g3 with g3 | ⟨hp, g3⟩
    · exact ⟨u, g1, g2, fun _ => g3.mono F.st, .pure (g3.mono F.st)⟩
    · exact ⟨u, g1, g2, fun h => (by rw [hp] at h; cases h), (g3.frame F).rep _⟩
  · rename_i hj
    rw [if_neg (by omega)]
    obtain ⟨u, g1, g2, g3, g4⟩ := e3 j c hc
    refine ⟨u, by simpa using g1, g2, fun hp => (g3 hp).mono F.st, g4.frame F (fun l β h _ e => ⟨e, setRow_other w _ β _ ?_⟩)⟩
    have e : ω β = .gs l h := e
    rintro rfl; rw [e0] at e; cases e
theorem Rel.writeCells (R : Rel ren we ωe U O σ a w ω μ) {id : Nat} {p : Bool} {cs : List V} (hid : σ.b[id]? = some (.live p cs)) (hne : cs ≠ []) {arr : Array Value} {T : TypeId} (ha : w.heap[μ id]? = some (.cells arr T (0, 0))) {new : List V} {us : List Value} (hn : CellsP ren w (wr U ω) new us) {off : Nat} (hfit : off + new.length ≤ cs.length) :
    Rel ren we ωe U O (σ.setB id (.live p (setAt cs off new))) a (w.setRow (μ id) (arr.toList.take off ++ us ++ arr.toList.drop (off + us.length)).toArray) ω μ :=
  R.writeCellsG hid hne ha hn.1 (fun j c hc => by obtain ⟨u, g1, g2, g3⟩ := hn.2 j c hc; exact ⟨u, g1, g2, .inl g3⟩) hfit
theorem setB_self {id : Nat} {x : B} (h : σ.b[id]? = some x) : σ.setB id x = σ := by
  obtain ⟨hlt, rfl⟩ := List.getElem?_eq_some_iff.1 h
  cases σ
  simp [St.setB]
theorem run_store_nil {t : TypeId} (h2 : sizeT P t = some 0) {o : Oper} {x y : Operand} (hop : o.op = .store t x y) {k q : Nat} (hx : a.eval x = .pointer (some ⟨k, q, none⟩)) (hn : (a.eval y).cells.size = 0) : (execOp a.eval o).run P w = .ok .skip w := by
  have e : (a.eval y).cells.toList = [] := by
    have : (a.eval y).cells.toList.length = 0 := by simpa using hn
    exact List.length_eq_zero_iff.1 this
  simp only [execOp, hop, hx, Instr.storeAt, Instr.sureAddr, Sem.run_bind, Sem.run_pure, Result.andThen_ok, storeVar, run_sizeOf h2, hn, ne_eq, not_true_eq_false, if_false, e, storeCells]
theorem tk_self {v : V} (h1 : ∀ vs, v ≠ .tup vs) (h2 : ∀ p cs, v ≠ .bx p cs) (h3 : ∀ s es, v ≠ .fr s es) : v.tk = v := by
  cases v <;> first | rfl | exact absurd rfl (h1 _) | exact absurd rfl (h2 _ _) | exact absurd rfl (h3 _ _)
theorem Rep.one {E : En} {l : Loc} {v : V} {u : Value} (h : Rep ren E l v u) (h0 : v ≠ .junk) (h1 : ∀ vs, v ≠ .tup vs) (h2 : ∀ cs, v ≠ .agg cs) (h3 : ∀ cs, v ≠ .st cs) : u.oneCell' = true ∧ u.cells = #[u] := by
  cases h with
  | pure h =>
    cases h with
    | sc _ h => refine ⟨h, ?_⟩; cases u <;> first | rfl | exact absurd h (by simp [Value.oneCell'])
    | agg cs _ _ _ _ => exact absurd rfl (h2 cs)
    | sl _ _ _ _ _ _ _ _ _ _ _ _ _ => exact ⟨rfl, rfl⟩
    | nil _ _ => exact ⟨rfl, rfl⟩
    | fn _ _ _ => exact ⟨rfl, rfl⟩
  | gs _ _ _ _ _ _ _ _ _ _ _ _ _ _ _ => exact ⟨rfl, rfl⟩
  | fr _ _ _ _ _ _ _ _ _ _ _ _ _ _ _ => exact ⟨rfl, rfl⟩
  | fr0 _ _ => exact ⟨rfl, rfl⟩
  | ub b => exact ⟨rfl, rfl⟩
  | mp _ _ _ => exact ⟨rfl, rfl⟩
  | bx _ _ _ _ _ _ _ _ _ _ _ _ => exact ⟨rfl, rfl⟩
  | own _ _ _ _ _ _ _ _ _ _ _ => exact ⟨rfl, rfl⟩
  | ptr _ _ _ _ => exact ⟨rfl, rfl⟩
  | fp _ _ _ _ _ _ _ _ _ => exact ⟨rfl, rfl⟩
  | fn _ _ _ _ _ _ _ => exact ⟨rfl, rfl⟩
  | tup vs _ _ _ => exact absurd rfl (h1 vs)
  | st cs _ _ _ _ => exact absurd rfl (h3 cs)
  | junk => exact absurd rfl h0
theorem store_step (R : Rel ren we ωe U O σ a w ω μ) {o : Oper} {t : TypeId} {x y : Operand} (hop : o.op = .store t x y) {n : Nat} (h2 : sizeT P t = some n) {sx sy : Src} {t1 t2 : TypeId} (hs : cSrc P ren t1 x = some sx) (hs2 : cSrc P ren t2 y = some sy) {nb : Nat} {cb : CB} {pin : Bool} {σ' : St} (h : stepK cb nb σ o.dst pin (.store n sx sy) = some σ') : StepOk P ren we ωe U O a w o σ' nb μ := by
  simp only [stepK] at h
  split at h
  · cases h
  · rename_i hdst
    have hdst : o.dst = none := by simpa using hdst
    split at h
    · rename_i id off hg
      have hr := R.opnd hs
      rw [hg] at hr
      obtain ⟨L, hL, ex⟩ := hr.ptr_inv
      split at h
      · rename_i cs hb
        simp only [Option.bind_eq_bind, Option.bind_eq_some_iff] at h
        obtain ⟨v, hv, h⟩ := h
        split at h
        · rename_i hc
          cases h
          have hrv := (R.opnd hs2).plain R.hU hv
          have hcp := hrv.cellsP
          have hsz : (a.eval y).cells.size = n := by have := hcp.1; simp at this; omega
          by_cases hne : cs = []
          · have h0 := hne
            subst h0
            obtain ⟨c1, c2⟩ := hc
            obtain rfl : n = 0 := by simp at c2; omega
            have hvc : v.cells = [] := List.length_eq_zero_iff.1 c1
            refine .skip (run_store_nil h2 hop ex hsz) ⟨ω, μ, ?_, fun _ _ => rfl⟩
            rw [hdst, hvc, show setAt ([] : List V) off [] = [] by simp [setAt], setB_self hb]
            exact R
          obtain ⟨e0, arr, T, e1, e2, e3⟩ := R.live hb hne
          refine .skip (run_store_at h2 hop ex hsz e1 (by omega) (oneCell_list hcp)) ⟨ω, μ, ?_, fun _ _ => rfl⟩
          rw [hdst]
          exact R.writeCells hb hne e1 hcp (by omega)
        · cases h
      · rename_i cs hb
        split at h
        · rename_i us hgv
          split at h
          · rename_i hc
            cases h
            have hrv := R.opnd hs2
            rw [hgv] at hrv
            have hcp := hrv.agg_eq.cellsP
            have hsz : (a.eval y).cells.size = n := by have := hcp.1; simp [V.cells] at this; omega
            by_cases hne : cs = []
            · have h0 := hne
              subst h0
              obtain ⟨c1, c2⟩ := hc
              obtain rfl : n = 0 := by simp at c2; omega
              obtain rfl : us = [] := List.length_eq_zero_iff.1 c1
              refine .skip (run_store_nil h2 hop ex hsz) ⟨ω, μ, ?_, fun _ _ => rfl⟩
              rw [hdst, show setAt ([] : List V) off [] = [] by simp [setAt], setB_self hb]
              exact R
            obtain ⟨e0, arr, T, e1, e2, e3⟩ := R.live hb hne
            refine .skip (run_store_at h2 hop ex hsz e1 (by omega) (oneCell_list hcp)) ⟨ω, μ, ?_, fun _ _ => rfl⟩
            rw [hdst]
            exact R.writeCells hb hne e1 hcp (by show off + us.length ≤ _; omega)
          · cases h
        · rename_i us hgv
          split at h
          · rename_i hc
            cases h
            have hrv := R.opnd hs2
            rw [hgv] at hrv
            obtain ⟨vs, eu, hvl, hcell, hone⟩ := hrv.st_inv
            have hsz : (a.eval y).cells.size = n := by rw [eu]; simp [Value.cells]; omega
            by_cases hne : cs = []
            · have h0 := hne
              subst h0
              obtain ⟨c1, c2⟩ := hc
              obtain rfl : n = 0 := by simp at c2; omega
              obtain rfl : us = [] := List.length_eq_zero_iff.1 c1
              refine .skip (run_store_nil h2 hop ex hsz) ⟨ω, μ, ?_, fun _ _ => rfl⟩
              rw [hdst, show setAt ([] : List V) off [] = [] by simp [setAt], setB_self hb]
              exact R
            obtain ⟨e0, arr, T, e1, e2, e3⟩ := R.live hb hne
            have ecl : (a.eval y).cells.toList = vs := by rw [eu]; simp [Value.cells]
            refine .skip (run_store_at h2 hop ex hsz e1 (by omega) (by rw [ecl]; exact hone)) ⟨ω, μ, ?_, fun _ _ => rfl⟩
            rw [hdst, ecl]
            refine R.writeCellsG hb hne e1 hvl (fun j c hj => ?_) (by omega)
            have hlt : j < vs.length := by rw [← hvl]; exact (List.getElem?_eq_some_iff.1 hj).1
            refine ⟨vs[j], List.getElem?_eq_getElem hlt, hone _ (List.getElem_mem hlt), ?_⟩
            rcases hcell j c _ hj (List.getElem?_eq_getElem hlt) with q | q
            · exact .inl q
            · exact .inr ⟨rfl, q⟩
          · cases h
        · cases h
        · cases h
        · cases h
        · cases h
        · rename_i n1 n0 n2 n3 n4 n5
          split at h
          · rename_i hc
            obtain ⟨hn1, hlt⟩ := hc
            cases h
            have hne : cs ≠ [] := by rintro rfl; simp at hlt
            obtain ⟨e0, arr, T, e1, e2, e3⟩ := R.live hb hne
            obtain ⟨c1, c2⟩ := R.opndC hs2
            obtain ⟨ω', F, R', hr', hw⟩ := R.taken sy (R.opnd hs2) c1 c2 (.cell id off)
            have htk : (sy.get σ).tk = sy.get σ := tk_self (fun vs e => n2 vs e) (fun p cs e => n3 p cs e) (fun s es e => n4 s es e)
            rw [htk] at hr'
            obtain ⟨one, hcl⟩ := (R.opnd hs2).one (fun e => n5 e) (fun vs e => n2 vs e) (fun cs e => n1 cs e) (fun cs e => n0 cs e)
            have hb' : (σ.demote sy).b[id]? = some (.live false cs) := by cases sy <;> exact hb
            refine .skip (run_store_at h2 hop ex (by rw [hcl]; simp [hn1]) e1 (by omega) (by rw [hcl]; simpa using one)) ?_
            rw [hdst, hcl]
            have hsz : (arr.toList.take off ++ #[a.eval y].toList ++ arr.toList.drop (off + #[a.eval y].toList.length)).toArray.size = arr.size := by simp; omega
            obtain ⟨e0', arr', T', e1', e2', e3'⟩ := R'.live hb' hne
            rw [e1] at e1'; cases e1'
            obtain ⟨F2, key⟩ := R'.write hb' hne (cs' := cs.set off (sy.get σ)) (by simp) e1 hsz (setRow_heap w _ arr _ T _ e1) (fun k hk => setRow_other w _ k _ hk) (kept_setRow w _ _)
            refine ⟨ω', μ, key (fun j c hc => ?_), fun _ _ => rfl⟩
            have hget : (arr.toList.take off ++ #[a.eval y].toList ++ arr.toList.drop (off + #[a.eval y].toList.length)).toArray[j]? = if j = off then some (a.eval y) else arr.toList[j]? := by
              rw [List.getElem?_toArray, setAt_get (by simp; omega)]
              by_cases hj : j = off
              · subst hj; simp
              · rw [if_neg (by simp; omega), if_neg hj]
            rw [hget]
            have en : env U (σ.demote sy) w ω' μ = env U σ w ω' μ := by cases sy <;> rfl
            by_cases hj : j = off
            · subst hj
              rw [List.getElem?_set_self hlt] at hc
              cases hc
              rw [if_pos rfl]
              refine ⟨_, rfl, one, by simp, ?_⟩
              rw [en] at F2
              refine hr'.frame F2 (fun l β h _ e => ⟨e, setRow_other w _ β _ ?_⟩)
              have e : ω' β = .gs l h := e
              rintro rfl; rw [e0'] at e; cases e
            · rw [List.getElem?_set_ne (fun e => hj e.symm)] at hc
              rw [if_neg hj]
              obtain ⟨u, g1, g2, g3, g4⟩ := e3' j c hc
              refine ⟨u, by simpa using g1, g2, by simp, g4.frame F2 (fun l β h _ e => ⟨e, setRow_other w _ β _ ?_⟩)⟩
              have e : ω' β = .gs l h := e
              rintro rfl; rw [e0'] at e; cases e
          · cases h
      · cases h
    · cases h

theorem clear_step (R : Rel ren we ωe U O σ a w ω μ) {o : Oper} {t e : TypeId} {x : Operand} (hop : o.op = .call { callee := .builtin .clear, args := #[x], argTypes := #[t] }) (ht : P.underlying t = some (.slice e)) {sz : Nat} (hsz : sizeT P e = some sz) (hpos : 0 < sz) {z : List V} (hz : zeroC P e = some z) (hzl : z.length = sz) {sx : Src} {t1 : TypeId} (h1 : cSrc P ren t1 x = some sx)
    {nb : Nat} {cb : CB} {pin : Bool} {σ' : St} (h : stepK cb nb σ o.dst pin (.clear sz (z.map V.dem) sx) = some σ') : StepOk P ren we ωe U O a w o σ' nb μ := by
  obtain ⟨i, zv, hi, hzv, hcz⟩ := zeroC_rep (ren := ren) (w := w) (Wr := wr U ω) hz
  simp only [stepK] at h
  split at h
  · rename_i id off len sz1 hg
    split at h
    · rename_i cs hb
      split at h
      · rename_i hs
        subst hs
        cases h
        have hr := R.opnd h1
        rw [hg] at hr
        obtain ⟨c, L, A, eu, hL, hl, hc, hA⟩ := hr.own_inv
        have hL' : blen σ.b id = some L := hL
        have : L = cs.length := by simp [blen, hb] at hL'; exact hL'.symm
        subst this
        rcases Nat.eq_zero_or_pos len with q | q
        · subst q
          have run : (execOp a.eval o).run P w = .ok (.value (.tuple #[])) w := by
            cases A <;> simp [execOp, hop, resolve, invoke, builtin, Builtin.clear_, run_underlying ht, eu]
          refine .value run ⟨ω, μ, ?_, fun _ _ => rfl⟩
          rw [show setAt cs off (List.replicate 0 (z.map V.dem)).flatten = cs by simp [setAt], setB_self hb]
          exact R.put _ (fun i _ => .tup [] [] rfl (by simp))
        · rcases hA with ⟨rfl, _⟩ | ⟨h0, _⟩
          · have hlen : sz1 ≤ len * sz1 := Nat.le_mul_of_pos_left sz1 q
            have hne : cs ≠ [] := by rintro rfl; simp at hl; omega
            obtain ⟨e0, arr, T, e1, e2, e3⟩ := R.live hb hne
            have hd := dem_cells hcz
            have hzs : zv.cells.size = sz1 := by have := hcz.1; simp at this; omega
            have hcells := zeros_cells hd len (len * sz1) (by simp [hzl]) (by simp [hzl]; exact hpos)
            have hfl : (List.replicate len (z.map V.dem)).flatten.length = len * sz1 := by
              rw [flatten_len (sz := sz1) (fun x hx => by rw [List.eq_of_mem_replicate hx]; simp [hzl])]; simp
            have hnew : CellsP ren w (wr U ω) (List.replicate len (z.map V.dem)).flatten (Builtin.zeroCells zv.cells len).toList := by
              refine ⟨by rw [hfl]; simp [Builtin.zeroCells, hzs], fun j v hv => ?_⟩
              obtain ⟨u, g1, g2, g3⟩ := hcells j v hv
              refine ⟨u, ?_, g2, g3⟩
              rw [Array.getElem?_toList]
              simpa [Builtin.zeroCells, hzs] using g1
            have hzl2 : (Builtin.zeroCells zv.cells len).toList.length = len * sz1 := by simp [Builtin.zeroCells, hzs]
            have hst := run_storeCells_at P (μ id) off T (Builtin.zeroCells zv.cells len).toList 0 arr w e1 (by omega) (oneCell_list hnew)
            simp only [Nat.add_zero] at hst
            have hst' : (storeCells (⟨(env U σ w ω μ).μ id, off, none⟩ : Addr) (Builtin.zeroCells zv.cells len).toList).run P w = _ := hst
            obtain ⟨m, rfl⟩ : ∃ m, len = m + 1 := ⟨len - 1, by omega⟩
            have run : (execOp a.eval o).run P w = .ok (.value (.tuple #[])) (w.setRow (μ id) (arr.toList.take off ++ (Builtin.zeroCells zv.cells (m + 1)).toList ++ arr.toList.drop (off + (Builtin.zeroCells zv.cells (m + 1)).toList.length)).toArray) := by
              simp only [execOp, hop, resolve, invoke, builtin, Builtin.clear_, List.map_toArray, List.map_cons, List.map_nil, eu, Sem.run_bind, Sem.run_pure, Result.andThen_ok, run_underlying ht, zeroValue, typeInfo, hi, hzv]
              simp [run_underlying ht, zeroValue, typeInfo, hi, hzv, hst']
            refine .value run ⟨ω, μ, ?_, fun _ _ => rfl⟩
            exact (R.writeCells hb hne e1 hnew (by rw [hfl]; omega)).put _ (fun i _ => .tup [] [] rfl (by simp))
          · omega
      · cases h
    · cases h
  · cases h
theorem copy_step (R : Rel ren we ωe U O σ a w ω μ) {o : Oper} {t u e : TypeId} {d s : Operand} (hop : o.op = .call { callee := .builtin .copy, args := #[d, s], argTypes := #[t, u] }) (ht : P.underlying t = some (.slice e)) {sz : Nat} (hsz : sizeT P e = some sz) (hpos : 0 < sz) {sd ss : Src} {t1 t2 : TypeId} (h1 : cSrc P ren t1 d = some sd) (h2 : cSrc P ren t2 s = some ss)
    {nb : Nat} {cb : CB} {pin : Bool} {σ' : St} (h : stepK cb nb σ o.dst pin (.copy sz sd ss) = some σ') : StepOk P ren we ωe U O a w o σ' nb μ := by
  simp only [stepK] at h
  split at h
  · rename_i id off len sz1 sz2 es hg hv
    split at h
    · rename_i cs hb
      split at h
      · rename_i hs
        obtain ⟨rfl, rfl⟩ := hs
        cases h
        have hr := R.opnd h1
        rw [hg] at hr
        obtain ⟨c, L, A, eu, hL, hl, hc, hA⟩ := hr.own_inv
        have hL' : blen σ.b id = some L := hL
        have : L = cs.length := by simp [blen, hb] at hL'; exact hL'.symm
        subst this
        obtain ⟨A2, c2, f, k, q, eu2, hc2, hsz2, hA2, hcell⟩ := R.view (R.opnd h2) hv
        have hmin : Nat.min es.length len = min es.length len := rfl
        generalize hmm : min es.length len = m at *
        have hml : m ≤ es.length := by omega
        have hml2 : m ≤ len := by omega
        have hmle : m * sz2 ≤ len * sz2 := Nat.mul_le_mul_right sz2 hml2
        have hflat : (es.take m).flatten.length = m * sz2 := by
          rw [flatten_len (sz := sz2) (fun x hx => hsz2 x (List.mem_of_mem_take hx)), List.length_take, Nat.min_eq_left hml]
        have hnew : CellsP ren w (wr U ω) (es.take m).flatten ((List.range (m * sz2)).map f) := by
          refine ⟨by simp [hflat], fun i v hv => ?_⟩
          have hi : i < m * sz2 := by rw [← hflat]; exact (List.getElem?_eq_some_iff.1 hv).1
          rw [flatten_take' hsz2, List.getElem?_take, if_pos hi] at hv
          obtain ⟨g1, g2, g3⟩ := hcell i v hv
          exact ⟨f i, by simp [hi], g2, g3⟩
        by_cases hne : cs = []
        · have h0 := hne
          subst h0
          obtain rfl : len = 0 := by
            rcases Nat.eq_zero_or_pos len with q | q
            · exact q
            · have := Nat.mul_le_mul_right sz2 q
              simp at hl; omega
          obtain rfl : m = 0 := by omega
          have hf : (Builtin.firstCells sz2 0 (.slice A2 es.length c2)).run P w = .ok #[] w := by
            cases A2 <;> simp [Builtin.firstCells, loadCells, loadCellsFrom]
          have run : (execOp a.eval o).run P w = .ok (.value (.int .i64 ((0 : Nat) : Int))) w := by
            cases A with
            | none => simp [execOp, hop, resolve, invoke, builtin, Builtin.copy_, run_underlying ht, eu, eu2, Builtin.lenOf, hmin, run_sizeOf hsz, hf, goInt]
            | some ad => simp [execOp, hop, resolve, invoke, builtin, Builtin.copy_, run_underlying ht, eu, eu2, Builtin.lenOf, hmin, run_sizeOf hsz, hf, goInt, storeCells]
          refine .value run ⟨ω, μ, ?_, fun _ _ => rfl⟩
          rw [show setAt ([] : List V) off (es.take 0).flatten = [] by simp [setAt], setB_self hb]
          exact R.put _ (fun i _ => .pure (.sc _ rfl))
        obtain ⟨e0, arr, T, e1, e2, e3⟩ := R.live hb hne
        have hload : m ≠ 0 → ∃ ad, A2 = some ad ∧ (loadCells ad (m * sz2)).run P w = .ok ((List.range (m * sz2)).map f).toArray w := by
          intro hm0
          have hne : es ≠ [] := by rintro rfl; simp at hml; omega
          refine ⟨_, hA2 hne, run_loadCells w _ _ f (fun j hj => ?_)⟩
          rw [add_mk]
          have hlt : j < es.flatten.length := by
            rw [flatten_len hsz2]
            have := Nat.mul_le_mul_right sz2 hml
            omega
          exact (hcell j _ (List.getElem?_eq_getElem hlt)).1
        have run : (execOp a.eval o).run P w = .ok (.value (.int .i64 (m : Int))) (w.setRow (μ id) (arr.toList.take off ++ (List.range (m * sz2)).map f ++ arr.toList.drop (off + ((List.range (m * sz2)).map f).length)).toArray) := by
          by_cases hm0 : m = 0
          · subst hm0
            have hw : w.setRow (μ id) (arr.toList.take off ++ (List.range (0 * sz2)).map f ++ arr.toList.drop (off + ((List.range (0 * sz2)).map f).length)).toArray = w := by
              simp only [Nat.zero_mul, List.range_zero, List.map_nil, List.append_nil, List.length_nil, Nat.add_zero, List.take_append_drop, Array.toArray_toList]
              exact setRow_self w _ arr T _ e1
            rw [hw]
            have hf : (Builtin.firstCells sz2 0 (.slice A2 es.length c2)).run P w = .ok #[] w := by
              cases A2 <;> simp [Builtin.firstCells, loadCells, loadCellsFrom]
            cases A with
            | none => simp [execOp, hop, resolve, invoke, builtin, Builtin.copy_, run_underlying ht, eu, eu2, Builtin.lenOf, hmin, run_sizeOf hsz, hf, goInt]
            | some ad => simp [execOp, hop, resolve, invoke, builtin, Builtin.copy_, run_underlying ht, eu, eu2, Builtin.lenOf, hmin, run_sizeOf hsz, hf, goInt, storeCells]
          · obtain ⟨ad, rfl, hl2⟩ := hload hm0
            rcases hA with ⟨rfl, _⟩ | ⟨hz, _⟩
            · have hst := run_storeCells_at P (μ id) off T ((List.range (m * sz2)).map f) 0 arr w e1 (by simp; omega) (oneCell_list hnew)
              simp only [Nat.add_zero] at hst
              have hst' : (storeCells (⟨(env U σ w ω μ).μ id, off, none⟩ : Addr) ((List.range (m * sz2)).map f)).run P w = _ := hst
              simp [execOp, hop, resolve, invoke, builtin, Builtin.copy_, run_underlying ht, eu, eu2, Builtin.lenOf, hmin, run_sizeOf hsz, Builtin.firstCells, hl2, hst', goInt]
            · omega
        refine .value run ⟨ω, μ, ?_, fun _ _ => rfl⟩
        exact (R.writeCells hb hne e1 hnew (by rw [hflat]; omega)).put _ (fun i _ => .pure (.sc _ rfl))
      · cases h
    · cases h
  · cases h
end Go.Proofs.Ythplooifbkopgaa
