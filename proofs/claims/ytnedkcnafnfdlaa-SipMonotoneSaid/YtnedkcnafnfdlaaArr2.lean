/- Laws for variables that hold many cells: alloc, build, box, store and load of a whole row, each with an abstract world behind it. -/
import Derived.Test.YtnedkcnafnfdlaaArr
import Derived.Deep.MidRow
namespace Go.Proofs.Ytnedkcnafnfdlaa
open Go.RowKit

section
variable {P : Program} (W : World) {ops : Array Oper} {rest : List Oper} {o : Oper} {a : Act} {Q : Exit → Act → World → Prop}

theorem run_newVar (t : TypeId) (v : Value) : (newVar t v).run P W = .ok ⟨W.heap.size, 0, none⟩ (W.alloc (.cells v.cells t)) := rfl

theorem wpList_al (hg : o.guard = none) (t : TypeId) (hop : o.op = .alloc t) (n : Nat) (hinfo : (P.info? t).bind (fun i => i.zero.map (fun z => z.cells.size)) = some n)
    (h : ∀ (w' : World) (cs : Array Value), cs.size = n → Blk w' W.heap.size t cs → Kept No W w' → w'.heap.size = W.heap.size + 1 → wpList P ops Q rest (a.put o.dst (.pointer (some ⟨W.heap.size, 0, none⟩))) w') : wpList P ops Q (o :: rest) a W := by
  obtain ⟨i, hi, hz⟩ := Option.bind_eq_some_iff.1 hinfo
  obtain ⟨z, hz, hn⟩ := Option.map_eq_some_iff.1 hz
  refine wpList_plain hg fun K hK => ?_
  have hzv : (zeroValue t).run P W = .ok z W := by simp [zeroValue, typeInfo, hi, hz]
  have hrun : (execOp a.eval o).run P W = .ok (.value (.pointer (some ⟨W.heap.size, 0, none⟩))) (W.alloc (.cells z.cells t)) := by
    simp only [execOp, hop, Instr.alloc, Sem.run_bind, hzv, Result.andThen_ok, run_newVar, Sem.run_pure]
  unfold Oper.wp
  rw [hrun]
  exact hK _ _ (h _ z.cells hn (Blk.new _ _ _) (Kept.alloc _ _ _) (by simp))

theorem wpList_bld (hg : o.guard = none) (t : TypeId) (parts : Array (Nat × Operand)) (hop : o.op = .build t parts) (cs : Array Value)
    (hrun : (Instr.build t (parts.map fun (i, x) => (i, a.eval x))).run P W = .ok (.agg cs) W)
    (h : wpList P ops Q rest (a.put o.dst (.agg cs)) W) : wpList P ops Q (o :: rest) a W := by
  refine wpList_plain hg fun K hK => ?_
  have hr : (execOp a.eval o).run P W = .ok (.value (.agg cs)) W := by
    simp only [execOp, hop, Sem.run_bind, hrun, Result.andThen_ok, Sem.run_pure]
  unfold Oper.wp
  rw [hr]
  exact hK _ _ h

theorem wpList_bx (hg : o.guard = none) (t : TypeId) (x : Operand) (hop : o.op = .box t x) (cs : Array Value) (hx : a.eval x = .agg cs)
    (h : ∀ (w' : World), Blk w' W.heap.size t cs → Kept No W w' → w'.heap.size = W.heap.size + 1 → wpList P ops Q rest (a.put o.dst (.pointer (some ⟨W.heap.size, 0, none⟩))) w') : wpList P ops Q (o :: rest) a W := by
  refine wpList_plain hg fun K hK => ?_
  have hr : (execOp a.eval o).run P W = .ok (.value (.pointer (some ⟨W.heap.size, 0, none⟩))) (W.alloc (.cells cs t)) := by
    simp only [execOp, hop, hx, Instr.box, Sem.run_bind, run_newVar, Result.andThen_ok, Sem.run_pure]
    rfl
  unfold Oper.wp
  rw [hr]
  exact hK _ _ (h _ (Blk.new _ _ _) (Kept.alloc _ _ _) (by simp))

theorem wpList_st (hg : o.guard = none) (t : TypeId) (x y : Operand) (hop : o.op = .store t x y) (g : Nat) (hx : a.eval x = .pointer (some ⟨g, 0, none⟩)) (vs : Array Value) (hy : a.eval y = .agg vs)
    (tb : TypeId) (cs : Array Value) (hB : Blk W g tb cs) (hs : vs.size = cs.size) (hi : (P.info? t).map (·.size) = some vs.size) (h1 : vs.all (·.oneCell') = true)
    (h : ∀ (w' : World), Blk w' g tb vs → Kept (fun k => k = g) W w' → w'.heap.size = W.heap.size → wpList P ops Q rest (a.put o.dst undef) w') : wpList P ops Q (o :: rest) a W := by
  refine wpList_store_mid hg t x y hop g 0 vs hx hy (hB.there (by omega)) hi h1 ?_
  refine h _ (hB.setRow hs) (Kept.setCells _ _ _ (.inl rfl)) ?_
  generalize vs.toList = l
  generalize 0 = k
  clear h h1 hi hs hy hB
  induction l generalizing W k with
  | nil => rfl
  | cons v r ih => rw [World.setCells, ih]; exact sz_set _ _ _

theorem wpList_ld (hg : o.guard = none) (t : TypeId) (x : Operand) (hop : o.op = .load t x) (g : Nat) (hx : a.eval x = .pointer (some ⟨g, 0, none⟩)) (tb : TypeId) (cs : Array Value) (d : TypeDesc) (hB : Blk W g tb cs)
    (hu : P.underlying t = some d) (hd : (match d with | .struct _ | .array _ _ => true | _ => false) = true) (hi : (P.info? t).map (·.size) = some cs.size)
    (h : wpList P ops Q rest (a.put o.dst (.agg cs)) W) : wpList P ops Q (o :: rest) a W :=
  wpList_load_row hg t x hop g hx tb cs (0, 0) d hB hu hd hi h
end

/-- a result that lies in a block of its own -/
theorem ret_row {P : Program} {fn : Func} {R : Ending → World → Prop} {a : Act} {w : World} {p : Tmp} {ty : TypeId} (h : fn.results = #[.cell p ty]) (hd : a.defers = []) (g : Nat) (t : TypeId) (cs : Array Value) (d : TypeDesc)
    (hp : a.tmps.getD p undef = .pointer (some ⟨g, 0, none⟩)) (hg : Blk w g t cs) (hu : P.underlying ty = some d) (hdd : (match d with | .struct _ | .array _ _ => true | _ => false) = true) (hi : (P.info? ty).map (·.size) = some cs.size)
    (hR : R (.returned (.agg cs)) w) : bodyPost P fn R .ret a w :=
  bodyPost_ret (results_cell_row h _ w g t cs (0, 0) d hp hg hu hdd hi) hd hR
end Go.Proofs.Ytnedkcnafnfdlaa
