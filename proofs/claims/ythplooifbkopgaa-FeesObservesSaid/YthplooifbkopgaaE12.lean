/- Operations of the abstract machine that read, make and write memory. -/
import Derived.Test.YthplooifbkopgaaE11
import Derived.Laws.CopyRow
namespace Go.Proofs.Ythplooifbkopgaa
set_option linter.unusedVariables false
set_option linter.unusedSimpArgs false
variable {ren : Nat → Option Nat} {we : World} {ωe : Nat → Ow} {U : Nat → Nat → Prop} {O : Nat → Prop} {σ : St} {a : Act} {w : World} {ω : Nat → Ow} {μ : Nat → Nat} {P : Program} {nb : Nat}

/-- the operation goes through, and the state behind it is σ' -/
def StepOk (P : Program) (ren : Nat → Option Nat) (we : World) (ωe : Nat → Ow) (U : Nat → Nat → Prop) (O : Nat → Prop) (a : Act) (w : World) (o : Oper) (σ' : St) (nb : Nat) (μ : Nat → Nat) : Prop :=
  ∀ (K : Act → World → Prop) (Q : Exit → Act → World → Prop), (∀ a' w' ω' μ', Rel ren we ωe U O σ' a' w' ω' μ' → (∀ k, k < nb → μ' k = μ k) → K a' w') → o.wp P a w K Q
theorem StepOk.value {o : Oper} {σ' : St} {u : Value} {w' : World} (h : (execOp a.eval o).run P w = .ok (.value u) w') (hR : ∃ ω' μ', Rel ren we ωe U O σ' (a.put o.dst u) w' ω' μ' ∧ ∀ k, k < nb → μ' k = μ k) : StepOk P ren we ωe U O a w o σ' nb μ := by
  intro K Q hK
  unfold Oper.wp
  rw [h]
  obtain ⟨ω', μ', R, hm⟩ := hR
  exact hK _ _ _ _ R hm
theorem StepOk.skip {o : Oper} {σ' : St} {w' : World} (h : (execOp a.eval o).run P w = .ok .skip w') (hR : ∃ ω' μ', Rel ren we ωe U O σ' (a.put o.dst undef) w' ω' μ' ∧ ∀ k, k < nb → μ' k = μ k) : StepOk P ren we ωe U O a w o σ' nb μ := by
  intro K Q hK
  unfold Oper.wp
  rw [h]
  obtain ⟨ω', μ', R, hm⟩ := hR
  exact hK _ _ _ _ R hm
theorem StepOk.gives (R : Rel ren we ωe U O σ a w ω μ) {o : Oper} {v : V} (h : Gives P ren (env U σ w ω μ) a o v) : StepOk P ren we ωe U O a w o (σ.put o.dst v) nb μ := by
  obtain ⟨u, h1, h2⟩ := h
  exact .value h1 ⟨ω, μ, R.put _ (fun i _ => h2 _), fun _ _ => rfl⟩

theorem move_step (R : Rel ren we ωe U O σ a w ω μ) {o : Oper} {x : Operand} (hop : o.op = .move x ∨ o.op = .assign x) {s : Src} {t : TypeId} (hs : cSrc P ren t x = some s) {nb : Nat} {cb : CB} {take pin : Bool} {σ' : St} (h : stepK cb nb σ o.dst pin (.move s take) = some σ') : StepOk P ren we ωe U O a w o σ' nb μ := by
  have run : (execOp a.eval o).run P w = .ok (.value (a.eval x)) w := by
    rcases hop with e | e <;> simp [execOp, e]
  refine .value run ?_
  simp only [stepK] at h
  split at h
  · cases h
  · split at h
    · cases h
      obtain ⟨c1, c2⟩ := R.opndC hs
      cases hd : o.dst with
      | none =>
        exact ⟨ω, μ, R.demote s, fun _ _ => rfl⟩
      | some d =>
        by_cases htup : ∃ x xs, s.get σ = .tup (x :: xs)
        · obtain ⟨y, ys, hy⟩ := htup
          cases s with
          | const v =>
            have hy : v = .tup (y :: ys) := hy
            subst hy
            have hC := c2 _ rfl (.slot d 0)
            exact ⟨ω, μ, (R.demote (.const (.tup (y :: ys)))).put (some d) (fun i hi => by cases hi; exact hC), fun _ _ => rfl⟩
          | tmp t =>
            have hr := R.opnd hs
            rw [hy] at hr ⊢
            have hr : Rep ren (env U σ w ω μ) (.slot t 0) (.tup (y :: ys)) (a.eval x) := hr
            have R1 := (R.demote (.tmp t)).renSlot' (T := t) (fun v hv => by
              simp only [St.demote] at hv
              rw [List.getElem?_modify] at hv
              have hy : σ.t.getD t .junk = .tup (y :: ys) := hy
              cases hv' : σ.t[t]? with
              | none => simp [hv'] at hv
              | some v' =>
                rw [List.getD_eq_getElem?_getD, hv'] at hy
                simp [hv'] at hv hy
                subst hy; subst hv; rfl) d
            refine ⟨_, μ, R1.put (some d) (fun i hi => ?_), fun _ _ => rfl⟩
            cases hi
            have : Rep ren (env U σ w (renO t d ω) μ) (.slot d 0) (.tup (y :: ys)) (a.eval x) := by simpa [Loc.rn] using hr.renSlot (T := t) (d := d)
            exact this
        have hmv : (s.get σ).mv = (s.get σ).tk := by
          cases hv : s.get σ with
          | tup vs =>
            cases vs with
            | nil => rfl
            | cons y ys => exact absurd ⟨y, ys, hv⟩ htup
          | _ => rfl
        rw [hmv]
        obtain ⟨ω', F, R', hr, _⟩ := R.taken s (R.opnd hs) c1 c2 (.slot d 0)
        refine ⟨ω', μ, R'.put (some d) (fun i hi => ?_), fun _ _ => rfl⟩
        cases hi
        have e : env U (σ.demote s) w ω' μ = env U σ w ω' μ := by cases s <;> rfl
        rw [e]; exact hr
    · cases h
      exact ⟨ω, μ, R.put _ (fun i _ => (R.opnd hs).dem R.hU _), fun _ _ => rfl⟩

theorem run_alloc {t : TypeId} {i : TypeInfo} {z : Value} (hi : P.info? t = some i) (hz : i.zero = some z) (w : World) : (Instr.alloc t true (.tuple #[])).run P w = .ok (.pointer (some ⟨w.heap.size, 0, none⟩)) (w.alloc (.cells z.cells t)) := by
  simp [Instr.alloc, zeroValue, typeInfo, hi, hz, newVar, newRow]
theorem ptr_new {nb d : Nat} {p : Bool} {cs : List V} {arr : Array Value} {T : TypeId} (hg : σ.b[nb + d]? = some .gone) (i : Nat) : Rep ren (env U (σ.setB (nb + d) (.live p cs)) (w.alloc (.cells arr T)) (upd ω w.heap.size (.blk (nb + d))) (upd μ (nb + d) w.heap.size)) (.slot i 0) (.ptr (nb + d) 0) (.pointer (some ⟨w.heap.size, 0, none⟩)) := by
  have hlt : nb + d < σ.b.length := (List.getElem?_eq_some_iff.1 hg).1
  have := Rep.ptr (ren := ren) (E := env U (σ.setB (nb + d) (.live p cs)) (w.alloc (.cells arr T)) (upd ω w.heap.size (.blk (nb + d))) (upd μ (nb + d) w.heap.size)) (l := .slot i 0) (nb + d) 0 cs.length (blen_set hlt _ _)
  simpa [env, upd_same] using this
theorem cells_arr {Wr : Nat → Nat → Prop} {cs : List V} {arr : Array Value} (h : CellsP ren w Wr cs arr.toList) : cs.length ≤ arr.size ∧ ∀ (j : Nat) (c : V), cs[j]? = some c → ∃ u, arr[j]? = some u ∧ u.oneCell' = true ∧ RepP ren w Wr c u := by
  refine ⟨by have := h.1; simp at this; omega, fun j c hc => ?_⟩
  obtain ⟨u, g⟩ := h.2 j c hc
  exact ⟨u, by simpa using g⟩
theorem alloc_step (R : Rel ren we ωe U O σ a w ω μ) {o : Oper} {t : TypeId} (hop : o.op = .alloc t) {z : List V} (hz : zeroC P t = some z) {nb : Nat} {cb : CB} {p pin : Bool} {σ' : St} (h : stepK cb nb σ o.dst pin (.alloc p z) = some σ') : StepOk P ren we ωe U O a w o σ' nb μ := by
  obtain ⟨i, zv, hi, hzv, hc⟩ := zeroC_rep (ren := ren) (w := w) (Wr := wr U ω) hz
  simp only [stepK] at h
  obtain ⟨d, hd, hg, rfl⟩ := newB_inv h
  refine .value (u := .pointer (some ⟨w.heap.size, 0, none⟩)) (w' := w.alloc (.cells zv.cells t)) (by simp [execOp, hop, run_alloc hi hzv]) ?_
  obtain ⟨q1, q2⟩ := cells_arr hc
  obtain ⟨F, R'⟩ := R.newBlock hg p z zv.cells t q1 q2
  exact ⟨_, _, by rw [hd]; exact R'.put (some d) (fun i _ => ptr_new hg i), fun k hk => mu_new hk⟩
theorem box_step (R : Rel ren we ωe U O σ a w ω μ) {o : Oper} {t : TypeId} {x : Operand} (hop : o.op = .box t x) {s : Src} {t1 : TypeId} (hs : cSrc P ren t1 x = some s) {nb : Nat} {cb : CB} {p pin : Bool} {σ' : St} (h : stepK cb nb σ o.dst pin (.box p s) = some σ') : StepOk P ren we ωe U O a w o σ' nb μ := by
  simp only [stepK] at h
  split at h
  · rename_i cs hgs
    cases p with
    | true => simp at h
    | false =>
      simp only [Bool.false_eq_true, if_false] at h
      obtain ⟨d, hd, hg, rfl⟩ := newB_inv h
      have hr := R.opnd hs
      rw [hgs] at hr
      obtain ⟨us, eu, hl, hc, h1⟩ := hr.st_inv
      refine .value (u := .pointer (some ⟨w.heap.size, 0, none⟩)) (w' := w.alloc (.cells us.toArray t)) (by simp [execOp, hop, Instr.box, newVar, newRow, eu, Value.cells]) ?_
      obtain ⟨F, R'⟩ := R.newBlockG hg false cs us.toArray t (by simp [hl]) (fun j c hj => by
        have hlt : j < us.length := by rw [← hl]; exact (List.getElem?_eq_some_iff.1 hj).1
        refine ⟨us[j], by simp [hlt], h1 _ (List.getElem_mem hlt), ?_⟩
        rcases hc j c _ hj (List.getElem?_eq_getElem hlt) with q | q
        · exact .inl q
        · exact .inr ⟨rfl, q⟩)
      exact ⟨_, _, by rw [hd]; exact R'.put (some d) (fun i _ => ptr_new hg i), fun k hk => mu_new hk⟩
  split at h
  · rename_i v hv
    obtain ⟨d, hd, hg, rfl⟩ := newB_inv h
    have hr := (R.opnd hs).plain R.hU hv
    refine .value (u := .pointer (some ⟨w.heap.size, 0, none⟩)) (w' := w.alloc (.cells (a.eval x).cells t)) (by simp [execOp, hop, Instr.box, newVar, newRow]) ?_
    obtain ⟨q1, q2⟩ := cells_arr hr.cellsP
    obtain ⟨F, R'⟩ := R.newBlock hg p v.cells (a.eval x).cells t q1 q2
    exact ⟨_, _, by rw [hd]; exact R'.put (some d) (fun i _ => ptr_new hg i), fun k hk => mu_new hk⟩
  · cases h

/-- a slice in a block that was just made -/
theorem putG_new (R : Rel ren we ωe U O σ a w ω μ) {nb : Nat} {dst : Option Nat} {pin : Bool} {sz : Nat} {es : List (List V)} {σ' : St} (h : σ.putG nb dst pin sz es = some σ') {arr : Array Value} {T : TypeId} {c : Nat} (hsz : ∀ e ∈ es, e.length = sz) (hn : es.length ≤ c) (hpz : pin = true → es = [] → c = 0) (hc : c * sz ≤ arr.size)
    (hcell : ∀ (i : Nat) (v : V), es.flatten[i]? = some v → ∃ u, arr[i]? = some u ∧ u.oneCell' = true ∧ RepP ren w (wr U ω) v u) :
    ∃ ω' μ', Rel ren we ωe U O σ' (a.put dst (.slice (some ⟨w.heap.size, 0, none⟩) es.length c)) (w.alloc (.cells arr T)) ω' μ' ∧ ∀ k, k < nb → μ' k = μ k := by
  have hfl := flatten_len hsz
  have hle : es.length * sz ≤ c * sz := Nat.mul_le_mul_right sz hn
  have hnew : (w.alloc (.cells arr T)).heap[w.heap.size]? = some (.cells arr T (0, 0)) := heap_alloc_new w _
  unfold St.putG at h
  split at h
  · rename_i hpin
    obtain ⟨d, rfl, hg, rfl⟩ := newB_inv h
    have hlt : nb + d < σ.b.length := (List.getElem?_eq_some_iff.1 hg).1
    obtain ⟨F, R'⟩ := R.newBlock hg true es.flatten arr T (by omega) hcell
    refine ⟨_, _, R'.put (some d) (fun i _ => ?_), fun k hk => mu_new hk⟩
    refine .own (nb + d) 0 es.length sz c es.flatten.length _ (blen_set hlt _ _) (by omega) ⟨hn, fun h0 => flat_zero hsz h0 (fun q => .inr (hpz hpin q))⟩ (.inl ⟨by show some (Addr.mk w.heap.size 0 none) = some ⟨upd μ (nb + d) w.heap.size (nb + d), 0, none⟩; rw [upd_same], ?_⟩)
    show 0 + c * sz ≤ rsize (w.alloc (.cells arr T)) (upd μ (nb + d) w.heap.size (nb + d))
    rw [upd_same, rsize_of hnew]; omega
  · cases h
    cases dst with
    | none =>
      obtain ⟨F, R'⟩ := R.newGs (.slot 0 0) 0 arr T
      exact ⟨_, _, R', fun _ _ => rfl⟩
    | some d =>
      obtain ⟨F, R'⟩ := R.newGs (.slot d 0) (es.length * sz) arr T
      refine ⟨_, _, R'.put (some d) (fun i hi => ?_), fun _ _ => rfl⟩
      cases hi
      refine .gs sz es w.heap.size c arr T (fun i => arr.toList.getD i undef) (upd_same _ _ _) hnew hc hn hsz (fun i v hv => ?_) (fun i v hv => ?_) (fun i v hv => ?_) <;>
        (obtain ⟨u, g1, g2, g3⟩ := hcell i v hv
         have g1' : arr.toList[i]? = some u := by simpa using g1
         have e : arr.toList.getD i undef = u := by rw [List.getD_eq_getElem?_getD, g1']; rfl
         simp only [e])
      · exact g1
      · exact g2
      · exact g3.mono F.st

theorem replicate_get {α : Type} (l : List α) (n i : Nat) : ((List.replicate n l).flatten)[i]? = if i < n * l.length then l[i % l.length]? else none := by
  induction n generalizing i with
  | zero => simp
  | succ n ih =>
    rw [List.replicate_succ, List.flatten_cons, Nat.add_mul, Nat.one_mul]
    by_cases h : i < l.length
    · rw [List.getElem?_append_left h, if_pos (by omega), Nat.mod_eq_of_lt h]
    · rw [List.getElem?_append_right (by omega), ih]
      by_cases h2 : i - l.length < n * l.length
      · rw [if_pos h2, if_pos (by omega), ← Nat.mod_eq_sub_mod (by omega)]
      · rw [if_neg h2, if_neg (by omega)]
/-- as many zeros as are wanted -/
theorem zeros_cells {Wr : Nat → Nat → Prop} {z : List V} {zv : Value} (hz : CellsP ren w Wr z zv.cells.toList) (n : Nat) (m : Nat) (hm : n * z.length ≤ m) (hpos : 0 < z.length) : ∀ (i : Nat) (v : V), ((List.replicate n z).flatten)[i]? = some v → ∃ u, ((Array.range m).map (fun i => zv.cells[i % zv.cells.size]!))[i]? = some u ∧ u.oneCell' = true ∧ RepP ren w Wr v u := by
  intro i v hv
  rw [replicate_get] at hv
  split at hv
  · rename_i hi
    obtain ⟨u, g1, g2, g3⟩ := hz.2 _ v hv
    refine ⟨u, ?_, g2, g3⟩
    have e : zv.cells.size = z.length := by have := hz.1; simp at this; omega
    have him : i < m := by omega
    have hmod : i % z.length < zv.cells.size := by rw [e]; exact Nat.mod_lt _ hpos
    have g1' : zv.cells[i % z.length]? = some u := by simpa using g1
    simp only [Array.getElem?_map, Array.getElem?_range, him, if_true, Option.map_some, e]
    rw [Array.getElem?_eq_getElem hmod] at g1'
    cases g1'
    simp [hmod]
  · cases hv
theorem makeSlice_step (R : Rel ren we ωe U O σ a w ω μ) {o : Oper} {t e : TypeId} {l c : Operand} (hop : o.op = .makeSlice t l c) (ht : P.underlying t = some (.slice e)) {z : List V} (hz : zeroC P e = some z) {sz : Nat} (hsz : sizeT P e = some sz) {i : TypeInfo} (hi : P.info? e = some i) (hpos : 0 < sz) (hzl : z.length = sz)
    {sl sc : Src} {t1 t2 : TypeId} (h1 : cSrc P ren t1 l = some sl) (h2 : cSrc P ren t2 c = some sc) {nb : Nat} {cb : CB} {pin : Bool} {σ' : St} (h : stepK cb nb σ o.dst pin (.makeSlice sz i.bytes (z.map V.dem) sl sc) = some σ') : StepOk P ren we ωe U O a w o σ' nb μ := by
  obtain ⟨i', zv, hi', hzv, hcz⟩ := zeroC_rep (ren := ren) (w := w) (Wr := wr U ω) hz
  rw [hi] at hi'; cases hi'
  obtain ⟨i2, hi2, e2⟩ := sizeT_info hsz
  rw [hi] at hi2; cases hi2
  simp only [stepK] at h
  split at h
  · rename_i n m hn hm
    split at h
    · rename_i hb
      obtain ⟨k1, e1⟩ := (R.opnd h1).int hn
      obtain ⟨k2, e3⟩ := (R.opnd h2).int hm
      have hbytes : (i.bytes : Int) * m ≤ 281474976710656 := by
        have hle := hb.2.2.1
        unfold sizeCap at hle
        have e : ((m.toNat * i.bytes : Nat) : Int) ≤ 140737488355328 := by omega
        rw [Int.natCast_mul, Int.toNat_of_nonneg (by omega), Int.mul_comm] at e
        omega
      have run := run_make (P := P) w t e i zv ht hi hzv k1 k2 n m hb.1 hb.2.1 hbytes (by have := hb.2.2.2.1; unfold sizeCap at this; omega)
      refine .value (u := .slice (some ⟨w.heap.size, 0, none⟩) n.toNat m.toNat) (w' := w.alloc (.cells (madeCells zv.cells (m.toNat * i.size)) e)) (by simp [execOp, hop, e1, e3, run]) ?_
      have hd := dem_cells hcz
      have hzl' : (z.map V.dem).length = sz := by simp [hzl]
      have hlen : (List.replicate n.toNat (z.map V.dem)).length = n.toNat := by simp
      have hpz : (pin = true → n = m) → (List.replicate n.toNat (z.map V.dem)).length = n.toNat → pin = true → List.replicate n.toNat (z.map V.dem) = [] → m.toNat = 0 := by
        intro q1 q2 q3 q4
        rw [q4] at q2
        have := q1 q3
        simp at q2
        omega
      have key := putG_new R h (arr := madeCells zv.cells (m.toNat * i.size)) (T := e) (c := m.toNat) (fun x hx => by rw [List.eq_of_mem_replicate hx]; exact hzl') (by rw [hlen]; omega) (hpz hb.2.2.2.2 hlen) (by simp [madeCells, e2])
        (fun j v hv => by
          have := zeros_cells hd n.toNat (m.toNat * i.size) (by rw [hzl', e2]; exact Nat.mul_le_mul_right sz (by omega)) (by omega) j v hv
          simpa [madeCells] using this)
      rw [hlen] at key
      exact key
    · cases h
  · cases h
end Go.Proofs.Ythplooifbkopgaa
