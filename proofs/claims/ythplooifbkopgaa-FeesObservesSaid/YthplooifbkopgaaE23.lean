/- Entry and exit of a function; the machine is right. -/
import Derived.Test.YthplooifbkopgaaE22
namespace Go.Proofs.Ythplooifbkopgaa
set_option linter.unusedVariables false
set_option linter.unusedSimpArgs false
variable {ren : Nat → Option Nat} {we : World} {ωe : Nat → Ow} {U : Nat → Nat → Prop} {O : Nat → Prop} {σ : St} {a : Act} {w : World} {ω : Nat → Ow} {μ : Nat → Nat} {P : Program} {nb : Nat}

theorem enter_rel {args : List V} {bor : Bor} {us : List Value} (nt : Nat) (R : Rel ren we ωe U O ⟨args, bor.map toB⟩ ⟨us.toArray, []⟩ w ω μ) : Rel ren we ωe U O (enter nt args bor) ⟨us.toArray ++ Array.replicate (nt - us.length) undef, []⟩ w ω μ := by
  have hlen : us.length = args.length := by have := R.tl; simpa using this
  have hb : ∀ (id : Nat) (x : B), (enter nt args bor).b[id]? = some x → x = .gone ∨ (bor.map toB)[id]? = some x := by
    intro id x hx
    have hx : (bor ++ List.replicate nt B.gone)[id]? = some x := hx
    rw [← map_toB bor] at hx
    by_cases h : id < (bor.map toB).length
    · rw [List.getElem?_append_left h] at hx; exact .inr hx
    · rw [List.getElem?_append_right (by omega)] at hx
      rw [List.getElem?_replicate] at hx
      split at hx
      · cases hx; exact .inl rfl
      · cases hx
  have hbl : blen (enter nt args bor).b = blen (bor.map toB) := by
    funext id
    unfold blen
    have e : (enter nt args bor).b = bor.map toB ++ List.replicate nt B.gone := by rw [map_toB]; rfl
    rw [e]
    by_cases h : id < (bor.map toB).length
    · rw [List.getElem?_append_left h]
    · rw [List.getElem?_append_right (by omega), List.getElem?_replicate, List.getElem?_eq_none (l := bor.map toB) (by omega)]
      split <;> simp_all
  have he : env U (enter nt args bor) w ω μ = env U ⟨args, bor.map toB⟩ w ω μ := by simp only [env, hbl]
  refine ⟨rfl, by simp [enter, hlen], fun i v hv => ?_, fun id p cs h => ?_, fun id cs h => ?_, fun id es h => ?_, R.kp, R.ow, R.ul, R.fr, R.rs⟩
  · rw [he]
    have hv : (args ++ List.replicate (nt - args.length) (V.tup []))[i]? = some v := hv
    by_cases h : i < args.length
    · rw [List.getElem?_append_left h] at hv
      have := R.ts i v hv
      have e : (us.toArray ++ Array.replicate (nt - us.length) undef).getD i undef = us.toArray.getD i undef := by
        rw [Array.getD_eq_getD_getElem?, Array.getD_eq_getD_getElem?, Array.getElem?_append_left (by simp; omega)]
      show Rep ren _ _ _ ((us.toArray ++ Array.replicate (nt - us.length) undef).getD i undef)
      rw [e]; exact this
    · rw [List.getElem?_append_right (by omega), List.getElem?_replicate] at hv
      split at hv
      · cases hv
        have e : (us.toArray ++ Array.replicate (nt - us.length) undef).getD i undef = undef := by
          rw [Array.getD_eq_getD_getElem?, Array.getElem?_append_right (by simp; omega), Array.getElem?_replicate]
          split <;> rfl
        show Rep ren _ _ _ ((us.toArray ++ Array.replicate (nt - us.length) undef).getD i undef)
        rw [e]
        exact .tup [] [] rfl (by simp)
      · cases hv
  · rw [he]
    rcases hb id _ h with h | h
    · cases h
    · exact R.bs id p cs h
  · rcases hb id _ h with h | h
    · cases h
    · exact R.fs id cs h
  · rcases hb id _ h with h | h
    · cases h
    · exact R.ms id es h

/-! ### results -/
def resSem (tmps : Array Value) : ResultVar → Sem Value
  | .tmp t => pure (tmps.getD t undef)
  | .cell a t => do loadVar t (← asAddr (tmps.getD a undef))
/-- what becomes of a block of the function's own that goes out with a result -/
def tgtV (nb : Nat) (g : Nat → Nat) (rp : Bool) (v : V) (l : Loc) (id : Nat) : Option Ow := match v with
  | .own id' _ len sz => if id = id' ∧ nb ≤ id then some (.gs l (if rp then len * sz else 0)) else none
  | .ptr id' _ => if id = id' then some (.gs l 0) else none
  | .st cs => if id ∈ cs.filterMap ownId ∧ nb ≤ id then some (if rp then .no else .blk (g id)) else none
  | _ => none
def RV.rp : RV → Bool
  | .tmpP _ => true
  | _ => false
def tgt (nb : Nat) (g : Nat → Nat) (σ : St) (loc : Nat → Loc) : List RV → Nat → Ow → Ow
  | [], _, x => x
  | r :: rest, j, x => match r.slot with
    | none => tgt nb g σ loc rest (j + 1) x
    | some t => match x with
      | .gs (.slot t' 0) h => if t' = t then .gs (loc j) h else tgt nb g σ loc rest (j + 1) x
      | .blk id => match tgtV nb g r.rp (σ.t.getD t .junk) (loc j) id with
        | some y => y
        | none => tgt nb g σ loc rest (j + 1) x
      | _ => tgt nb g σ loc rest (j + 1) x
theorem tgtV_none {nb : Nat} {g : Nat → Nat} {rp : Bool} {v : V} {l : Loc} {id : Nat} (h : id ∉ goneIds nb v) : tgtV nb g rp v l id = none := by
  unfold tgtV
  unfold goneIds at h
  split
  · rename_i id' off len sz
    simp only at h
    rw [if_neg]
    rintro ⟨rfl, h2⟩
    rw [if_pos h2] at h
    exact h (by simp)
  · rename_i id' off
    simp only at h
    rw [if_neg]
    rintro rfl
    exact h (by simp)
  · rename_i cs
    simp only at h
    rw [if_neg]
    rintro ⟨h1, h2⟩
    exact h (List.mem_filter.2 ⟨h1, by simpa using h2⟩)
  · rfl
variable {g : Nat → Nat}
theorem tgt_no (σ : St) (loc : Nat → Loc) : ∀ (rs : List RV) (j : Nat), tgt nb g σ loc rs j .no = .no
  | [], _ => rfl
  | r :: rest, j => by
    simp only [tgt]
    split <;> exact tgt_no σ loc rest (j + 1)
theorem tgt_cell (σ : St) (loc : Nat → Loc) (id i h : Nat) : ∀ (rs : List RV) (j : Nat), tgt nb g σ loc rs j (.gs (.cell id i) h) = .gs (.cell id i) h
  | [], _ => rfl
  | r :: rest, j => by
    simp only [tgt]
    split <;> exact tgt_cell σ loc id i h rest (j + 1)
theorem tgt_wr (σ : St) (loc : Nat → Loc) (o : Nat) : ∀ (rs : List RV) (j : Nat) (x : Ow), owr (tgt nb g σ loc rs j x) o → owr x o
  | [], _, x, h => h
  | r :: rest, j, x, h => by
    cases x with
    | no => rw [tgt_no] at h; exact h
    | blk id => simp [owr]
    | gs l hh =>
      cases l with
      | cell id i => rw [tgt_cell] at h; exact h
      | slot t' k =>
        simp only [tgt] at h
        split at h
        · exact tgt_wr σ loc o rest (j + 1) _ h
        · cases k with
          | zero =>
            simp only at h
            split at h
            · exact h
            · exact tgt_wr σ loc o rest (j + 1) _ h
          | succ k => exact tgt_wr σ loc o rest (j + 1) _ h
theorem tgt_blk (σ : St) (loc : Nat → Loc) (id : Nat) : ∀ (rs : List RV) (j : Nat), id ∉ oneRef nb σ rs → tgt nb g σ loc rs j (.blk id) = .blk id
  | [], _, h => rfl
  | r :: rest, j, h => by
    simp only [oneRef, List.mem_append, not_or] at h
    have ih := tgt_blk σ loc id rest (j + 1) h.2
    simp only [tgt]
    split
    · exact ih
    · rename_i t ht
      rw [ht] at h
      rw [tgtV_none h.1]
      exact ih
theorem tgt_slot (σ : St) (loc : Nat → Loc) (t h : Nat) : ∀ (rs : List RV) (j i : Nat) (r : RV), resDistinct rs = true → rs[i]? = some r → r.slot = some t → tgt nb g σ loc rs j (.gs (.slot t 0) h) = .gs (loc (j + i)) h
  | [], _, i, _, _, hi, _ => by simp at hi
  | r' :: rest, j, i, r, hd, hi, hr => by
    simp only [resDistinct, Bool.and_eq_true] at hd
    cases i with
    | zero => simp at hi; subst hi; simp [tgt, hr]
    | succ i =>
      have hi : rest[i]? = some r := by simpa using hi
      have ih := tgt_slot σ loc t h rest (j + 1) i r hd.2 hi hr
      have e : loc (j + 1 + i) = loc (j + (i + 1)) := by congr 1; omega
      rw [e] at ih
      simp only [tgt]
      split
      · exact ih
      · rename_i t' ht'
        have h1 := hd.1
        rw [ht'] at h1
        simp only [List.all_eq_true] at h1
        have := h1 _ (List.mem_of_getElem? hi)
        rw [hr] at this
        simp only [bne_iff_ne, ne_eq] at this
        rw [if_neg (fun e => this e.symm)]
        exact ih
theorem oneRef_mem (σ : St) (t id : Nat) (hv : id ∈ goneIds nb (σ.t.getD t .junk)) : ∀ (rs : List RV) (i : Nat) (r : RV), rs[i]? = some r → r.slot = some t → id ∈ oneRef nb σ rs
  | [], i, r, hi, _ => by simp at hi
  | r' :: rest, i, r, hi, hr => by
    simp only [oneRef, List.mem_append]
    cases i with
    | zero => simp at hi; subst hi; rw [hr]; exact .inl hv
    | succ i => exact .inr (oneRef_mem σ t id hv rest i r (by simpa using hi) hr)
theorem nodupB_append : ∀ (xs ys : List Nat), nodupB (xs ++ ys) = true → nodupB ys = true ∧ ∀ x ∈ xs, x ∉ ys
  | [], ys, h => ⟨h, by simp⟩
  | x :: xs, ys, h => by
    simp only [List.cons_append, nodupB, Bool.and_eq_true, Bool.not_eq_true', List.contains_eq_mem, decide_eq_false_iff_not, List.mem_append, not_or] at h
    obtain ⟨q1, q2⟩ := nodupB_append xs ys h.2
    refine ⟨q1, fun y hy => ?_⟩
    rcases List.mem_cons.1 hy with rfl | hy
    · exact h.1.2
    · exact q2 y hy
theorem nodupB_nodup : ∀ {xs : List Nat}, nodupB xs = true → xs.Nodup
  | [], _ => by simp
  | x :: xs, h => by
    simp only [nodupB, Bool.and_eq_true, Bool.not_eq_true', List.contains_eq_mem, decide_eq_false_iff_not] at h
    rw [List.nodup_cons]
    exact ⟨h.1, nodupB_nodup h.2⟩
theorem tgt_hit (σ : St) (loc : Nat → Loc) (t id : Nat) (hv : id ∈ goneIds nb (σ.t.getD t .junk)) : ∀ (rs : List RV) (j i : Nat) (r : RV), nodupB (oneRef nb σ rs) = true → rs[i]? = some r → r.slot = some t → ∀ y, tgtV nb g r.rp (σ.t.getD t .junk) (loc (j + i)) id = some y → tgt nb g σ loc rs j (.blk id) = y
  | [], _, i, _, _, hi, _, _, _ => by simp at hi
  | r' :: rest, j, i, r, hd, hi, hr, y, hy => by
    simp only [oneRef] at hd
    obtain ⟨hd1, hd2⟩ := nodupB_append _ _ hd
    cases i with
    | zero =>
      simp at hi; subst hi
      simp only [tgt, hr]
      rw [Nat.add_zero] at hy
      rw [hy]
    | succ i =>
      have hi : rest[i]? = some r := by simpa using hi
      have hm := oneRef_mem σ t id hv rest i r hi hr
      have ih := tgt_hit σ loc t id hv rest (j + 1) i r hd1 hi hr y (by rw [show j + 1 + i = j + (i + 1) by omega]; exact hy)
      simp only [tgt]
      split
      · exact ih
      · rename_i t' ht'
        rw [ht'] at hd2
        rw [tgtV_none (fun h => hd2 id h hm)]
        exact ih

theorem run_loadVar {t : TypeId} {b : Bool} {n : Nat} (h1 : aggT P t = some b) (h2 : sizeT P t = some n) {k q : Nat} (us : List Value) (hb1 : b = true → us.length = n) (hb2 : b = false → us.length = 1) (hc : ∀ (j : Nat) (u : Value), us[j]? = some u → w.cell? ⟨k, q + j, none⟩ = some u) :
    (loadVar t ⟨k, q, none⟩).run P w = .ok (if b then .agg us.toArray else us.getD 0 undef) w := by
  have hl := run_loadCells_list (P := P) w ⟨k, q, none⟩ us (fun j u hu => by rw [add_mk]; exact hc j u hu)
  simp only [Sem.run_bind, Sem.run_pure, Result.andThen_ok, loadVar, run_isAgg h1]
  cases b with
  | true =>
    rw [hb1 rfl] at hl
    simp only [if_true, Sem.run_bind, run_sizeOf h2, Result.andThen_ok, hl, Sem.run_pure]
  | false =>
    cases us with
    | nil => simp at hb2
    | cons u us =>
      have := hc 0 u rfl
      simp only [Nat.add_zero] at this
      simp [load, Sem.run, this]
theorem mapM_plain_cells (R : Rel ren we ωe U O σ a w ω μ) {id : Nat} {cs vs : List V} {arr : Array Value} (hc : ∀ (j : Nat) (c : V), cs[j]? = some c → ∃ u, arr[j]? = some u ∧ u.oneCell' = true ∧ Rep ren (env U σ w ω μ) (.cell id j) c u) (h : cs.mapM V.plain = some vs) : vs.length = cs.length ∧ ∀ (j : Nat) (c : V), vs[j]? = some c → ∃ u, arr[j]? = some u ∧ u.oneCell' = true ∧ RepP ren w (wr U ω) c u := by
  refine ⟨mapM_len' h, fun j c hj => ?_⟩
  have hlt : j < cs.length := by rw [← mapM_len' h]; exact (List.getElem?_eq_some_iff.1 hj).1
  obtain ⟨v', g1, g2⟩ := mapM_at' h j _ (List.getElem?_eq_getElem hlt)
  rw [hj] at g1; cases g1
  obtain ⟨u, q1, q2, q3⟩ := hc j _ (List.getElem?_eq_getElem hlt)
  exact ⟨u, q1, q2, q3.plain R.hU g2⟩
/-- the cells of a block of local memory, as they go out -/
theorem Rel.blockP (R : Rel ren we ωe U O σ a w ω μ) {id : Nat} {p : Bool} {cs vs : List V} (hb : σ.b[id]? = some (.live p cs)) (hne : cs ≠ []) (h : (if p then some cs else cs.mapM V.plain) = some vs) :
    ω (μ id) = .blk id ∧ vs.length = cs.length ∧ ∃ arr T, w.heap[μ id]? = some (.cells arr T (0, 0)) ∧ cs.length ≤ arr.size ∧ ∀ (j : Nat) (c : V), vs[j]? = some c → ∃ u, arr[j]? = some u ∧ u.oneCell' = true ∧ RepP ren w (wr U ω) c u := by
  obtain ⟨e1, arr, T, e2, e3, e4⟩ := R.live hb hne
  cases p with
  | true =>
    cases h
    exact ⟨e1, rfl, arr, T, e2, e3, fun j c hj => by obtain ⟨u, g1, g2, g3, g4⟩ := e4 j c hj; exact ⟨u, g1, g2, g3 rfl⟩⟩
  | false =>
    obtain ⟨q1, q2⟩ := mapM_plain_cells R (id := id) (fun j c hj => by obtain ⟨u, g1, g2, g3, g4⟩ := e4 j c hj; exact ⟨u, g1, g2, g4⟩) h
    exact ⟨e1, q1, arr, T, e2, e3, q2⟩
theorem settle_ok (R : Rel ren we ωe U O σ a w ω μ) {ω' : Nat → Ow} (hwr : ∀ k o, wr U ω' k o → wr U ω k o) {c v : V} {u : Value} (hc : RepP ren w (wr U ω) c u ∨ OwnAt (env U σ w ω μ) c u) (h1 : u.oneCell' = true) (hno : ∀ id, ownId c = some id → nb ≤ id → ∀ β, ω β = .blk id → ω' β = .no) (hv : settle nb σ.b c = some v) : RepP ren w (wr U ω') v u := by
  have mono : ∀ {v : V} {u : Value}, RepP ren w (wr U ω) v u → RepP ren w (wr U ω') v u := fun h => h.mono (fun k o u h1 h2 => ⟨fun hh => h1 (hwr k o hh), h2⟩)
  by_cases hown : ∃ id off len sz, c = .own id off len sz
  · obtain ⟨id, off, len, sz, rfl⟩ := hown
    rcases hc with hc | hc
    · cases hc
    · obtain ⟨id', off', len', sz', c', L, A, e, rfl, hL, hl, hcl, hz, hA⟩ := hc
      cases e
      simp only [settle] at hv
      split at hv
      · rename_i hge
        split at hv
        · rename_i cs hb
          cases hv
          have hL' : blen σ.b id = some L := hL
          have : L = cs.length := by simp [blen, hb] at hL'; exact hL'.symm
          subst this
          by_cases hne : cs = []
          · subst hne
            have hnil : ∀ (i : Nat) (v : V), ¬ (chunks sz len (([] : List V).drop off)).flatten[i]? = some v := by
              intro i v hv
              rw [chunks_flatten, List.getElem?_take] at hv
              split at hv
              · simp at hv
              · cases hv
            have key := RepP.sl (ren := ren) (w := w) (Wr := wr U ω') sz (chunks sz len (([] : List V).drop off)) A c' (fun _ => undef) (by rw [chunks_length]; exact hcl) (chunks_each _ _ _ (by simp at hl ⊢; omega)) (μ id) off
              (fun hne => by
                rcases hA with ⟨h1, _⟩ | ⟨h1, _⟩
                · exact h1
                · subst h1; simp [chunks] at hne)
              (fun i v hv => absurd hv (hnil i v)) (fun i v hv => absurd hv (hnil i v)) (fun i v hv => absurd hv (hnil i v))
            rw [chunks_length] at key
            exact key
          · obtain ⟨e0, arr, T, e1, e2, e3⟩ := R.live hb hne
            have hω' := hno id rfl hge _ e0
            have hnw : ∀ o, ¬ wr U ω' (μ id) o := by
              intro o ho
              rw [wr_owr, hω'] at ho
              rcases ho with ho | ho
              · exact R.noU (by rw [e0]; simp) o ho
              · exact ho
            have seg : ∀ (i : Nat) (v : V), (chunks sz len (cs.drop off)).flatten[i]? = some v → ∃ u, arr.toList.getD (off + i) undef = u ∧ arr[off + i]? = some u ∧ u.oneCell' = true ∧ RepP ren w (wr U ω') v u := by
              intro i v hv
              rw [chunks_flatten, List.getElem?_take] at hv
              split at hv
              · rw [List.getElem?_drop] at hv
                obtain ⟨u, g1, g2, g3, _⟩ := e3 _ _ hv
                have g1' : arr.toList[off + i]? = some u := by simpa using g1
                exact ⟨u, by rw [List.getD_eq_getElem?_getD, g1']; rfl, g1, g2, mono (g3 rfl)⟩
              · cases hv
            have key := RepP.sl (ren := ren) (w := w) (Wr := wr U ω') sz (chunks sz len (cs.drop off)) A c' (fun i => arr.toList.getD (off + i) undef) (by rw [chunks_length]; exact hcl) (chunks_each _ _ _ (by simp; omega)) (μ id) off
              (fun hne => by
                rcases hA with ⟨h1, _⟩ | ⟨h1, _⟩
                · exact h1
                · subst h1; simp [chunks] at hne)
              (fun i v hv => by obtain ⟨u, e, g1, g2, g3⟩ := seg i v hv; exact ⟨hnw _, by rw [cell_of_row _ _ _ _ _ _ e1, e]; exact g1⟩)
              (fun i v hv => by obtain ⟨u, e, g1, g2, g3⟩ := seg i v hv; rw [e]; exact g2) (fun i v hv => by obtain ⟨u, e, g1, g2, g3⟩ := seg i v hv; rw [e]; exact g3)
            rw [chunks_length] at key
            exact key
        · rename_i cs hb
          cases hv
          have hL' : blen σ.b id = some L := hL
          have : L = cs.length := by simp [blen, hb] at hL'; exact hL'.symm
          subst this
          obtain ⟨q0, arr, T, fr, q1, q2, q3⟩ := R.fs id cs hb
          have seg : ∀ (i : Nat) (v : V), (chunks sz len (cs.drop off)).flatten[i]? = some v → ∃ u, arr.toList.getD (off + i) undef = u ∧ arr[off + i]? = some u ∧ u.oneCell' = true ∧ RepP ren w (wr U ω') v u := by
            intro i v hv
            rw [chunks_flatten, List.getElem?_take] at hv
            split at hv
            · rw [List.getElem?_drop] at hv
              obtain ⟨u, g1, g2, g3⟩ := q3 _ _ hv
              have g1' : arr.toList[off + i]? = some u := by simpa using g1
              exact ⟨u, by rw [List.getD_eq_getElem?_getD, g1']; rfl, g1, g2, mono g3⟩
            · cases hv
          have key := RepP.sl (ren := ren) (w := w) (Wr := wr U ω') sz (chunks sz len (cs.drop off)) A c' (fun i => arr.toList.getD (off + i) undef) (by rw [chunks_length]; exact hcl) (chunks_each _ _ _ (by simp; omega)) (μ id) off
            (fun hne => by
              rcases hA with ⟨h1, _⟩ | ⟨h1, _⟩
              · exact h1
              · subst h1; simp [chunks] at hne)
            (fun i v hv => by obtain ⟨u, e, g1, g2, g3⟩ := seg i v hv; exact ⟨fun hh => q0 _ (hwr _ _ hh), by rw [cell_of_row _ _ _ _ _ _ q1, e]; exact g1⟩)
            (fun i v hv => by obtain ⟨u, e, g1, g2, g3⟩ := seg i v hv; rw [e]; exact g2) (fun i v hv => by obtain ⟨u, e, g1, g2, g3⟩ := seg i v hv; rw [e]; exact g3)
          rw [chunks_length] at key
          exact key
        · cases hv
      · cases hv
  · have hs : settle nb σ.b c = c.plain := by
      cases c <;> first | rfl | exact absurd ⟨_, _, _, _, rfl⟩ hown
    rw [hs] at hv
    rcases hc with hc | hc
    · exact mono ((Rep.pure (E := env U σ w ω μ) (l := .slot 0 0) hc).plain R.hU hv)
    · obtain ⟨id, off, len, sz, _, _, _, e, _⟩ := hc
      exact absurd ⟨id, off, len, sz, e⟩ hown
theorem resOne_ok (R : Rel ren we ωe U O σ a w ω μ) {x : ResultVar} {rv : RV} {rp0 : Bool} (hx : cRes P rp0 [x] = some [rv]) {v : V} (hv : resOne nb σ rv = some v) {ω' : Nat → Ow} {l : Loc} {σ2 : St} {μ2 : Nat → Nat} (hwr : ∀ k o, wr U ω' k o → wr U ω k o)
    (hslot : ∀ t, rv.slot = some t → ∀ β h, ω β = .gs (.slot t 0) h → ω' β = .gs l h) (hgone : ∀ t id, rv.slot = some t → id ∈ goneIds nb (σ.t.getD t .junk) → ∀ y, tgtV nb g rv.rp (σ.t.getD t .junk) l id = some y → ∀ β, ω β = .blk id → ω' β = y)
    (hidx : ∀ id ∈ refsOf v, ∀ L, blen σ.b id = some L → blen σ2.b (g id) = some L ∧ μ2 (g id) = μ id) :
    ∃ u, (resSem a.tmps x).run P w = .ok u w ∧ Rep ren (env U σ2 w ω' μ2) l (renV g v) u := by
  have mono : ∀ {v : V} {u : Value}, RepP ren w (wr U ω) v u → RepP ren w (wr U ω') v u := fun h => h.mono (fun k o u h1 h2 => ⟨fun hh => h1 (hwr k o hh), h2⟩)
  have pl : ∀ {v : V} {u : Value}, RepP ren w (wr U ω) v u → Rep ren (env U σ2 w ω' μ2) l (renV g v) u := fun h => by rw [h.renV_same]; exact .pure (mono h)
  cases x with
  | tmp t =>
    have hrv : rv = .tmp t ∨ rv = .tmpP t := by
      simp only [cRes, Option.bind_eq_bind, Option.bind_some, Option.some.injEq, List.cons.injEq, and_true] at hx
      cases rp0 with
      | true => exact .inr hx.symm
      | false => exact .inl hx.symm
    have hslot' : rv.slot = some t := by rcases hrv with rfl | rfl <;> rfl
    refine ⟨a.tmps.getD t undef, rfl, ?_⟩
    have hr := R.slot t
    have gsCase : ∀ sz es, σ.t.getD t .junk = .gs sz es → v = .gs sz es → Rep ren (env U σ2 w ω' μ2) l (renV g v) (a.tmps.getD t undef) := by
      intro sz es hs hv
      subst hv
      rw [hs] at hr
      generalize a.tmps.getD t undef = u at hr ⊢
      cases hr with
      | pure h => exact pl h
      | gs _ _ β c arr T f hω hb hc hn hsz hcell h1 h => exact .gs _ _ β c arr T f (hslot t hslot' β _ hω) hb hc hn hsz hcell h1 (fun i v hv => mono (h i v hv))
    rcases hrv with rfl | rfl
    · simp only [resOne] at hv
      split at hv
      · rename_i id off len sz hs
        rw [hs] at hr
        split at hv
        · rename_i hge
          split at hv
          · rename_i h0
            obtain ⟨h0, hpos⟩ := h0
            split at hv
            · rename_i cs hb
              split at hv
              · rename_i hcond
                obtain ⟨c, L, A, e1, e2, e3, e4, e5⟩ := hr.own_inv
                rw [e1]
                have hL : L = cs.length := by
                  have e2 : blen σ.b id = some L := e2
                  simp only [blen, hb] at e2
                  cases e2; rfl
                subst hL
                subst h0
                cases hv
                have triv : len = 0 → c = 0 → Rep ren (env U σ2 w ω' μ2) l (renV g (.fr sz (chunks sz len cs))) (.slice A len c) := by
                  rintro rfl rfl
                  exact .fr0 _ _
                by_cases hne : cs = []
                · subst hne
                  have hl0 : len = 0 := by
                    rcases Nat.eq_zero_or_pos len with q | q
                    · exact q
                    · have := Nat.mul_le_mul_right sz q
                      simp at e3; omega
                  refine triv hl0 ?_
                  rcases e4.2 rfl with q | q
                  · omega
                  · exact q
                obtain ⟨q1, arr, T, q2, q3, q4⟩ := R.live hb hne
                rcases e5 with ⟨e5, e6⟩ | ⟨e5, e6⟩
                · rw [e5]
                  have hfl : ∀ (i : Nat) (v : V), (chunks sz len cs).flatten[i]? = some v → cs[i]? = some v := fun i v hv => by
                    rw [chunks_flatten, List.getElem?_take] at hv
                    split at hv
                    · exact hv
                    · cases hv
                  have e6 : 0 + c * sz ≤ rsize w (μ id) := e6
                  rw [rsize_of q2] at e6
                  have hω' : ω' (μ id) = .gs l 0 := hgone t id rfl (by rw [hs]; simp [goneIds, hge]) (.gs l 0) (by rw [hs]; simp [tgtV, hge, RV.rp]) _ q1
                  have key : Rep ren (env U σ2 w ω' μ2) l (.fr sz (chunks sz len cs)) (.slice (some ⟨μ id, 0, none⟩) (chunks sz len cs).length c) := by
                    refine .fr sz (chunks sz len cs) (μ id) c arr T (fun i => arr.toList.getD i undef) hω' q2 (by omega) ⟨by rw [chunks_length]; exact e4.1, fun hnil => ?_⟩ (chunks_each _ _ _ (by omega)) (fun i v hv => ?_) (fun i v hv => ?_) (fun i v hv => ?_)
                    · have hl0 : len = 0 := by rw [← chunks_length sz len cs, hnil]; rfl
                      rcases hcond with q | q
                      · exact absurd hl0 q
                      · exact absurd (List.length_eq_zero_iff.1 q) hne
                    all_goals
                      (obtain ⟨u, g1, g2, g3, _⟩ := q4 i v (hfl i v hv)
                       have g1' : arr.toList[i]? = some u := by simpa using g1
                       have e : arr.toList.getD i undef = u := by rw [List.getD_eq_getElem?_getD, g1']; rfl
                       simp only [e])
                    · exact g1
                    · exact g2
                    · exact mono (g3 rfl)
                  rw [chunks_length] at key
                  exact key
                · exact triv e5 e6
              · cases hv
            · cases hv
          · cases hv
        · cases hv
          exact (hr.ownAt.move (E' := env U σ2 w ω' μ2) g (fun id' e L hL => by cases e; exact hidx id (by simp [refsOf]) L hL) (fun k => Nat.le_refl _)).rep _
      · rename_i id off hs
        rw [hs] at hr
        split at hv
        · rename_i h0
          split at hv
          · rename_i p cs hb
            split at hv
            · rename_i hcl
              have hne : cs ≠ [] := fun e => hcl (by rw [e]; rfl)
              obtain ⟨vs, hvs, rfl⟩ : ∃ vs, (if p then some cs else cs.mapM V.plain) = some vs ∧ v = .bx p vs := by
               cases p with
               | true => simp at hv; exact ⟨cs, rfl, hv.symm⟩
               | false =>
                 simp only [Bool.false_eq_true, if_false, Option.map_eq_some_iff] at hv
                 obtain ⟨vs, h1, h2⟩ := hv
                 exact ⟨vs, by simpa using h1, h2.symm⟩
              obtain ⟨L, e1, e2⟩ := hr.ptr_inv
              rw [e2]
              obtain ⟨q1, q0, arr, T, q2, q3, q4⟩ := R.blockP hb hne hvs
              rw [h0.1]
              have hω' : ω' (μ id) = .gs l 0 := hgone t id rfl (by rw [hs]; simp [goneIds]) (.gs l 0) (by rw [hs]; simp [tgtV]) _ q1
              refine .bx p vs (μ id) arr T (fun i => arr.toList.getD i undef) hω' q2 (by omega) (fun i v hv => ?_) (fun i v hv => ?_) (fun i v hv => ?_) <;>
                (obtain ⟨u, g1, g2, g3⟩ := q4 i v hv
                 have g1' : arr.toList[i]? = some u := by simpa using g1
                 have e : arr.toList.getD i undef = u := by rw [List.getD_eq_getElem?_getD, g1']; rfl
                 simp only [e])
              · exact g1
              · exact g2
              · exact mono g3
            · cases hv
          · cases hv
        · cases hv
      · rename_i hs; cases hv; rw [hs] at hr
        cases hr with
        | pure h => exact pl h
      · rename_i hs; cases hv; rw [hs] at hr
        cases hr with
        | pure h => exact pl h
      · rename_i hs; cases hv; rw [hs] at hr
        cases hr with
        | pure h => exact pl h
      · rename_i hs; cases hv; exact gsCase _ _ hs rfl
      · rename_i cs hs; cases hv; rw [hs] at hr
        exact hr.moveSt (E' := env U σ2 w ω' μ2) (fun k o u h1 h2 => ⟨fun hh => h1 (hwr k o hh), h2⟩) g hidx (fun k => Nat.le_refl _)
      · cases hv
    · simp only [resOne] at hv
      split at hv
      · rename_i id off len sz hs
        rw [hs] at hr
        split at hv
        · rename_i h0
          obtain ⟨hge, h0, hpos⟩ := h0
          split at hv
          · rename_i cs hb
            obtain ⟨c, L, A, e1, e2, e3, e4, e5⟩ := hr.own_inv
            rw [e1]
            have hL : L = cs.length := by
              have e2 : blen σ.b id = some L := e2
              simp only [blen, hb] at e2
              cases e2; rfl
            subst hL
            subst h0
            cases hv
            have triv : len = 0 → c = 0 → Rep ren (env U σ2 w ω' μ2) l (renV g (.gs sz (chunks sz len cs))) (.slice A len c) := by
              rintro rfl rfl
              exact .pure (.nil _ _)
            by_cases hne : cs = []
            · subst hne
              have hl0 : len = 0 := by
                rcases Nat.eq_zero_or_pos len with q | q
                · exact q
                · have := Nat.mul_le_mul_right sz q
                  simp at e3; omega
              refine triv hl0 ?_
              rcases e4.2 rfl with q | q
              · omega
              · exact q
            obtain ⟨q1, arr, T, q2, q3, q4⟩ := R.live hb hne
            rcases e5 with ⟨e5, e6⟩ | ⟨e5, e6⟩
            · rw [e5]
              have hfl : ∀ (i : Nat) (v : V), (chunks sz len cs).flatten[i]? = some v → cs[i]? = some v := fun i v hv => by
                rw [chunks_flatten, List.getElem?_take] at hv
                split at hv
                · exact hv
                · cases hv
              have e6 : 0 + c * sz ≤ rsize w (μ id) := e6
              rw [rsize_of q2] at e6
              have hω' : ω' (μ id) = .gs l (len * sz) := hgone t id rfl (by rw [hs]; simp [goneIds, hge]) (.gs l (len * sz)) (by rw [hs]; simp [tgtV, hge, RV.rp]) _ q1
              have key : Rep ren (env U σ2 w ω' μ2) l (.gs sz (chunks sz len cs)) (.slice (some ⟨μ id, 0, none⟩) (chunks sz len cs).length c) := by
                refine .gs sz (chunks sz len cs) (μ id) c arr T (fun i => arr.toList.getD i undef) (by rw [chunks_length]; exact hω') q2 (by omega) (by rw [chunks_length]; exact e4.1) (chunks_each _ _ _ (by omega)) (fun i v hv => ?_) (fun i v hv => ?_) (fun i v hv => ?_)
                all_goals
                  (obtain ⟨u, g1, g2, g3, _⟩ := q4 i v (hfl i v hv)
                   have g1' : arr.toList[i]? = some u := by simpa using g1
                   have e : arr.toList.getD i undef = u := by rw [List.getD_eq_getElem?_getD, g1']; rfl
                   simp only [e])
                · exact g1
                · exact g2
                · exact mono (g3 rfl)
              rw [chunks_length] at key
              exact key
            · exact triv e5 e6
          · cases hv
        · cases hv
      · rename_i cs hs
        rw [hs] at hr
        obtain ⟨us, eu, hl, hc, h1⟩ := hr.st_inv
        rw [eu]
        rw [Option.map_eq_some_iff] at hv
        obtain ⟨vs, hvs, rfl⟩ := hv
        have hvl : vs.length = cs.length := mapM_len' hvs
        refine .pure (.agg vs us (by omega) (fun i v u hvi hui => ?_) h1)
        have hlt : i < cs.length := by rw [← hvl]; exact (List.getElem?_eq_some_iff.1 hvi).1
        obtain ⟨v', g1, g2⟩ := mapM_at' hvs i _ (List.getElem?_eq_getElem hlt)
        rw [hvi] at g1; cases g1
        refine settle_ok R hwr (hc i _ u (List.getElem?_eq_getElem hlt) hui) (h1 u (List.mem_of_getElem? hui)) (fun id hid hge β hβ => ?_) g2
        have hmem : id ∈ cs.filterMap ownId := List.mem_filterMap.2 ⟨_, List.getElem_mem hlt, hid⟩
        exact hgone t id rfl (by rw [hs]; simp only [goneIds]; exact List.mem_filter.2 ⟨hmem, by simpa using hge⟩) .no (by rw [hs]; simp only [tgtV, RV.rp, if_true]; rw [if_pos ⟨hmem, hge⟩]) β hβ
      · rename_i hs; cases hv; rw [hs] at hr
        cases hr with
        | pure h => exact pl h
      · rename_i hs; cases hv; rw [hs] at hr
        cases hr with
        | pure h => exact pl h
      · rename_i hs; cases hv; rw [hs] at hr
        cases hr with
        | pure h => exact pl h
      · rename_i hs; cases hv; exact gsCase _ _ hs rfl
      · cases hv
  | cell t ty =>
    simp only [cRes, Option.bind_eq_bind, Option.bind_eq_some_iff, Option.some.injEq] at hx
    obtain ⟨agg, ha, n, hn, _, rfl, hx⟩ := hx
    cases hx
    have hr := R.slot t
    simp only [resOne] at hv
    split at hv
    · rename_i id off hs
      rw [hs] at hr
      obtain ⟨L, e1, e2⟩ := hr.ptr_inv
      split at hv
      · rename_i p cs hb
        cases agg with
        | true =>
          simp only [if_true] at hv
          split at hv
          · rename_i h0
            obtain ⟨vs, hvs, rfl⟩ : ∃ vs, (if p then some cs else cs.mapM V.plain) = some vs ∧ v = .agg vs := by
              cases p with
              | true => simp at hv; exact ⟨cs, rfl, hv.symm⟩
              | false =>
                simp only [Bool.false_eq_true, if_false, Option.map_eq_some_iff] at hv
                obtain ⟨vs, h1, h2⟩ := hv
                exact ⟨vs, by simpa using h1, h2.symm⟩
            have hne : cs ≠ [] := by rintro rfl; have := h0.2; simp at this; omega
            obtain ⟨q1, q0, arr, T, q2, q3, q4⟩ := R.blockP hb hne hvs
            refine ⟨.agg (arr.toList.take n).toArray, ?_, ?_⟩
            · simp only [resSem, e2, Sem.run_bind]
              have := run_loadVar (P := P) (w := w) (k := μ id) (q := off) ha hn (arr.toList.take n) (fun _ => by simp; omega) (by simp) (fun j u hu => by
                rw [h0.1, Nat.zero_add, cell_of_row _ _ _ _ _ _ q2]
                rw [List.getElem?_take] at hu
                split at hu
                · simpa using hu
                · cases hu)
              simpa [asAddr, env] using this
            · refine pl (CellsP.agg ⟨by simp; omega, fun j c hj => ?_⟩)
              obtain ⟨u, g1, g2, g3⟩ := q4 j c hj
              have hjn : j < n := by have := (List.getElem?_eq_some_iff.1 hj).1; omega
              exact ⟨u, by rw [List.getElem?_take, if_pos hjn]; simpa using g1, g2, g3⟩
          · cases hv
        | false =>
          simp only [Bool.false_eq_true, if_false] at hv
          split at hv
          · rename_i h0
            rw [Option.bind_eq_some_iff] at hv
            obtain ⟨c, hc, hp⟩ := hv
            obtain ⟨q1, arr, T, q2, q3, q4⟩ := R.live hb (by rintro rfl; simp at hc)
            obtain ⟨u, g1, g2, g3, g4⟩ := q4 0 c hc
            refine ⟨u, ?_, pl (g4.plain R.hU hp)⟩
            simp only [resSem, e2, Sem.run_bind]
            have := run_loadVar (P := P) (w := w) (k := μ id) (q := off) ha hn [u] (by simp) (by simp) (fun j u' hu => by
              cases j with
              | zero => simp at hu; subst hu; rw [h0.2, cell_of_row _ _ _ _ _ _ q2]; exact g1
              | succ j => simp at hu)
            simpa [asAddr, env] using this
          · cases hv
      · cases hv
    · cases hv
end Go.Proofs.Ythplooifbkopgaa
