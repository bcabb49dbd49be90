/- Entry and exit of a function; the machine is right. -/
import Derived.Test.YtoeobffjdbdpgaaE22
namespace Go.Proofs.Ytoeobffjdbdpgaa
set_option linter.unusedVariables false
set_option linter.unusedSimpArgs false
variable {ren : Nat → Option Nat} {we : World} {ωe : Nat → Ow} {U : Nat → Nat → Prop} {O : Nat → Prop} {σ : St} {a : Act} {w : World} {ω : Nat → Ow} {μ : Nat → Nat} {P : Program} {nb : Nat}

theorem enter_rel {args : List V} {bor : Bor} {us : List Value} (nt : Nat) (R : Rel ren we ωe U O ⟨args, bor.map toB⟩ ⟨us.toArray, []⟩ w ω μ) : Rel ren we ωe U O (enter nt args bor) ⟨us.toArray ++ Array.replicate (nt - us.length) undef, []⟩ w ω μ := by
  have hlen : us.length = args.length := by have := R.tl; simpa using this
  have hb : ∀ (id : Nat) (x : B), (enter nt args bor).b[id]? = some x → x = .gone ∨ (bor.map toB)[id]? = some x := by
    intro id x hx
    have hx : (bor ++ List.replicate nt B.gone)[id]? = some x := hx
    rw [← map_toB bor] at hx
    by_cases h : id < (bor.map toB).length
    · rw [List.getElem?_append_left h] at hx; exact .inr hx
    · rw [List.getElem?_append_right (by omega)] at hx
      rw [List.getElem?_replicate] at hx
      split at hx
      · cases hx; exact .inl rfl
      · cases hx
  have hbl : blen (enter nt args bor).b = blen (bor.map toB) := by
    funext id
    unfold blen
    have e : (enter nt args bor).b = bor.map toB ++ List.replicate nt B.gone := by rw [map_toB]; rfl
    rw [e]
    by_cases h : id < (bor.map toB).length
    · rw [List.getElem?_append_left h]
    · rw [List.getElem?_append_right (by omega), List.getElem?_replicate, List.getElem?_eq_none (l := bor.map toB) (by omega)]
      split <;> simp_all
  have he : env U (enter nt args bor) w ω μ = env U ⟨args, bor.map toB⟩ w ω μ := by simp only [env, hbl]
  refine ⟨rfl, by simp [enter, hlen], fun i v hv => ?_, fun id p cs h => ?_, fun id cs h => ?_, fun id es h => ?_, R.kp, R.ow, R.ul, R.fr, R.rs⟩
  · rw [he]
    have hv : (args ++ List.replicate (nt - args.length) (V.tup []))[i]? = some v := hv
    by_cases h : i < args.length
    · rw [List.getElem?_append_left h] at hv
      have := R.ts i v hv
      have e : (us.toArray ++ Array.replicate (nt - us.length) undef).getD i undef = us.toArray.getD i undef := by
        rw [Array.getD_eq_getD_getElem?, Array.getD_eq_getD_getElem?, Array.getElem?_append_left (by simp; omega)]
      show Rep ren _ _ _ ((us.toArray ++ Array.replicate (nt - us.length) undef).getD i undef)
      rw [e]; exact this
    · rw [List.getElem?_append_right (by omega), List.getElem?_replicate] at hv
      split at hv
      · cases hv
        have e : (us.toArray ++ Array.replicate (nt - us.length) undef).getD i undef = undef := by
          rw [Array.getD_eq_getD_getElem?, Array.getElem?_append_right (by simp; omega), Array.getElem?_replicate]
          split <;> rfl
        show Rep ren _ _ _ ((us.toArray ++ Array.replicate (nt - us.length) undef).getD i undef)
        rw [e]
        exact .tup [] [] rfl (by simp)
      · cases hv
  · rw [he]
    rcases hb id _ h with h | h
    · cases h
    · exact R.bs id p cs h
  · rcases hb id _ h with h | h
    · cases h
    · exact R.fs id cs h
  · rcases hb id _ h with h | h
    · cases h
    · exact R.ms id es h

/-! ### results -/
def resSem (tmps : Array Value) : ResultVar → Sem Value
  | .tmp t => pure (tmps.getD t undef)
  | .cell a t => do loadVar t (← asAddr (tmps.getD a undef))
def tgt (σ : St) (loc : Nat → Loc) : List RV → Nat → Ow → Ow
  | [], _, x => x
  | .cell _ _ _ :: rest, j, x => tgt σ loc rest (j + 1) x
  | .tmp t :: rest, j, x => match x with
    | .gs (.slot t' 0) h => if t' = t then .gs (loc j) h else tgt σ loc rest (j + 1) x
    | .blk id => match σ.t.getD t .junk with
      | .own id' _ len sz => if id = id' then .gs (loc j) 0 else tgt σ loc rest (j + 1) x
      | .ptr id' _ => if id = id' then .gs (loc j) 0 else tgt σ loc rest (j + 1) x
      | _ => tgt σ loc rest (j + 1) x
    | _ => tgt σ loc rest (j + 1) x
theorem tgt_no (σ : St) (loc : Nat → Loc) : ∀ (rs : List RV) (j : Nat), tgt σ loc rs j .no = .no
  | [], _ => rfl
  | .cell _ _ _ :: rest, j => tgt_no σ loc rest (j + 1)
  | .tmp t :: rest, j => tgt_no σ loc rest (j + 1)
theorem tgt_cell (σ : St) (loc : Nat → Loc) (id i h : Nat) : ∀ (rs : List RV) (j : Nat), tgt σ loc rs j (.gs (.cell id i) h) = .gs (.cell id i) h
  | [], _ => rfl
  | .cell _ _ _ :: rest, j => tgt_cell σ loc id i h rest (j + 1)
  | .tmp t :: rest, j => tgt_cell σ loc id i h rest (j + 1)
theorem tgt_wr (σ : St) (loc : Nat → Loc) (o : Nat) : ∀ (rs : List RV) (j : Nat) (x : Ow), owr (tgt σ loc rs j x) o → owr x o
  | [], _, x, h => h
  | .cell _ _ _ :: rest, j, x, h => tgt_wr σ loc o rest (j + 1) x h
  | .tmp t :: rest, j, x, h => by
    cases x with
    | no => rw [tgt_no] at h; exact h
    | blk id => simp [owr]
    | gs l hh =>
      cases l with
      | cell id i => rw [tgt_cell] at h; exact h
      | slot t' k =>
        cases k with
        | zero =>
          simp only [tgt] at h
          split at h
          · exact h
          · exact tgt_wr σ loc o rest (j + 1) _ h
        | succ k => exact tgt_wr σ loc o rest (j + 1) _ h
theorem tgt_blk (σ : St) (loc : Nat → Loc) (id : Nat) : ∀ (rs : List RV) (j : Nat), id ∉ oneRef σ rs → tgt σ loc rs j (.blk id) = .blk id
  | [], _, h => rfl
  | .cell _ _ _ :: rest, j, h => tgt_blk σ loc id rest (j + 1) h
  | .tmp t :: rest, j, h => by
    simp only [oneRef, List.mem_append, not_or] at h
    have ih := tgt_blk σ loc id rest (j + 1) h.2
    simp only [tgt]
    split
    · rename_i id' off len sz hv
      rw [hv] at h
      rw [if_neg (by simpa using h.1)]; exact ih
    · rename_i id' off hv
      rw [hv] at h
      rw [if_neg (by simpa using h.1)]; exact ih
    · exact ih
theorem tgt_slot (σ : St) (loc : Nat → Loc) (t h : Nat) : ∀ (rs : List RV) (j i : Nat), resDistinct rs = true → rs[i]? = some (.tmp t) → tgt σ loc rs j (.gs (.slot t 0) h) = .gs (loc (j + i)) h
  | [], _, i, _, hi => by simp at hi
  | .cell _ _ _ :: rest, j, i, hd, hi => by
    cases i with
    | zero => simp at hi
    | succ i =>
      have := tgt_slot σ loc t h rest (j + 1) i hd (by simpa using hi)
      simp only [tgt, this]; congr 2; omega
  | .tmp t' :: rest, j, i, hd, hi => by
    simp only [resDistinct, Bool.and_eq_true, List.all_eq_true] at hd
    cases i with
    | zero => simp at hi; subst hi; simp [tgt]
    | succ i =>
      have hi : rest[i]? = some (.tmp t) := by simpa using hi
      have hne : ¬ t = t' := by
        have := hd.1 _ (List.mem_of_getElem? hi)
        simp at this
        exact fun e => this e.symm
      have := tgt_slot σ loc t h rest (j + 1) i hd.2 hi
      simp only [tgt, if_neg hne, this]; congr 2; omega
theorem oneRef_mem (σ : St) (t id : Nat) (hv : (∃ off len sz, σ.t.getD t .junk = .own id off len sz) ∨ (∃ off, σ.t.getD t .junk = .ptr id off)) : ∀ (rs : List RV) (i : Nat), rs[i]? = some (.tmp t) → id ∈ oneRef σ rs
  | [], i, hi => by simp at hi
  | .cell _ _ _ :: rest, i, hi => by
    cases i with
    | zero => simp at hi
    | succ i => exact oneRef_mem σ t id hv rest i (by simpa using hi)
  | .tmp t' :: rest, i, hi => by
    simp only [oneRef, List.mem_append]
    cases i with
    | zero =>
      simp at hi; subst hi
      rcases hv with ⟨off, len, sz, hv⟩ | ⟨off, hv⟩ <;> (rw [hv]; simp)
    | succ i => exact .inr (oneRef_mem σ t id hv rest i (by simpa using hi))
theorem nodupB_append : ∀ (xs ys : List Nat), nodupB (xs ++ ys) = true → nodupB ys = true ∧ ∀ x ∈ xs, x ∉ ys
  | [], ys, h => ⟨h, by simp⟩
  | x :: xs, ys, h => by
    simp only [List.cons_append, nodupB, Bool.and_eq_true, Bool.not_eq_true', List.contains_eq_mem, decide_eq_false_iff_not, List.mem_append, not_or] at h
    obtain ⟨q1, q2⟩ := nodupB_append xs ys h.2
    refine ⟨q1, fun y hy => ?_⟩
    rcases List.mem_cons.1 hy with rfl | hy
    · exact h.1.2
    · exact q2 y hy
theorem tgt_own (σ : St) (loc : Nat → Loc) (t id : Nat) (n : Nat) (hv : (∃ off len sz, σ.t.getD t .junk = .own id off len sz ∧ n = 0) ∨ (∃ off, σ.t.getD t .junk = .ptr id off ∧ n = 0)) : ∀ (rs : List RV) (j i : Nat), nodupB (oneRef σ rs) = true → rs[i]? = some (.tmp t) → tgt σ loc rs j (.blk id) = .gs (loc (j + i)) n
  | [], _, i, _, hi => by simp at hi
  | .cell _ _ _ :: rest, j, i, hd, hi => by
    cases i with
    | zero => simp at hi
    | succ i =>
      have := tgt_own σ loc t id n hv rest (j + 1) i hd (by simpa using hi)
      simp only [tgt, this]; congr 2; omega
  | .tmp t' :: rest, j, i, hd, hi => by
    simp only [oneRef] at hd
    obtain ⟨hd1, hd2⟩ := nodupB_append _ _ hd
    cases i with
    | zero =>
      simp at hi; subst hi
      rcases hv with ⟨off, len, sz, hv, rfl⟩ | ⟨off, hv, rfl⟩
      · simp only [tgt, hv]; simp
      · simp only [tgt, hv]; simp
    | succ i =>
      have hi : rest[i]? = some (.tmp t) := by simpa using hi
      have hm := oneRef_mem σ t id (by rcases hv with ⟨off, len, sz, hv, _⟩ | ⟨off, hv, _⟩; exact .inl ⟨off, len, sz, hv⟩; exact .inr ⟨off, hv⟩) rest i hi
      have := tgt_own σ loc t id n hv rest (j + 1) i hd1 hi
      have e : loc (j + 1 + i) = loc (j + (i + 1)) := by congr 1; omega
      rw [e] at this
      simp only [tgt]
      split
      · rename_i id' off len sz hv'
        have hne : ¬ id = id' := fun e => hd2 id' (by rw [hv']; simp) (by rw [← e]; exact hm)
        rw [if_neg hne]; exact this
      · rename_i id' off hv'
        have hne : ¬ id = id' := fun e => hd2 id' (by rw [hv']; simp) (by rw [← e]; exact hm)
        rw [if_neg hne]; exact this
      · exact this

theorem run_loadVar {t : TypeId} {b : Bool} {n : Nat} (h1 : aggT P t = some b) (h2 : sizeT P t = some n) {k q : Nat} (us : List Value) (hb1 : b = true → us.length = n) (hb2 : b = false → us.length = 1) (hc : ∀ (j : Nat) (u : Value), us[j]? = some u → w.cell? ⟨k, q + j, none⟩ = some u) :
    (loadVar t ⟨k, q, none⟩).run P w = .ok (if b then .agg us.toArray else us.getD 0 undef) w := by
  have hl := run_loadCells_list (P := P) w ⟨k, q, none⟩ us (fun j u hu => by rw [add_mk]; exact hc j u hu)
  simp only [Sem.run_bind, Sem.run_pure, Result.andThen_ok, loadVar, run_isAgg h1]
  cases b with
  | true =>
    rw [hb1 rfl] at hl
    simp only [if_true, Sem.run_bind, run_sizeOf h2, Result.andThen_ok, hl, Sem.run_pure]
  | false =>
    cases us with
    | nil => simp at hb2
    | cons u us =>
      have := hc 0 u rfl
      simp only [Nat.add_zero] at this
      simp [load, Sem.run, this]
theorem mapM_plain_cells (R : Rel ren we ωe U O σ a w ω μ) {id : Nat} {cs vs : List V} {arr : Array Value} (hc : ∀ (j : Nat) (c : V), cs[j]? = some c → ∃ u, arr[j]? = some u ∧ u.oneCell' = true ∧ Rep ren (env U σ w ω μ) (.cell id j) c u) (h : cs.mapM V.plain = some vs) : vs.length = cs.length ∧ ∀ (j : Nat) (c : V), vs[j]? = some c → ∃ u, arr[j]? = some u ∧ u.oneCell' = true ∧ RepP ren w (wr U ω) c u := by
  refine ⟨mapM_len' h, fun j c hj => ?_⟩
  have hlt : j < cs.length := by rw [← mapM_len' h]; exact (List.getElem?_eq_some_iff.1 hj).1
  obtain ⟨v', g1, g2⟩ := mapM_at' h j _ (List.getElem?_eq_getElem hlt)
  rw [hj] at g1; cases g1
  obtain ⟨u, q1, q2, q3⟩ := hc j _ (List.getElem?_eq_getElem hlt)
  exact ⟨u, q1, q2, q3.plain R.hU g2⟩
/-- the cells of a block of local memory, as they go out -/
theorem Rel.blockP (R : Rel ren we ωe U O σ a w ω μ) {id : Nat} {p : Bool} {cs vs : List V} (hb : σ.b[id]? = some (.live p cs)) (h : (if p then some cs else cs.mapM V.plain) = some vs) :
    ω (μ id) = .blk id ∧ vs.length = cs.length ∧ ∃ arr T, w.heap[μ id]? = some (.cells arr T (0, 0)) ∧ cs.length ≤ arr.size ∧ ∀ (j : Nat) (c : V), vs[j]? = some c → ∃ u, arr[j]? = some u ∧ u.oneCell' = true ∧ RepP ren w (wr U ω) c u := by
  obtain ⟨e1, arr, T, e2, e3, e4⟩ := R.bs id p cs hb
  cases p with
  | true =>
    cases h
    exact ⟨e1, rfl, arr, T, e2, e3, fun j c hj => by obtain ⟨u, g1, g2, g3, g4⟩ := e4 j c hj; exact ⟨u, g1, g2, g3 rfl⟩⟩
  | false =>
    obtain ⟨q1, q2⟩ := mapM_plain_cells R (id := id) (fun j c hj => by obtain ⟨u, g1, g2, g3, g4⟩ := e4 j c hj; exact ⟨u, g1, g2, g4⟩) h
    exact ⟨e1, q1, arr, T, e2, e3, q2⟩
theorem resOne_ok (R : Rel ren we ωe U O σ a w ω μ) {x : ResultVar} {rv : RV} (hx : cRes P [x] = some [rv]) {v : V} (hv : resOne nb σ rv = some v) {ω' : Nat → Ow} {l : Loc} (hwr : ∀ k o, wr U ω' k o → wr U ω k o)
    (hslot : ∀ t, rv = .tmp t → ∀ β h, ω β = .gs (.slot t 0) h → ω' β = .gs l h) (hown : ∀ t id n, rv = .tmp t → ((∃ off len sz, σ.t.getD t .junk = .own id off len sz ∧ n = 0) ∨ (∃ off, σ.t.getD t .junk = .ptr id off ∧ n = 0)) → ∀ β, ω β = .blk id → ω' β = .gs l n) (σ2 : St) :
    ∃ u, (resSem a.tmps x).run P w = .ok u w ∧ Rep ren (env U σ2 w ω' μ) l v u := by
  have mono : ∀ {v : V} {u : Value}, RepP ren w (wr U ω) v u → RepP ren w (wr U ω') v u := fun h => h.mono (fun k o u h1 h2 => ⟨fun hh => h1 (hwr k o hh), h2⟩)
  cases x with
  | tmp t =>
    cases hx
    refine ⟨a.tmps.getD t undef, rfl, ?_⟩
    have hr := R.slot t
    simp only [resOne] at hv
    split at hv
    · rename_i id off len sz hs
      rw [hs] at hr
      split at hv
      · rename_i h0
        split at hv
        · rename_i cs hb
          split at hv
          · obtain ⟨c, L, A, e1, e2, e3, e4, e5⟩ := hr.own_inv
            rw [e1]
            obtain ⟨q1, _, arr, T, q2, q3, q4⟩ := R.blockP (vs := cs) hb (by simp)
            have hL : L = cs.length := by
              have e2 : blen σ.b id = some L := e2
              simp only [blen, hb] at e2
              cases e2; rfl
            rcases e5 with ⟨e5, e6⟩ | ⟨e5, e6⟩
            · rw [e5]
              subst h0
              have hfl : ∀ (i : Nat) (v : V), (chunks sz len cs).flatten[i]? = some v → cs[i]? = some v := fun i v hv => by
                rw [chunks_flatten, List.getElem?_take] at hv
                split at hv
                · exact hv
                · cases hv
              have e6 : 0 + c * sz ≤ rsize w (μ id) := e6
              rw [rsize_of q2] at e6
              have key : Rep ren (env U σ2 w ω' μ) l (.fr sz (chunks sz len cs)) (.slice (some ⟨μ id, 0, none⟩) (chunks sz len cs).length c) := by
                refine .fr sz (chunks sz len cs) (μ id) c arr T (fun i => arr.toList.getD i undef) (hown t id _ rfl (.inl ⟨0, len, sz, hs, rfl⟩) _ q1) q2 (by omega) (by rw [chunks_length]; exact e4) (chunks_each _ _ _ (by omega)) (fun i v hv => ?_) (fun i v hv => ?_) (fun i v hv => ?_) <;>
                  (obtain ⟨u, g1, g2, g3⟩ := q4 i v (hfl i v hv)
                   have g1' : arr.toList[i]? = some u := by simpa using g1
                   have e : arr.toList.getD i undef = u := by rw [List.getD_eq_getElem?_getD, g1']; rfl
                   simp only [e])
                · exact g1
                · exact g2
                · exact mono g3
              rw [chunks_length] at key
              cases hv
              exact key
            · subst e5; subst e6
              cases hv
              exact .fr0 _ _
          · cases hv
        · cases hv
      · cases hv
    · rename_i id off hs
      rw [hs] at hr
      split at hv
      · rename_i h0
        split at hv
        · rename_i p cs hb
          obtain ⟨vs, hvs, rfl⟩ : ∃ vs, (if p then some cs else cs.mapM V.plain) = some vs ∧ v = .bx p vs := by
            cases p with
            | true => simp at hv; exact ⟨cs, rfl, hv.symm⟩
            | false =>
              simp only [Bool.false_eq_true, if_false, Option.map_eq_some_iff] at hv
              obtain ⟨vs, h1, h2⟩ := hv
              exact ⟨vs, by simpa using h1, h2.symm⟩
          obtain ⟨L, e1, e2⟩ := hr.ptr_inv
          rw [e2]
          obtain ⟨q1, q0, arr, T, q2, q3, q4⟩ := R.blockP hb hvs
          rw [h0.1]
          refine .bx p vs (μ id) arr T (fun i => arr.toList.getD i undef) (hown t id 0 rfl (.inr ⟨off, hs, rfl⟩) _ q1) q2 (by omega) (fun i v hv => ?_) (fun i v hv => ?_) (fun i v hv => ?_) <;>
            (obtain ⟨u, g1, g2, g3⟩ := q4 i v hv
             have g1' : arr.toList[i]? = some u := by simpa using g1
             have e : arr.toList.getD i undef = u := by rw [List.getD_eq_getElem?_getD, g1']; rfl
             simp only [e])
          · exact g1
          · exact g2
          · exact mono g3
        · cases hv
      · cases hv
    · rename_i hs; cases hv; rw [hs] at hr
      cases hr with
      | pure h => exact .pure (mono h)
    · rename_i hs; cases hv; rw [hs] at hr
      cases hr with
      | pure h => exact .pure (mono h)
    · rename_i hs; cases hv; rw [hs] at hr
      cases hr with
      | pure h => exact .pure (mono h)
    · rename_i hs; cases hv; rw [hs] at hr
      generalize a.tmps.getD t undef = u at hr ⊢
      cases hr with
      | pure h => exact .pure (mono h)
      | gs _ _ β c arr T f hω hb hc hn hsz hcell h1 h => exact .gs _ _ β c arr T f (hslot t rfl β _ hω) hb hc hn hsz hcell h1 (fun i v hv => mono (h i v hv))
    · cases hv
  | cell t ty =>
    simp only [cRes, Option.bind_eq_bind, Option.bind_eq_some_iff, Option.some.injEq] at hx
    obtain ⟨agg, ha, n, hn, _, rfl, hx⟩ := hx
    cases hx
    have hr := R.slot t
    simp only [resOne] at hv
    split at hv
    · rename_i id off hs
      rw [hs] at hr
      obtain ⟨L, e1, e2⟩ := hr.ptr_inv
      split at hv
      · rename_i p cs hb
        cases agg with
        | true =>
          simp only [if_true] at hv
          split at hv
          · rename_i h0
            obtain ⟨vs, hvs, rfl⟩ : ∃ vs, (if p then some cs else cs.mapM V.plain) = some vs ∧ v = .agg vs := by
              cases p with
              | true => simp at hv; exact ⟨cs, rfl, hv.symm⟩
              | false =>
                simp only [Bool.false_eq_true, if_false, Option.map_eq_some_iff] at hv
                obtain ⟨vs, h1, h2⟩ := hv
                exact ⟨vs, by simpa using h1, h2.symm⟩
            obtain ⟨q1, q0, arr, T, q2, q3, q4⟩ := R.blockP hb hvs
            refine ⟨.agg (arr.toList.take n).toArray, ?_, ?_⟩
            · simp only [resSem, e2, Sem.run_bind]
              have := run_loadVar (P := P) (w := w) (k := μ id) (q := off) ha hn (arr.toList.take n) (fun _ => by simp; omega) (by simp) (fun j u hu => by
                rw [h0.1, Nat.zero_add, cell_of_row _ _ _ _ _ _ q2]
                rw [List.getElem?_take] at hu
                split at hu
                · simpa using hu
                · cases hu)
              simpa [asAddr, env] using this
            · refine .pure (mono (CellsP.agg ⟨by simp; omega, fun j c hj => ?_⟩))
              obtain ⟨u, g1, g2, g3⟩ := q4 j c hj
              have hjn : j < n := by have := (List.getElem?_eq_some_iff.1 hj).1; omega
              exact ⟨u, by rw [List.getElem?_take, if_pos hjn]; simpa using g1, g2, g3⟩
          · cases hv
        | false =>
          simp only [Bool.false_eq_true, if_false] at hv
          split at hv
          · rename_i h0
            rw [Option.bind_eq_some_iff] at hv
            obtain ⟨c, hc, hp⟩ := hv
            obtain ⟨q1, arr, T, q2, q3, q4⟩ := R.bs id p cs hb
            obtain ⟨u, g1, g2, g3, g4⟩ := q4 0 c hc
            refine ⟨u, ?_, .pure (mono (g4.plain R.hU hp))⟩
            simp only [resSem, e2, Sem.run_bind]
            have := run_loadVar (P := P) (w := w) (k := μ id) (q := off) ha hn [u] (by simp) (by simp) (fun j u' hu => by
              cases j with
              | zero => simp at hu; subst hu; rw [h0.2, cell_of_row _ _ _ _ _ _ q2]; exact g1
              | succ j => simp at hu)
            simpa [asAddr, env] using this
          · cases hv
      · cases hv
    · cases hv
end Go.Proofs.Ytoeobffjdbdpgaa
