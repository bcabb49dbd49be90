/- Two operations that do not meet may change places (2). -/
import Derived.Test.YthplooifbkopgaaE25
namespace Go.Proofs.Ythplooifbkopgaa
set_option linter.unusedVariables false
set_option linter.unusedSimpArgs false
variable {cb : CB} {nb : Nat} {σ σ' σ1 : St}

def Wo (o : COp) : List Nat := Wk o.k o.dst
theorem guardOk_congr {g : Option (Nat × Bool)} (h : ∀ j w, g = some (j, w) → σ'.t[j]? = σ.t[j]?) : guardOk σ' g = guardOk σ g := by
  cases g with
  | none => rfl
  | some jw => obtain ⟨j, w⟩ := jw; simp only [guardOk, h j w rfl]
theorem readsOp_guard {o : COp} {j : Nat} {w : Bool} (h : o.guard = some (j, w)) : j ∈ readsOp o := by simp [readsOp, h]
theorem readsOp_k {o : COp} {j : Nat} (h : j ∈ readsK o.k) : j ∈ readsOp o := by simp [readsOp, h]
theorem stepOp_over (o : COp) (hl : σ'.t.length = σ.t.length) (hb : σ'.b = σ.b) (hr : ∀ t ∈ readsOp o, σ'.t[t]? = σ.t[t]?) (h : stepOp cb nb σ o = some σ1) :
    ∃ σ1', stepOp cb nb σ' o = some σ1' ∧ Over (Wo o) σ σ1 σ' σ1' := by
  unfold stepOp at h ⊢
  rw [guardOk_congr (fun j w hg => hr j (readsOp_guard hg))]
  split at h
  · exact stepK_over o.k hl hb (fun t ht => hr t (readsOp_k ht)) h
  · cases h
    exact ⟨_, rfl, over_put _ hl hb mem_dst (fun i hi hd => hr i (readsOp_k (takes_reads (Wk_takes hi hd))))⟩
  · cases h
def pv (σ : St) (pin : Bool) : K → Option V
  | .move x _ => if pin then none else some (x.get σ).dem
  | k => pureK σ k
theorem stepK_pure {k : K} (hp : slotpure k = true) (σ : St) (d : Option Nat) (pin : Bool) : stepK cb nb σ d pin k = (pv σ pin k).map (fun v => σ.put d v) := by
  cases k <;> simp [slotpure] at hp <;> first | rfl | (subst hp; cases pin <;> rfl)
theorem pv_congr {k : K} (hp : slotpure k = true) (pin : Bool) (hr : ∀ t ∈ readsK k, σ'.t[t]? = σ.t[t]?) : pv σ' pin k = pv σ pin k := by
  cases k with
  | move x take => simp only [pv, get_congr (s := x) hr]
  | _ => exact pureK_congr _ hr (.inr hp)
theorem stepOp_pure (o : COp) (hp : slotpure o.k = true) (hr : ∀ t ∈ readsOp o, σ'.t[t]? = σ.t[t]?) (h : stepOp cb nb σ o = some σ1) : ∃ v, σ1 = σ.put o.dst v ∧ stepOp cb nb σ' o = some (σ'.put o.dst v) := by
  unfold stepOp at h ⊢
  rw [guardOk_congr (fun j w hg => hr j (readsOp_guard hg))]
  split at h
  · rw [stepK_pure hp] at h ⊢
    rw [pv_congr hp _ (fun t ht => hr t (readsOp_k ht))]
    rw [Option.map_eq_some_iff] at h
    obtain ⟨v, h1, rfl⟩ := h
    exact ⟨v, rfl, by rw [h1]; rfl⟩
  · cases h; exact ⟨_, rfl, rfl⟩
  · cases h
theorem slotpure_takes {k : K} (h : slotpure k = true) : takesK k = [] := by
  cases k <;> simp [slotpure] at h <;> first | rfl | (subst h; rfl)
/-! ### quiet operations -/
theorem putR_quiet {σ σ1 : St} {d : Option Nat} {v : V} (h : σ.putR nb d false v = some σ1) (hv : ∀ p cs, v ≠ .bx p cs) : σ1.b = σ.b := by
  cases v with
  | bx p cs => exact absurd rfl (hv p cs)
  | fr sz es => simp only [St.putR, St.putG, Bool.false_and, Bool.false_eq_true, if_false] at h; cases h; exact put_b _ _ _
  | gs sz es => simp only [St.putR] at h; cases h; exact put_b _ _ _
  | _ => simp only [St.putR] at h; cases h; exact put_b _ _ _
theorem frozenBy_none {σ : St} : ∀ (ss : List (Src × Nat)) (b : List B), (∀ s ∈ ss, ∀ id, ownId (s.1.get σ) = some id → freeze b id = b) → frozenBy σ ss b = b
  | [], b, h => rfl
  | s :: ss, b, h => by
    have ih := frozenBy_none ss b (fun s' hs' => h s' (by simp [hs']))
    unfold frozenBy
    split
    · exact ih
    · cases ho : ownId (s.1.get σ) with
      | none => exact ih
      | some id => simp only [h s (by simp) id ho]; exact ih
theorem freeze_fz {b : List B} {id : Nat} (h : isFz b[id]? = true) : freeze b id = b := by
  unfold freeze
  cases hb : b[id]? with
  | none => rfl
  | some x =>
    cases x with
    | fz cs => rfl
    | gone => rfl
    | live p cs => rw [hb] at h; simp [isFz] at h
    | mp es => rfl
    | dead n => rfl
theorem closure_nil (b : List B) (n : Nat) (acc : List Nat) : closure b n [] acc = acc := by cases n <;> rfl
theorem argOf_noRef {σ : St} {s : Src × Nat} (hm : s.2 < 2) (h : noRefArg σ.b (s.1.get σ) = true) {v : V} (hv : argOf σ s = some v) : refsOf v = [] := by
  have hl : lendOf s.2 (s.1.get σ) = none := by unfold lendOf; rw [if_neg (by omega)]
  simp only [argOf, hl] at hv
  cases hx : s.1.get σ with
  | own id off len sz =>
    rw [hx] at hv
    simp only [view] at hv
    cases hc : ((σ.b[id]?).getD .gone).cs? with
    | none => rw [hc] at hv; cases hv
    | some cs => rw [hc] at hv; cases hv; rfl
  | ptr id off => rw [hx] at h; simp [noRefArg] at h
  | st cs => rw [hx] at h; simp [noRefArg] at h
  | mp id => rw [hx] at h; simp [noRefArg] at h
  | fn f caps =>
    rw [hx] at h hv
    simp only [noRefArg, List.isEmpty_iff] at h
    subst h
    simp [view] at hv
    subst hv; rfl
  | _ =>
    rw [hx] at hv
    simp only [view] at hv
    first
      | (cases hv; rfl)
      | (simp [V.plain] at hv; subst hv; rfl)
      | (simp [V.plain] at hv)
theorem quiet_b {o : COp} (h : stepOp cb nb σ o = some σ1) (hq : quietNow σ o σ1 = true) : σ1.b = σ.b := by
  unfold stepOp at h
  unfold quietNow at hq
  cases hg : guardOk σ o.guard with
  | none => rw [hg] at h; cases h
  | some g =>
    rw [hg] at h hq
    cases g with
    | false => simp only at h; cases h; exact put_b _ _ _
    | true =>
      simp only at h hq
      have sp : slotpure o.k = true → σ1.b = σ.b := by
        intro hp
        rw [stepK_pure hp, Option.map_eq_some_iff] at h
        obtain ⟨v, _, rfl⟩ := h
        exact put_b _ _ _
      cases hk : o.k with
      | load agg n x take =>
        rw [hk] at h hq
        simp only [Bool.not_eq_true'] at hq
        subst hq
        simp only [stepK] at h
        repeat' (split at h)
        all_goals first
          | (cases h; done)
          | (cases h; exact put_b _ _ _)
          | (simp only [Option.bind_eq_bind, Option.bind_eq_some_iff, Option.some.injEq] at h; obtain ⟨_, _, rfl⟩ := h; exact put_b _ _ _)
          | (exact absurd ‹false = true› (by simp))
      | toStr x =>
        rw [hk] at h
        simp only [stepK, Option.map_eq_some_iff] at h
        obtain ⟨v, _, rfl⟩ := h
        exact put_b _ _ _
      | cmpB x y =>
        rw [hk] at h
        simp only [stepK, Option.map_eq_some_iff] at h
        obtain ⟨v, _, rfl⟩ := h
        exact put_b _ _ _
      | sliceA n sz x l hh m =>
        rw [hk] at h
        simp only [stepK, Option.map_eq_some_iff] at h
        obtain ⟨v, _, rfl⟩ := h
        exact put_b _ _ _
      | move x take =>
        rw [hk] at h
        simp only [stepK] at h
        repeat' (split at h)
        · cases h
        · cases h; rw [put_b, demote_b]
        · cases h; exact put_b _ _ _
      | append sz bytes s x =>
        rw [hk] at h hq
        simp only [Bool.and_eq_true, Bool.not_eq_true'] at hq
        obtain ⟨hq, hown⟩ := hq
        simp only [stepK, hq, Bool.false_and, Bool.false_eq_true, if_false, St.putG] at h
        split at h
        · split at h
          · cases h; rw [put_b, demote_b]
          · cases h
        · split at h
          · cases h; rw [put_b, demote_b]
          · cases h
        · rename_i hs _
          rw [hs] at hown
          simp [ownId] at hown
        · cases h
      | buildSlice sz n z ps =>
        rw [hk] at h hq
        simp only [Bool.not_eq_true'] at hq
        simp only [stepK, hq, Option.bind_eq_bind, Option.bind_eq_some_iff, St.putG, Bool.false_eq_true, if_false, Option.some.injEq] at h
        obtain ⟨_, _, rfl⟩ := h
        exact put_b _ _ _
      | makeSlice sz bytes z l c =>
        rw [hk] at h hq
        simp only [Bool.not_eq_true'] at hq
        simp only [stepK, hq, St.putG, Bool.false_eq_true, if_false] at h
        repeat' (split at h)
        all_goals first
          | (cases h; done)
          | (cases h; exact put_b _ _ _)
      | call f xs ys =>
        rw [hk] at h hq
        simp only [Bool.and_eq_true, Bool.not_eq_true', List.all_eq_true, decide_eq_true_eq, List.isEmpty_iff] at hq
        obtain ⟨⟨⟨hpin, hys⟩, hargs⟩, hd⟩ := hq
        subst hys
        simp only [stepK, Option.bind_eq_bind, Option.bind_eq_some_iff] at h
        obtain ⟨vs, h1, h2⟩ := h
        unfold doCall at h2
        have hfz : frozenBy σ xs σ.b = σ.b := frozenBy_none xs _ (fun s hs id hid => by
          have := (hargs s hs).2
          cases hx : s.1.get σ <;> rw [hx] at this hid <;> simp only [ownId] at hid <;> cases hid
          exact freeze_fz this)
        have hids : lentIds σ.b vs = [] := by
          unfold lentIds
          have : vs.flatMap refsOf = [] := by
            rw [List.flatMap_eq_nil_iff]
            intro v hv
            obtain ⟨i, hi⟩ := List.getElem?_of_mem hv
            have hlt : i < xs.length := by rw [← mapM_len2 h1]; exact (List.getElem?_eq_some_iff.1 hi).1
            obtain ⟨v', g1, g2⟩ := mapM_at2 h1 i _ (List.getElem?_eq_getElem hlt)
            rw [hi] at g1; cases g1
            exact argOf_noRef (hargs _ (List.getElem_mem hlt)).1 (hargs _ (List.getElem_mem hlt)).2 g2
          rw [this, closure_nil]
        simp only [hfz, hids, lendAll, Option.bind_eq_bind, Option.bind_some] at h2
        simp only [Option.bind_eq_some_iff] at h2
        obtain ⟨⟨r, bor'⟩, _, h3⟩ := h2
        simp only at h3
        split at h3
        · have e : giveBack (fun k => (([] : List Nat) ++ (List.map (nb + ·) []).take (bor'.length - ([] : List Nat).length)).getD k 0) (([] : List Nat) ++ (List.map (nb + ·) []).take (bor'.length - ([] : List Nat).length)) bor' σ.b = σ.b := by simp [giveBack]
          rw [e, hpin] at h3
          generalize renR _ r = r' at h3
          cases hdd : o.dst with
          | none => rw [hdd] at hd; cases hd
          | some d =>
            rw [hdd] at hd h3
            have := putR_quiet h3 (fun p cs hbx => by
              subst hbx
              simp only [St.putR, St.newB] at h3
              split at h3
              · cases h3
                simp only [St.put, St.setB] at hd
                split at hd
                · rename_i v hv
                  rw [List.getElem?_set] at hv
                  simp only [if_true] at hv
                  split at hv
                  · cases hv; simp [isPtr] at hd
                  · cases hv
                · cases hd
              · cases h3)
            exact this
        · cases h3
      | extract x i =>
        rw [hk] at h hq
        simp only [Bool.and_eq_true, Bool.not_eq_true'] at hq
        obtain ⟨hpin, hq⟩ := hq
        simp only [stepK, hpin] at h
        split at h
        · rename_i vs hvs
          rw [hvs] at hq
          simp only at hq
          split at h
          · rename_i _ v t hvi
            rw [hvi] at hq
            split at h
            · split at h
              · have := putR_quiet h (fun p cs hbx => by subst hbx; simp at hq)
                exact this
              · simp only [Bool.false_eq_true, if_false] at h
                cases h; exact put_b _ _ _
            · cases h
          · cases h
        · cases h
      | mlook kd ok z x y =>
        rw [hk] at h hq
        simp only [stepK] at h
        split at h
        · split at h
          · split at h
            · simp only [Option.bind_eq_bind, Option.bind_eq_some_iff, Option.pure_def, Option.some.injEq] at h
              obtain ⟨r, _, rfl⟩ := h
              exact put_b _ _ _
            · cases h
          · cases h
        · cases h
      | lenM x =>
        rw [hk] at h hq
        simp only [stepK] at h
        split at h
        · split at h
          · cases h; exact put_b _ _ _
          · cases h
        · cases h
      | _ =>
        rw [hk] at hq
        exact sp (by rw [hk]; exact hq)

theorem quiet_congr {o : COp} {σ1 σ1' : St} (hb : σ'.b = σ.b ∨ slotpure o.k = true) (hr : ∀ t ∈ readsOp o, σ'.t[t]? = σ.t[t]?) (hd : ∀ d, o.dst = some d → σ1'.t[d]? = σ1.t[d]?) : quietNow σ' o σ1' = quietNow σ o σ1 := by
  unfold quietNow
  rw [guardOk_congr (fun j w hg => hr j (readsOp_guard hg))]
  have hrk : ∀ t ∈ readsK o.k, σ'.t[t]? = σ.t[t]? := fun t ht => hr t (readsOp_k ht)
  cases hk : o.k with
  | call f xs ys =>
    rw [hk] at hrk hb
    have hb : σ'.b = σ.b := hb.resolve_right (by simp [slotpure])
    rw [hb]
    have e : (xs.all fun s => decide (s.2 < 2) && noRefArg σ.b (s.1.get σ')) = (xs.all fun s => decide (s.2 < 2) && noRefArg σ.b (s.1.get σ)) := by
      have hc : ∀ s ∈ xs, s.1.get σ' = s.1.get σ := fun s hs => get_congr (fun t ht => hrk t (List.mem_flatMap.2 ⟨s, hs, ht⟩))
      rw [Bool.eq_iff_iff, List.all_eq_true, List.all_eq_true]
      constructor
      · intro hh c hcc; rw [← hc c hcc]; exact hh c hcc
      · intro hh c hcc; rw [hc c hcc]; exact hh c hcc
    simp only [e]
    cases hds : o.dst with
    | none => rfl
    | some d => simp only [hd d hds]
  | extract x i =>
    rw [hk] at hrk
    simp only [get_congr (s := x) hrk]
  | append sz bytes s x =>
    rw [hk] at hrk
    simp only [readsK] at hrk
    simp only [get_congr (s := s) (fun t ht => hrk t (by simp [ht]))]
  | _ => rfl
theorem apart_spec {a b : List Nat} (h : apart a b = true) : ∀ x ∈ a, x ∉ b := by
  intro x hx hb
  have := List.all_eq_true.1 h x hx
  simp [hb] at this
/-- what is known of two operations that have changed places -/
structure Side (A B : COp) (sa sb : Bool) (σ σ1 σ2 σ1' : St) : Prop where
  fA : ∀ k, k ∉ Wo A → σ1.t[k]? = σ.t[k]?
  fB : ∀ k, k ∉ Wo B → σ1'.t[k]? = σ.t[k]?
  dB : ∀ d, B.dst = some d → σ1'.t[d]? = σ2.t[d]?
  dA : ∀ d, A.dst = some d → σ2.t[d]? = σ1.t[d]?
  bB : σ.b = σ1.b ∨ slotpure B.k = true ∨ isLoad B.k = true ∨ sb = true
  bA : σ1'.b = σ.b ∨ slotpure A.k = true ∨ isLoad A.k = true ∨ sa = true
theorem swap {A B : COp} {σ σ1 σ2 : St} (ha : stepOp cb nb σ A = some σ1) (hb : stepOp cb nb σ1 B = some σ2) (hs : slotsApart A B = true) (hq : slotpure A.k = true ∨ slotpure B.k = true ∨ (quietNow σ A σ1 = true ∧ quietNow σ1 B σ2 = true)) :
    ∃ σ1', stepOp cb nb σ B = some σ1' ∧ stepOp cb nb σ1' A = some σ2 ∧ ∀ sa sb, Side A B sa sb σ σ1 σ2 σ1' := by
  simp only [slotsApart, Bool.and_eq_true] at hs
  have s1 := apart_spec hs.1
  have s2 := apart_spec hs.2
  have wa : ∀ k ∈ Wo A, k ∉ readsOp B ∧ k ∉ Wo B := fun k hk => by
    have := s1 k hk
    simp only [List.mem_append, not_or] at this
    exact ⟨this.1.1, fun hh => by simp only [Wo, Wk, List.mem_append] at hh; exact hh.elim this.1.2 this.2⟩
  have wb : ∀ k ∈ Wo B, k ∉ readsOp A ∧ k ∉ Wo A := fun k hk => by
    have := s2 k hk
    simp only [List.mem_append, not_or] at this
    exact ⟨this.1.1, fun hh => by simp only [Wo, Wk, List.mem_append] at hh; exact hh.elim this.1.2 this.2⟩
  -- A writes its own slots alone
  obtain ⟨_, _, oa⟩ := stepOp_over A rfl rfl (fun _ _ => rfl) ha
  obtain ⟨_, _, ob⟩ := stepOp_over B rfl rfl (fun _ _ => rfl) hb
  have rB : ∀ t ∈ readsOp B, σ.t[t]? = σ1.t[t]? := fun t ht => (oa.fr t (fun hh => (wa t hh).1 ht)).symm
  have key : ∃ σ1', stepOp cb nb σ B = some σ1' ∧ (∀ k ∈ Wo B, σ1'.t[k]? = σ2.t[k]?) ∧ (∀ k, k ∉ Wo B → σ1'.t[k]? = σ.t[k]?) ∧ σ1'.t.length = σ.t.length ∧
      ∃ σ2', stepOp cb nb σ1' A = some σ2' ∧ (∀ k ∈ Wo A, σ2'.t[k]? = σ1.t[k]?) ∧ (∀ k, k ∉ Wo A → σ2'.t[k]? = σ1'.t[k]?) ∧ σ2'.b = σ2.b ∧ (σ.b = σ1.b ∨ slotpure B.k = true) ∧ (σ1'.b = σ.b ∨ slotpure A.k = true) := by
    have viaB : ∀ σ1', stepOp cb nb σ B = some σ1' → (∀ k, k ∉ Wo B → σ1'.t[k]? = σ.t[k]?) → ∀ t ∈ readsOp A, σ1'.t[t]? = σ.t[t]? := fun σ1' _ h t ht => h t (fun hh => (wb t hh).1 ht)
    by_cases hbp : slotpure B.k = true
    · obtain ⟨v, e1, e2⟩ := stepOp_pure B hbp rB hb
      have hWB : ∀ k, B.dst = some k → k ∈ Wo B := fun k hk => mem_dst k hk
      have hl : (σ.put B.dst v).t.length = σ.t.length := put_len _ _ _
      have off : ∀ k, k ∉ Wo B → (σ.put B.dst v).t[k]? = σ.t[k]? := fun k hk => by rw [put_get, if_neg (fun h => hk (hWB k h.1))]
      refine ⟨_, e2, fun k hk => ?_, off, hl, ?_⟩
      · have hkd : B.dst = some k := by
          simp only [Wo, Wk, slotpure_takes hbp, List.nil_append] at hk
          cases hd : B.dst with
          | none => rw [hd] at hk; simp at hk
          | some d => rw [hd] at hk; simp at hk; rw [hk]
        rw [e1, put_get, put_get, oa.len]
        by_cases hlt : k < σ.t.length
        · rw [if_pos ⟨hkd, hlt⟩, if_pos ⟨hkd, hlt⟩]
        · rw [if_neg (fun h => hlt h.2), if_neg (fun h => hlt h.2), List.getElem?_eq_none (by omega), List.getElem?_eq_none (by rw [oa.len]; omega)]
      · obtain ⟨σ2', f1, f2⟩ := stepOp_over A (σ' := σ.put B.dst v) hl (put_b _ _ _) (viaB _ e2 off) ha
        exact ⟨σ2', f1, f2.on, f2.off, by rw [f2.b, e1, put_b], .inr hbp, .inl (put_b _ _ _)⟩
    · by_cases hap : slotpure A.k = true
      · obtain ⟨v, e1, _⟩ := stepOp_pure A hap (fun _ _ => rfl) ha
        have hb1 : σ.b = σ1.b := by rw [e1, put_b]
        obtain ⟨σ1', f1, f2⟩ := stepOp_over B (σ' := σ) oa.len.symm hb1 rB hb
        have hl : σ1'.t.length = σ.t.length := f2.len'
        refine ⟨σ1', f1, f2.on, f2.off, hl, ?_⟩
        obtain ⟨v', e3, e4⟩ := stepOp_pure A (σ' := σ1') hap (viaB _ f1 f2.off) ha
        refine ⟨_, e4, fun k hk => ?_, fun k hk => ?_, by rw [put_b, f2.b], .inl hb1, .inr hap⟩
        · have hkd : A.dst = some k := by
            simp only [Wo, Wk, slotpure_takes hap, List.nil_append] at hk
            cases hd : A.dst with
            | none => rw [hd] at hk; simp at hk
            | some d => rw [hd] at hk; simp at hk; rw [hk]
          rw [e3, put_get, put_get, hl]
          by_cases hlt : k < σ.t.length
          · rw [if_pos ⟨hkd, hlt⟩, if_pos ⟨hkd, hlt⟩]
          · rw [if_neg (fun h => hlt h.2), if_neg (fun h => hlt h.2), List.getElem?_eq_none (by omega), List.getElem?_eq_none (by omega)]
        · rw [put_get, if_neg (fun h => hk (mem_dst k h.1))]
      · have hq : quietNow σ A σ1 = true ∧ quietNow σ1 B σ2 = true := by
          rcases hq with h | h | h
          · exact absurd h hap
          · exact absurd h hbp
          · exact h
        have hb1 := quiet_b ha hq.1
        have hb2 := quiet_b hb hq.2
        obtain ⟨σ1', f1, f2⟩ := stepOp_over B (σ' := σ) oa.len.symm hb1.symm rB hb
        refine ⟨σ1', f1, f2.on, f2.off, f2.len', ?_⟩
        obtain ⟨σ2', g1, g2⟩ := stepOp_over A (σ' := σ1') f2.len' (by rw [f2.b, hb2, hb1]) (viaB _ f1 f2.off) ha
        exact ⟨σ2', g1, g2.on, g2.off, by rw [g2.b, hb2], .inl hb1.symm, .inl (by rw [f2.b, hb2, hb1])⟩
  obtain ⟨σ1', k1, k2, k3, k4, σ2', k5, k6, k7, k8, k9, k10⟩ := key
  have e : σ2' = σ2 := by
    have et : σ2'.t = σ2.t := by
      apply List.ext_getElem?
      intro k
      by_cases hA : k ∈ Wo A
      · rw [k6 k hA, ob.fr k (wa k hA).2]
      · rw [k7 k hA]
        by_cases hB : k ∈ Wo B
        · rw [k2 k hB]
        · rw [k3 k hB, ob.fr k hB, oa.fr k hA]
    cases σ2'; cases σ2; simp only at et k8; rw [et, k8]
  subst e
  exact ⟨σ1', k1, k5, fun sa sb => ⟨oa.fr, k3, fun d hd => k2 d (mem_dst d hd), fun d hd => k6 d (mem_dst d hd), k9.imp_right .inl, k10.imp_right .inl⟩⟩
theorem quiet_congr' {o : COp} {σ1 σ1' : St} (hb : σ'.b = σ.b ∨ slotpure o.k = true ∨ isLoad o.k = true) (hr : ∀ t ∈ readsOp o, σ'.t[t]? = σ.t[t]?) (hd : ∀ d, o.dst = some d → σ1'.t[d]? = σ1.t[d]?) : quietNow σ' o σ1' = quietNow σ o σ1 := by
  rcases hb with h | h | h
  · exact quiet_congr (.inl h) hr hd
  · exact quiet_congr (.inr h) hr hd
  · unfold quietNow
    rw [guardOk_congr (fun j w hg => hr j (readsOp_guard hg))]
    cases hk : o.k <;> rw [hk] at h <;> simp [isLoad] at h <;> rfl
theorem avoids_congr {o : COp} {id : Nat} (hb : σ'.b = σ.b ∨ slotpure o.k = true ∨ isLoad o.k = true) (hr : ∀ t ∈ readsOp o, σ'.t[t]? = σ.t[t]?) : avoids nb σ' o id = avoids nb σ o id := by
  unfold avoids
  rcases hb with hb | h | h
  rotate_left
  · simp [h]
  · simp [h]
  congr 1
  rw [guardOk_congr (fun j w hg => hr j (readsOp_guard hg))]
  cases hk : o.k with
  | call f xs ys =>
    have hrk : ∀ t ∈ readsK o.k, σ'.t[t]? = σ.t[t]? := fun t ht => hr t (readsOp_k ht)
    rw [hk] at hrk
    simp only [readsK] at hrk
    have e1 : xs.mapM (argOf σ') = xs.mapM (argOf σ) := mapM_congr' xs (fun s hs => argOf_congr hb (fun t ht => hrk t (List.mem_flatMap.2 ⟨s, hs, ht⟩)))
    have e2 : ∀ vs, callIds nb σ' o.dst vs xs ys = callIds nb σ o.dst vs xs ys := by
      intro vs
      unfold callIds
      rw [frozenBy_congr xs _ hrk, hb]
      congr 3
      have hcc : ∀ s ∈ xs, ownId (s.1.get σ') = ownId (s.1.get σ) := fun s hs => by rw [get_congr (fun t ht => hrk t (List.mem_flatMap.2 ⟨s, hs, ht⟩))]
      clear hrk e1 hk
      induction xs with
      | nil => rfl
      | cons s xs ih =>
        simp only [List.filterMap_cons, hcc s (by simp)]
        rw [ih (fun s hs => hcc s (by simp [hs]))]
    simp only [e1, e2]
  | _ => rfl
theorem avoidW_congr {o : COp} (hb : σ'.b = σ.b ∨ slotpure o.k = true ∨ isLoad o.k = true) (hr : ∀ t ∈ readsOp o, σ'.t[t]? = σ.t[t]?) : ∀ (w : List Nat), (∀ r ∈ w, σ'.t[r]? = σ.t[r]?) → avoidW nb σ' o w = avoidW nb σ o w
  | [], _ => rfl
  | r :: w, h => by
    simp only [avoidW, h r (by simp), avoidW_congr hb hr w (fun r hr => h r (by simp [hr]))]
    congr 1
    cases σ.t[r]? with
    | none => rfl
    | some v => cases v <;> first | rfl | exact avoids_congr hb hr
theorem rootNow_congr {o : COp} {r : Nat} (hr : ∀ t ∈ readsOp o, σ'.t[t]? = σ.t[t]?) (h : σ'.t[r]? = σ.t[r]?) : rootNow σ' o r = rootNow σ o r := by
  unfold rootNow
  congr 1
  cases hk : o.k with
  | load agg n x take =>
    cases x with
    | const v => rfl
    | tmp p =>
      have hp : σ'.t[p]? = σ.t[p]? := hr p (readsOp_k (by rw [hk]; simp [readsK, Src.tmps]))
      simp only [hp, h]
  | _ => rfl
theorem slotNow_congr {o : COp} {σ1 σ1' : St} (hr : ∀ t ∈ readsOp o, σ'.t[t]? = σ.t[t]?) (hd : ∀ d, o.dst = some d → σ1'.t[d]? = σ1.t[d]?) : slotNow σ' o σ1' = slotNow σ o σ1 := by
  unfold slotNow
  rw [guardOk_congr (fun j w hg => hr j (readsOp_guard hg))]
  have hrk : ∀ t ∈ readsK o.k, σ'.t[t]? = σ.t[t]? := fun t ht => hr t (readsOp_k ht)
  cases hk : o.k with
  | call f xs ys =>
    rw [hk] at hrk
    have e : (xs.all fun s => decide (s.2 < 2) && noRefV (s.1.get σ')) = (xs.all fun s => decide (s.2 < 2) && noRefV (s.1.get σ)) := by
      have hc : ∀ s ∈ xs, s.1.get σ' = s.1.get σ := fun s hs => get_congr (fun t ht => hrk t (List.mem_flatMap.2 ⟨s, hs, ht⟩))
      rw [Bool.eq_iff_iff, List.all_eq_true, List.all_eq_true]
      constructor
      · intro hh c hcc; rw [← hc c hcc]; exact hh c hcc
      · intro hh c hcc; rw [hc c hcc]; exact hh c hcc
    cases hds : o.dst with
    | none => rfl
    | some d => simp only [e, hd d hds]
  | _ => rfl
theorem flOk_congr {o : COp} {fl : Fl} {σ1 σ1' : St} (hb : σ'.b = σ.b ∨ slotpure o.k = true ∨ isLoad o.k = true ∨ fl.s = true) (hr : ∀ t ∈ readsOp o, σ'.t[t]? = σ.t[t]?) (hw : ∀ t ∈ fl.roots, σ'.t[t]? = σ.t[t]?) (hd : ∀ d, o.dst = some d → σ1'.t[d]? = σ1.t[d]?) : flOk nb σ' o fl σ1' = flOk nb σ o fl σ1 := by
  unfold flOk
  rw [slotNow_congr hr hd]
  cases hs : fl.s with
  | true => rfl
  | false =>
    rw [hs] at hb
    have hb : σ'.b = σ.b ∨ slotpure o.k = true ∨ isLoad o.k = true := by
      rcases hb with h | h | h | h
      · exact .inl h
      · exact .inr (.inl h)
      · exact .inr (.inr h)
      · cases h
    simp only [cond_false]
    rw [quiet_congr' hb hr hd, avoidW_congr hb hr fl.w (fun r h => hw r (by simp [Fl.roots, h]))]
    congr 2
    cases hf : fl.root with
    | none => rfl
    | some r => exact rootNow_congr hr (hw r (by simp [Fl.roots, hf]))
/-! ### what a call leaves alone -/
theorem freeze_other {b : List B} {id k : Nat} (h : k ≠ id) : (freeze b id)[k]? = b[k]? := by
  unfold freeze
  split
  · rw [List.getElem?_set_ne (fun e => h e.symm)]
  · rfl
theorem frozenBy_other {σ : St} {k : Nat} : ∀ (ss : List (Src × Nat)) (b : List B), k ∉ ss.filterMap (fun s => ownId (s.1.get σ)) → (frozenBy σ ss b)[k]? = b[k]?
  | [], b, h => rfl
  | s :: ss, b, h => by
    unfold frozenBy
    have h1 : k ∉ ss.filterMap (fun s => ownId (s.1.get σ)) := by
      intro hh; apply h
      rw [List.mem_filterMap] at hh ⊢
      obtain ⟨a, q1, q2⟩ := hh
      exact ⟨a, by simp [q1], q2⟩
    rw [frozenBy_other ss _ h1]
    split
    · rfl
    · cases ho : ownId (s.1.get σ) with
      | none => rfl
      | some id =>
        refine freeze_other (fun e => h ?_)
        rw [List.mem_filterMap]
        exact ⟨s, by simp, by rw [ho, e]⟩
theorem newB_other {σ σ1 : St} {d : Option Nat} {x : B} {f : Nat → V} {k : Nat} (h : σ.newB nb d x f = some σ1) (hk : k ∉ d.toList.map (nb + ·)) : σ1.b[k]? = σ.b[k]? := by
  cases d with
  | none => cases h
  | some d =>
    simp only [St.newB] at h
    split at h
    · cases h
      simp at hk
      simp only [put_b, St.setB]
      rw [List.getElem?_set_ne (fun e => hk e.symm)]
    · cases h
theorem putG_other {σ σ1 : St} {d : Option Nat} {pin : Bool} {sz : Nat} {es : List (List V)} {k : Nat} (h : σ.putG nb d pin sz es = some σ1) (hk : k ∉ d.toList.map (nb + ·)) : σ1.b[k]? = σ.b[k]? := by
  unfold St.putG at h
  split at h
  · exact newB_other h hk
  · cases h; rw [put_b]
theorem putR_other {σ σ1 : St} {d : Option Nat} {pin : Bool} {v : V} {k : Nat} (h : σ.putR nb d pin v = some σ1) (hk : k ∉ d.toList.map (nb + ·)) : σ1.b[k]? = σ.b[k]? := by
  unfold St.putR at h
  split at h
  · split at h
    · cases h
    · cases h; rw [put_b]
  · exact putG_other h hk
  · exact newB_other h hk
  · cases h; rw [put_b]
theorem giveBack_none (g : Nat → Nat) : ∀ (ids : List Nat) (bor : Bor) (b : List B) (id : Nat), id ∉ ids → (giveBack g ids bor b)[id]? = b[id]?
  | [], bor, b, id, h => by cases bor <;> rfl
  | i :: ids, [], b, id, h => rfl
  | i :: ids, x :: bor, b, id, h => by
    simp only [giveBack]
    rw [giveBack_none g ids bor _ id (fun hh => h (by simp [hh])), List.getElem?_set_ne (fun e => h (by simp [e]))]
theorem avoids_ok {o : COp} {id : Nat} (h : stepOp cb nb σ o = some σ1) (ha : avoids nb σ o id = true) : σ1.b[id]? = σ.b[id]? := by
  unfold avoids at ha
  rw [Bool.or_eq_true, Bool.or_eq_true] at ha
  rcases ha with (ha | ha) | ha
  · obtain ⟨v, rfl, _⟩ := stepOp_pure o ha (fun _ _ => rfl) h
    rw [put_b]
  · have : σ1.b = σ.b := by
      refine quiet_b h ?_
      unfold stepOp at h
      unfold quietNow
      cases hg : guardOk σ o.guard with
      | none => rw [hg] at h; cases h
      | some g =>
        cases g with
        | false => rfl
        | true => cases hk : o.k <;> rw [hk] at ha <;> simp [isLoad] at ha <;> simp [ha]
    rw [this]
  · unfold stepOp at h
    cases hg : guardOk σ o.guard with
    | none => rw [hg] at h; cases h
    | some g =>
      rw [hg] at h ha
      cases g with
      | false => simp only at h; cases h; rw [put_b]
      | true =>
        simp only at h ha
        cases hk : o.k with
        | call f xs ys =>
          rw [hk] at h ha
          simp only [stepK, Option.bind_eq_bind, Option.bind_eq_some_iff] at h
          obtain ⟨vs, h1, h2⟩ := h
          simp only [h1] at ha
          have ha : id ∉ callIds nb σ o.dst vs xs ys := by
            intro hh
            have : (callIds nb σ o.dst vs xs ys).contains id = true := List.contains_iff_mem.2 hh
            rw [this] at ha; cases ha
          simp only [callIds, List.mem_append, not_or] at ha
          obtain ⟨⟨⟨a1, a2⟩, a3⟩, a4⟩ := ha
          unfold doCall at h2
          simp only [Option.bind_eq_bind, Option.bind_eq_some_iff, Prod.exists] at h2
          obtain ⟨bor, _, r, bor', _, h2⟩ := h2
          split at h2
          · have := putR_other h2 a4
            rw [this]
            simp only
            rw [giveBack_none _ _ _ _ _ ?_, frozenBy_other _ _ a2]
            intro hh
            rw [List.mem_append] at hh
            rcases hh with hh | hh
            · exact a1 hh
            · exact a3 (List.mem_of_mem_take hh)
          · cases h2
        | alloc p cs =>
          rw [hk] at h ha
          simp only [stepK] at h
          refine newB_other h (fun hh => ?_)
          have : (o.dst.toList.map (nb + ·)).contains id = true := List.contains_iff_mem.2 hh
          simp only [this] at ha; cases ha
        | box p x =>
          rw [hk] at h ha
          have hn : id ∉ o.dst.toList.map (nb + ·) := fun hh => by
            have : (o.dst.toList.map (nb + ·)).contains id = true := List.contains_iff_mem.2 hh
            simp only [this] at ha; cases ha
          simp only [stepK] at h
          split at h
          · split at h
            · cases h
            · exact newB_other h hn
          · split at h
            · exact newB_other h hn
            · cases h
        | _ => rw [hk] at ha; cases ha
/-- a call that looks at slots alone -/
theorem slotNow_ok {o : COp} (h : stepOp cb nb σ o = some σ1) (hs : slotNow σ o σ1 = true) : ∃ v, σ1 = σ.put o.dst v ∧ ∀ σ' : St, (∀ t ∈ readsOp o, σ'.t[t]? = σ.t[t]?) → stepOp cb nb σ' o = some (σ'.put o.dst v) := by
  unfold stepOp at h
  unfold slotNow at hs
  cases hg : guardOk σ o.guard with
  | none => rw [hg] at h; cases h
  | some g =>
    rw [hg] at h hs
    cases g with
    | false =>
      simp only at h; cases h
      refine ⟨_, rfl, fun σ' hr => ?_⟩
      unfold stepOp
      rw [guardOk_congr (fun j w hg => hr j (readsOp_guard hg)), hg]
    | true =>
      simp only at h hs
      cases hk : o.k with
      | call f xs ys =>
        cases hds : o.dst with
        | none => rw [hk, hds] at hs; cases hs
        | some d =>
          rw [hk, hds] at hs
          rw [hk, hds] at h
          simp only [Bool.and_eq_true, Bool.not_eq_true', List.all_eq_true, decide_eq_true_eq, List.isEmpty_iff] at hs
          obtain ⟨⟨⟨hpin, hys⟩, hargs⟩, hd⟩ := hs
          subst hys
          rw [hpin] at h
          simp only [stepK, Option.bind_eq_bind, Option.bind_eq_some_iff] at h
          obtain ⟨vs, h1, h2⟩ := h
          have hown : ∀ s ∈ xs, ownId (s.1.get σ) = none := fun s hs => by
            have := (hargs s hs).2
            cases hx : s.1.get σ <;> rw [hx] at this <;> simp [noRefV] at this <;> rfl
          have hrefs : vs.flatMap refsOf = [] := by
            rw [List.flatMap_eq_nil_iff]
            intro v hv
            obtain ⟨i, hi⟩ := List.getElem?_of_mem hv
            have hlt : i < xs.length := by rw [← mapM_len2 h1]; exact (List.getElem?_eq_some_iff.1 hi).1
            obtain ⟨v', g1, g2⟩ := mapM_at2 h1 i _ (List.getElem?_eq_getElem hlt)
            rw [hi] at g1; cases g1
            refine argOf_noRef (hargs _ (List.getElem_mem hlt)).1 ?_ g2
            have := (hargs _ (List.getElem_mem hlt)).2
            cases hx : (xs[i]).1.get σ <;> rw [hx] at this <;> simp [noRefV] at this <;> simp [noRefArg, this]
          -- what the call does, whatever memory is
          have gen : ∀ (τ : St), (∀ s ∈ xs, ownId (s.1.get τ) = none) → doCall cb nb τ (some d) false f vs xs [] = (cb f (vs.map (renV (idxIn []))) []).bind fun p =>
              if ((p.2.take ([] : List Nat).length).map B.len = ([] : Bor).map B.len ∧ p.2.length = (([] : List Nat) ++ (([] : List Nat).map (nb + ·)).take (p.2.length - ([] : List Nat).length)).length ∧ vs.all (fun a => (refsOf a).all ([] : List Nat).contains) ∧ noRef p.1 ∧ (refsR p.1).all (fun k => decide (k < (([] : List Nat) ++ (([] : List Nat).map (nb + ·)).take (p.2.length - ([] : List Nat).length)).length)) ∧ p.2.all (B.lend (List.range (([] : List Nat) ++ (([] : List Nat).map (nb + ·)).take (p.2.length - ([] : List Nat).length)).length)) ∧ sameKind (p.2.take ([] : List Nat).length) ([] : Bor) ∧ (p.2.drop ([] : List Nat).length).all B.isRow ∧ freeIds τ.b nb []) then
                St.putR nb τ (some d) false (renR (fun k => (([] : List Nat) ++ (([] : List Nat).map (nb + ·)).take (p.2.length - ([] : List Nat).length)).getD k 0) p.1)
              else none := by
            intro τ hτ
            have hfz : frozenBy τ xs τ.b = τ.b := frozenBy_none xs _ (fun s hs id hid => by rw [hτ s hs] at hid; cases hid)
            have hids : lentIds τ.b vs = [] := by unfold lentIds; rw [hrefs, closure_nil]
            unfold doCall
            simp only [hfz, hids, lendAll, Option.bind_eq_bind, Option.bind_some]
            congr 1
            funext p
            have e : giveBack (fun k => (([] : List Nat) ++ (List.map (nb + ·) []).take (p.2.length - ([] : List Nat).length)).getD k 0) (([] : List Nat) ++ (List.map (nb + ·) []).take (p.2.length - ([] : List Nat).length)) p.2 τ.b = τ.b := by simp [giveBack]
            rw [e]
          rw [gen σ hown, Option.bind_eq_some_iff] at h2
          obtain ⟨⟨r, bor'⟩, hcb, h3⟩ := h2
          simp only at h3
          split at h3
          · rename_i hcond
            generalize hr' : renR _ r = r' at h3
            have hnb : ∀ p cs, r' ≠ .bx p cs := fun p cs hbx => by
              subst hbx
              simp only [St.putR, St.newB] at h3
              split at h3
              · cases h3
                simp only [St.put, St.setB] at hd
                split at hd
                · rename_i v hv
                  rw [List.getElem?_set] at hv
                  simp only [if_true] at hv
                  split at hv
                  · cases hv; simp [isPtr] at hd
                  · cases hv
                · cases hd
              · cases h3
            have putc : ∃ v, ∀ τ : St, τ.putR nb (some d) false r' = some (τ.put (some d) v) := by
              cases r' with
              | bx p cs => exact absurd rfl (hnb p cs)
              | fr sz es => exact ⟨.gs sz es, fun τ => rfl⟩
              | gs sz es => exact ⟨.gs sz es, fun τ => rfl⟩
              | _ => exact ⟨_, fun τ => rfl⟩
            obtain ⟨v, hv⟩ := putc
            rw [hv σ] at h3
            refine ⟨v, (Option.some.inj h3).symm, fun σ' hr => ?_⟩
            have hrk : ∀ t ∈ readsK o.k, σ'.t[t]? = σ.t[t]? := fun t ht => hr t (readsOp_k ht)
            rw [hk] at hrk
            have hc : ∀ s ∈ xs, s.1.get σ' = s.1.get σ := fun s hs => get_congr (fun t ht => hrk t (List.mem_flatMap.2 ⟨s, hs, ht⟩))
            have hargs' : ∀ s ∈ xs, argOf σ' s = argOf σ s := fun s hs => by
              have h2 := (hargs s hs).2
              have h3 := (hargs s hs).1
              have hl : ∀ v, lendOf s.2 v = none := fun v => by unfold lendOf; rw [if_neg (by omega)]
              simp only [argOf, hl, hc s hs]
              cases hx : s.1.get σ <;> rw [hx] at h2 <;> simp [noRefV] at h2 <;> rfl
            unfold stepOp
            rw [guardOk_congr (fun j w hg => hr j (readsOp_guard hg)), hg]
            simp only [hk, hds, hpin, stepK]
            rw [mapM_congr' xs hargs', h1]
            simp only [Option.bind_eq_bind, Option.bind_some]
            rw [gen σ' (fun s hs => by rw [hc s hs]; exact hown s hs), hcb]
            simp only [Option.bind_some]
            rw [if_pos (by exact hcond), hr', hv σ']
          · cases h3
      | _ => rw [hk] at hs; cases hs
theorem load_congr {o : COp} (hl : isLoad o.k = true) (hr : ∀ t ∈ readsOp o, σ'.t[t]? = σ.t[t]?) (hb : ∀ agg n a take id off, o.k = .load agg n a take → a.get σ = .ptr id off → σ'.b[id]? = σ.b[id]?) (h : stepOp cb nb σ o = some σ1) : ∃ v, σ1 = σ.put o.dst v ∧ stepOp cb nb σ' o = some (σ'.put o.dst v) := by
  unfold stepOp at h ⊢
  rw [guardOk_congr (fun j w hg => hr j (readsOp_guard hg))]
  split at h
  · cases hk : o.k with
    | load agg n a take =>
      rw [hk] at h hl
      have ht : take = false := by simpa [isLoad] using hl
      subst ht
      have hg : a.get σ' = a.get σ := get_congr (fun t ht => hr t (readsOp_k (by rw [hk]; exact ht)))
      have hb := fun id off => hb _ _ _ _ id off hk
      simp only [stepK, hg] at h ⊢
      cases hx : a.get σ with
      | ptr id off =>
        rw [hx] at h
        have hb := hb id off hx
        simp only [hb]
        simp only at h
        split at h
        · split at h
          · rename_i p cs hbb hagg
            simp only [hbb, hagg, if_true]
            split at h
            · rename_i hle
              simp only [hle, if_true]
              split at h
              · rename_i hp
                simp only [hp, if_true]
                cases h; exact ⟨_, rfl, rfl⟩
              · rename_i hp
                simp only [hp, if_false]
                simp only [Bool.false_eq_true, if_false, Option.bind_eq_bind, Option.bind_eq_some_iff, Option.some.injEq] at h ⊢
                obtain ⟨vs, h1, rfl⟩ := h
                exact ⟨_, rfl, ⟨vs, h1, rfl⟩⟩
            · cases h
          · rename_i p cs hbb hagg
            simp only [hbb, hagg, if_false]
            split at h
            · rename_i v hv
              try simp only [hv]
              simp only [Bool.false_eq_true, if_false] at h ⊢
              cases h; exact ⟨_, rfl, rfl⟩
            · cases h
        · rename_i cs hbb
          try simp only [hbb]
          split at h
          · rename_i hagg
            simp only [hagg, if_true]
            split at h
            · rename_i hle
              simp only [hle, if_true]
              cases h; exact ⟨_, rfl, rfl⟩
            · cases h
          · rename_i hagg
            simp only [hagg, if_false]
            split at h
            · rename_i v hv
              try simp only [hv]
              cases h; exact ⟨_, rfl, rfl⟩
            · cases h
        · cases h
      | fp m cs =>
        rw [hx] at h
        simp only at h ⊢
        split at h
        · rename_i hagg
          simp only [hagg, if_true]
          split at h
          · rename_i hle
            simp only [hle, if_true]
            cases h; exact ⟨_, rfl, rfl⟩
          · cases h
        · rename_i hagg
          simp only [hagg, if_false]
          split at h
          · rename_i v hv
            try simp only [hv]
            cases h; exact ⟨_, rfl, rfl⟩
          · cases h
      | _ => rw [hx] at h; cases h
    | _ => rw [hk] at hl; cases hl
  · cases h; exact ⟨_, rfl, rfl⟩
  · cases h
theorem Wo_load {o : COp} (hl : isLoad o.k = true) : Wo o = o.dst.toList := by
  cases hk : o.k with
  | load agg n a take =>
    rw [hk] at hl
    have ht : take = false := by simpa [isLoad] using hl
    subst ht
    simp [Wo, Wk, hk, takesK]
  | _ => rw [hk] at hl; cases hl
/-- the block that is loaded from is one of those that the other operation leaves alone -/
theorem root_avoid {A B : COp} {r : Nat} {w : List Nat} (hra : rootNow σ A r = true) (hm : rootIn (some r) w = true) (hB : stepOp cb nb σ' B = some σ1) (hw : avoidW nb σ' B w = true) (ht : σ'.t[r]? = σ.t[r]?) :
    ∀ agg n a take id off, A.k = .load agg n a take → a.get σ = .ptr id off → σ1.b[id]? = σ'.b[id]? := by
  intro agg n a take id off hk hg
  unfold rootNow at hra
  rw [Bool.and_eq_true] at hra
  have hra := hra.2
  rw [hk] at hra
  cases a with
  | const v => cases hra
  | tmp p =>
    simp only at hra
    split at hra
    · rename_i id1 o1 id2 o2 h1 h2
      have e := Nat.eq_of_beq_eq_true hra
      have : id = id1 := by
        simp only [Src.get, List.getD_eq_getElem?_getD, h1, Option.getD_some] at hg
        cases hg; rfl
      subst this; subst e
      have hm : r ∈ w := List.contains_iff_mem.1 hm
      have key : ∀ (w : List Nat), r ∈ w → avoidW nb σ' B w = true → avoids nb σ' B id = true := by
        intro w
        induction w with
        | nil => intro h; cases h
        | cons x w ih =>
          intro h hh
          simp only [avoidW, Bool.and_eq_true] at hh
          rcases List.mem_cons.1 h with rfl | h
          · have := hh.1
            rw [ht, h2] at this
            exact this
          · exact ih h hh.2
      exact avoids_ok hB (key w hm hw)
    · rename_i h1
      simp only [Src.get, List.getD_eq_getElem?_getD, h1, Option.getD_some] at hg
      cases hg
    · cases hra
theorem ob_dst {σ σ1 σ2 : St} {d : Nat} {dst : Option Nat} {v : V} (e : σ2 = σ1.put dst v) (hd : dst = some d) (hl : σ1.t.length = σ.t.length) : (σ.put dst v).t[d]? = σ2.t[d]? := by
  subst e; rw [put_get, put_get, hl]
  by_cases h : d < σ.t.length
  · rw [if_pos ⟨hd, h⟩, if_pos ⟨hd, h⟩]
  · rw [if_neg (fun q => h q.2), if_neg (fun q => h q.2), List.getElem?_eq_none (by omega), List.getElem?_eq_none (by omega)]
theorem swapF {A B : COp} {qa qb : Fl} {σ σ1 σ2 : St} (ha : stepOp cb nb σ A = some σ1) (hb : stepOp cb nb σ1 B = some σ2) (fa : flOk nb σ A qa σ1 = true) (fb : flOk nb σ1 B qb σ2 = true) (pk : pairOk (A, qa) (B, qb) = true) :
    ∃ σ1', stepOp cb nb σ B = some σ1' ∧ stepOp cb nb σ1' A = some σ2 ∧ flOk nb σ B qb σ1' = true ∧ flOk nb σ1' A qa σ2 = true := by
  simp only [pairOk, Bool.and_eq_true, Bool.or_eq_true] at pk
  obtain ⟨⟨hs, hroots⟩, hq⟩ := pk
  have hroots := apart_spec hroots
  have rr : ∀ t, t ∈ qa.roots ∨ t ∈ qb.roots → t ∉ Wo A ∧ t ∉ Wo B := by
    intro t ht
    constructor
    · intro hh
      exact hroots t (List.mem_append.2 (.inl hh)) (List.mem_append.2 ht)
    · intro hh
      exact hroots t (List.mem_append.2 (.inr hh)) (List.mem_append.2 ht)
  have hs0 := hs
  simp only [slotsApart, Bool.and_eq_true] at hs
  have s1 := apart_spec hs.1
  have s2 := apart_spec hs.2
  have wa : ∀ k ∈ Wo A, k ∉ readsOp B ∧ k ∉ Wo B := fun k hk => by
    have := s1 k hk
    simp only [List.mem_append, not_or] at this
    exact ⟨this.1.1, fun hh => by simp only [Wo, Wk, List.mem_append] at hh; exact hh.elim this.1.2 this.2⟩
  have wb : ∀ k ∈ Wo B, k ∉ readsOp A ∧ k ∉ Wo A := fun k hk => by
    have := s2 k hk
    simp only [List.mem_append, not_or] at this
    exact ⟨this.1.1, fun hh => by simp only [Wo, Wk, List.mem_append] at hh; exact hh.elim this.1.2 this.2⟩
  obtain ⟨_, _, oa⟩ := stepOp_over A rfl rfl (fun _ _ => rfl) ha
  obtain ⟨_, _, ob⟩ := stepOp_over B rfl rfl (fun _ _ => rfl) hb
  have rB : ∀ t ∈ readsOp B, σ.t[t]? = σ1.t[t]? := fun t ht => (oa.fr t (fun hh => (wa t hh).1 ht)).symm
  have main : ∃ σ1', stepOp cb nb σ B = some σ1' ∧ stepOp cb nb σ1' A = some σ2 ∧ Side A B qa.s qb.s σ σ1 σ2 σ1' := by
    have fa' := fa
    have fb' := fb
    have swp : ∀ hq, ∃ σ1', stepOp cb nb σ B = some σ1' ∧ stepOp cb nb σ1' A = some σ2 ∧ Side A B qa.s qb.s σ σ1 σ2 σ1' := fun hq => by
      obtain ⟨σ1', q1, q2, q3⟩ := swap ha hb hs0 hq
      exact ⟨σ1', q1, q2, q3 _ _⟩
    have nos : ∀ {s : Bool}, (!s) = true → s = false := fun {s} h => by cases s <;> first | rfl | cases h
    rcases hq with (((((h | h) | h) | h) | h) | h) | h
    · exact swp (.inl h)
    · exact swp (.inr (.inl h))
    · obtain ⟨⟨⟨hqa, hqb⟩, hsa⟩, hsb⟩ := h
      have h : qa.q = true ∧ qb.q = true := ⟨hqa, hqb⟩
      simp only [flOk, nos hsa, nos hsb, cond_false, Bool.and_eq_true, Bool.or_eq_true, Bool.not_eq_true'] at fa' fb'
      obtain ⟨⟨fa1, fa2⟩, fa3⟩ := fa'
      obtain ⟨⟨fb1, fb2⟩, fb3⟩ := fb'
      refine swp (.inr (.inr ⟨?_, ?_⟩))
      · rcases fa1 with e | e
        · rw [h.1] at e; cases e
        · exact e
      · rcases fb1 with e | e
        · rw [h.2] at e; cases e
        · exact e
    · -- A loads
      obtain ⟨⟨h, hsa⟩, hsb⟩ := h
      simp only [flOk, nos hsa, nos hsb, cond_false, Bool.and_eq_true, Bool.or_eq_true, Bool.not_eq_true'] at fa' fb'
      obtain ⟨⟨fa1, fa2⟩, fa3⟩ := fa'
      obtain ⟨⟨fb1, fb2⟩, fb3⟩ := fb'
      cases hr : qa.root with
      | none => rw [hr] at h; cases h
      | some r =>
        rw [hr] at h fa2
        simp only at fa2
        have hrm : r ∈ qb.w := List.contains_iff_mem.1 h
        have hrA : r ∉ Wo A := (rr r (.inl (by simp [Fl.roots, hr]))).1
        have hlA : isLoad A.k = true := by
          have := fa2; unfold rootNow at this; rw [Bool.and_eq_true] at this; exact this.1
        obtain ⟨v, e1, _⟩ := load_congr (σ' := σ) hlA (fun _ _ => rfl) (fun _ _ _ _ _ _ _ _ => rfl) ha
        have hb1 : σ1.b = σ.b := by rw [e1, put_b]
        obtain ⟨σ1', f1, f2⟩ := stepOp_over B (σ' := σ) oa.len.symm hb1.symm rB hb
        have hw : avoidW nb σ B qb.w = true := by
          rw [← avoidW_congr (σ := σ) (σ' := σ1) (.inl hb1) (fun t ht => (rB t ht).symm) qb.w (fun t ht => oa.fr t (rr t (.inr (by simp [Fl.roots, ht]))).1)]
          exact fb3
        have hblk := root_avoid fa2 h f1 hw rfl
        obtain ⟨v', e3, e4⟩ := load_congr (σ' := σ1') hlA (fun t ht => f2.off t (fun hh => (wb t hh).1 ht)) hblk ha
        have e : σ1'.put A.dst v' = σ2 := by
          have eb : (σ1'.put A.dst v').b = σ2.b := by rw [put_b, f2.b]
          have et : (σ1'.put A.dst v').t = σ2.t := by
            apply List.ext_getElem?
            intro k
            rw [put_get, f2.len']
            by_cases hA : A.dst = some k ∧ k < σ.t.length
            · rw [if_pos hA]
              have hkA : k ∈ Wo A := mem_dst k hA.1
              rw [ob.fr k (wa k hkA).2, e3, put_get, if_pos hA]
            · rw [if_neg hA]
              by_cases hB : k ∈ Wo B
              · exact f2.on k hB
              · rw [f2.off k hB, ob.fr k hB, e3, put_get, if_neg hA]
          cases hz : σ1'.put A.dst v'; rw [hz] at eb et; cases σ2; simp only at eb et; rw [eb, et]
        refine ⟨σ1', f1, by rw [e4, e], oa.fr, f2.off, fun d hd => f2.on d (mem_dst d hd), fun d hd => ob.fr d (wa d (mem_dst d hd)).2, .inl hb1.symm, .inr (.inr (.inl hlA))⟩
    · -- B loads
      obtain ⟨⟨h, hsa⟩, hsb⟩ := h
      simp only [flOk, nos hsa, nos hsb, cond_false, Bool.and_eq_true, Bool.or_eq_true, Bool.not_eq_true'] at fa' fb'
      obtain ⟨⟨fa1, fa2⟩, fa3⟩ := fa'
      obtain ⟨⟨fb1, fb2⟩, fb3⟩ := fb'
      cases hr : qb.root with
      | none => rw [hr] at h; cases h
      | some r =>
        rw [hr] at h fb2
        simp only at fb2
        have hlB : isLoad B.k = true := by
          have := fb2; unfold rootNow at this; rw [Bool.and_eq_true] at this; exact this.1
        have hrA : r ∉ Wo A := (rr r (.inr (by simp [Fl.roots, hr]))).1
        have hblk := root_avoid fb2 h ha fa3 (oa.fr r hrA).symm
        obtain ⟨v, e1, e2⟩ := load_congr (σ' := σ) hlB (fun t ht => rB t ht) (fun agg n a take id off hk hg => (hblk agg n a take id off hk hg).symm) hb
        have hoff : ∀ k, k ∉ Wo B → (σ.put B.dst v).t[k]? = σ.t[k]? := fun k hk => by rw [put_get, if_neg (fun h => hk (mem_dst k h.1))]
        have hl : (σ.put B.dst v).t.length = σ.t.length := put_len _ _ _
        obtain ⟨σ2', f1, f2⟩ := stepOp_over A (σ' := σ.put B.dst v) hl (put_b _ _ _) (fun t ht => hoff t (fun hh => (wb t hh).1 ht)) ha
        have e : σ2' = σ2 := by
          have eb : σ2'.b = σ2.b := by rw [f2.b, e1, put_b]
          have et : σ2'.t = σ2.t := by
            apply List.ext_getElem?
            intro k
            rw [e1, put_get, oa.len]
            by_cases hB : B.dst = some k ∧ k < σ.t.length
            · rw [if_pos hB]
              have hkB : k ∈ Wo B := mem_dst k hB.1
              rw [f2.off k (wb k hkB).2, put_get, if_pos hB]
            · rw [if_neg hB]
              by_cases hA : k ∈ Wo A
              · exact f2.on k hA
              · rw [f2.off k hA, oa.fr k hA, put_get, if_neg hB]
          cases σ2'; cases σ2; simp only at eb et; rw [eb, et]
        subst e
        refine ⟨_, e2, f1, oa.fr, hoff, fun d hd => ?_, fun d hd => f2.on d (mem_dst d hd), .inr (.inr (.inl hlB)), .inl (put_b _ _ _)⟩
        rw [ob_dst e1 hd oa.len]
    · -- A looks at slots alone
      have hsa : qa.s = true := h
      simp only [flOk, hsa, cond_true] at fa'
      obtain ⟨v, e3, e4⟩ := slotNow_ok ha fa'
      have hb1 : σ1.b = σ.b := by rw [e3, put_b]
      obtain ⟨σ1', f1, f2⟩ := stepOp_over B (σ' := σ) oa.len.symm hb1.symm rB hb
      have e4 := e4 σ1' (fun t ht => f2.off t (fun hh => (wb t hh).1 ht))
      have e : σ1'.put A.dst v = σ2 := by
        have eb : (σ1'.put A.dst v).b = σ2.b := by rw [put_b, f2.b]
        have et : (σ1'.put A.dst v).t = σ2.t := by
          apply List.ext_getElem?
          intro k
          rw [put_get, f2.len']
          by_cases hA : A.dst = some k ∧ k < σ.t.length
          · rw [if_pos hA]
            have hkA : k ∈ Wo A := mem_dst k hA.1
            rw [ob.fr k (wa k hkA).2, e3, put_get, if_pos hA]
          · rw [if_neg hA]
            by_cases hB : k ∈ Wo B
            · exact f2.on k hB
            · rw [f2.off k hB, ob.fr k hB, e3, put_get, if_neg hA]
        cases hz : σ1'.put A.dst v; rw [hz] at eb et; cases σ2; simp only at eb et; rw [eb, et]
      exact ⟨σ1', f1, by rw [e4, e], oa.fr, f2.off, fun d hd => f2.on d (mem_dst d hd), fun d hd => ob.fr d (wa d (mem_dst d hd)).2, .inl hb1.symm, .inr (.inr (.inr hsa))⟩
    · -- B looks at slots alone
      have hsb : qb.s = true := h
      simp only [flOk, hsb, cond_true] at fb'
      obtain ⟨v, e1, e2⟩ := slotNow_ok hb fb'
      have e2 := e2 σ rB
      have hoff : ∀ k, k ∉ Wo B → (σ.put B.dst v).t[k]? = σ.t[k]? := fun k hk => by rw [put_get, if_neg (fun h => hk (mem_dst k h.1))]
      have hl : (σ.put B.dst v).t.length = σ.t.length := put_len _ _ _
      obtain ⟨σ2', f1, f2⟩ := stepOp_over A (σ' := σ.put B.dst v) hl (put_b _ _ _) (fun t ht => hoff t (fun hh => (wb t hh).1 ht)) ha
      have e : σ2' = σ2 := by
        have eb : σ2'.b = σ2.b := by rw [f2.b, e1, put_b]
        have et : σ2'.t = σ2.t := by
          apply List.ext_getElem?
          intro k
          rw [e1, put_get, oa.len]
          by_cases hB : B.dst = some k ∧ k < σ.t.length
          · rw [if_pos hB]
            have hkB : k ∈ Wo B := mem_dst k hB.1
            rw [f2.off k (wb k hkB).2, put_get, if_pos hB]
          · rw [if_neg hB]
            by_cases hA : k ∈ Wo A
            · exact f2.on k hA
            · rw [f2.off k hA, oa.fr k hA, put_get, if_neg hB]
        cases σ2'; cases σ2; simp only at eb et; rw [eb, et]
      subst e
      refine ⟨_, e2, f1, oa.fr, hoff, fun d hd => ?_, fun d hd => f2.on d (mem_dst d hd), .inr (.inr (.inr hsb)), .inl (put_b _ _ _)⟩
      rw [ob_dst e1 hd oa.len]
  obtain ⟨σ1', k1, k2, S⟩ := main
  refine ⟨σ1', k1, k2, ?_, ?_⟩
  · rw [← fb]
    exact flOk_congr S.bB rB (fun t ht => (oa.fr t (rr t (.inr ht)).1).symm) S.dB
  · rw [← fa]
    exact flOk_congr S.bA (fun t ht => S.fB t (fun hh => (wb t hh).1 ht)) (fun t ht => S.fB t (rr t (.inl ht)).2) S.dA
end Go.Proofs.Ythplooifbkopgaa
