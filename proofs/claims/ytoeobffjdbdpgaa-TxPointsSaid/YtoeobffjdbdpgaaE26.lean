/- Two operations that do not meet may change places (2). -/
import Derived.Test.YtoeobffjdbdpgaaE25
namespace Go.Proofs.Ytoeobffjdbdpgaa
set_option linter.unusedVariables false
set_option linter.unusedSimpArgs false
variable {cb : CB} {nb : Nat} {σ σ' σ1 : St}

def Wo (o : COp) : List Nat := Wk o.k o.dst
theorem guardOk_congr {g : Option (Nat × Bool)} (h : ∀ j w, g = some (j, w) → σ'.t[j]? = σ.t[j]?) : guardOk σ' g = guardOk σ g := by
  cases g with
  | none => rfl
  | some jw => obtain ⟨j, w⟩ := jw; simp only [guardOk, h j w rfl]
theorem readsOp_guard {o : COp} {j : Nat} {w : Bool} (h : o.guard = some (j, w)) : j ∈ readsOp o := by simp [readsOp, h]
theorem readsOp_k {o : COp} {j : Nat} (h : j ∈ readsK o.k) : j ∈ readsOp o := by simp [readsOp, h]
theorem stepOp_over (o : COp) (hl : σ'.t.length = σ.t.length) (hb : σ'.b = σ.b) (hr : ∀ t ∈ readsOp o, σ'.t[t]? = σ.t[t]?) (h : stepOp cb nb σ o = some σ1) :
    ∃ σ1', stepOp cb nb σ' o = some σ1' ∧ Over (Wo o) σ σ1 σ' σ1' := by
  unfold stepOp at h ⊢
  rw [guardOk_congr (fun j w hg => hr j (readsOp_guard hg))]
  split at h
  · exact stepK_over o.k hl hb (fun t ht => hr t (readsOp_k ht)) h
  · cases h
    exact ⟨_, rfl, over_put _ hl hb mem_dst (fun i hi hd => hr i (readsOp_k (takes_reads (Wk_takes hi hd))))⟩
  · cases h
def pv (σ : St) (pin : Bool) : K → Option V
  | .move x _ => if pin then none else some (x.get σ).dem
  | k => pureK σ k
theorem stepK_pure {k : K} (hp : slotpure k = true) (σ : St) (d : Option Nat) (pin : Bool) : stepK cb nb σ d pin k = (pv σ pin k).map (fun v => σ.put d v) := by
  cases k <;> simp [slotpure] at hp <;> first | rfl | (subst hp; cases pin <;> rfl)
theorem pv_congr {k : K} (hp : slotpure k = true) (pin : Bool) (hr : ∀ t ∈ readsK k, σ'.t[t]? = σ.t[t]?) : pv σ' pin k = pv σ pin k := by
  cases k with
  | move x take => simp only [pv, get_congr (s := x) hr]
  | _ => exact pureK_congr _ hr (.inr hp)
theorem stepOp_pure (o : COp) (hp : slotpure o.k = true) (hr : ∀ t ∈ readsOp o, σ'.t[t]? = σ.t[t]?) (h : stepOp cb nb σ o = some σ1) : ∃ v, σ1 = σ.put o.dst v ∧ stepOp cb nb σ' o = some (σ'.put o.dst v) := by
  unfold stepOp at h ⊢
  rw [guardOk_congr (fun j w hg => hr j (readsOp_guard hg))]
  split at h
  · rw [stepK_pure hp] at h ⊢
    rw [pv_congr hp _ (fun t ht => hr t (readsOp_k ht))]
    rw [Option.map_eq_some_iff] at h
    obtain ⟨v, h1, rfl⟩ := h
    exact ⟨v, rfl, by rw [h1]; rfl⟩
  · cases h; exact ⟨_, rfl, rfl⟩
  · cases h
theorem slotpure_takes {k : K} (h : slotpure k = true) : takesK k = [] := by
  cases k <;> simp [slotpure] at h <;> first | rfl | (subst h; rfl)
/-! ### quiet operations -/
theorem putR_quiet {σ σ1 : St} {d : Option Nat} {v : V} (h : σ.putR nb d false v = some σ1) (hv : ∀ p cs, v ≠ .bx p cs) : σ1.b = σ.b := by
  cases v with
  | bx p cs => exact absurd rfl (hv p cs)
  | fr sz es => simp only [St.putR, St.putG, Bool.false_and, Bool.false_eq_true, if_false] at h; cases h; exact put_b _ _ _
  | gs sz es => simp only [St.putR] at h; cases h; exact put_b _ _ _
  | _ => simp only [St.putR] at h; cases h; exact put_b _ _ _
theorem frozenBy_none {σ : St} : ∀ (ss : List (Src × Bool)) (b : List B), (∀ s ∈ ss, ∀ id, ownId (s.1.get σ) = some id → freeze b id = b) → frozenBy σ ss b = b
  | [], b, h => rfl
  | s :: ss, b, h => by
    have ih := frozenBy_none ss b (fun s' hs' => h s' (by simp [hs']))
    cases ho : ownId (s.1.get σ) with
    | none => simp only [frozenBy, ho]; exact ih
    | some id => simp only [frozenBy, ho, h s (by simp) id ho]; exact ih
theorem freeze_fz {b : List B} {id : Nat} (h : isFz b[id]? = true) : freeze b id = b := by
  unfold freeze
  cases hb : b[id]? with
  | none => rfl
  | some x =>
    cases x with
    | fz cs => rfl
    | gone => rfl
    | live p cs => rw [hb] at h; simp [isFz] at h
    | mp es => rfl
theorem closure_nil (b : List B) (n : Nat) (acc : List Nat) : closure b n [] acc = acc := by cases n <;> rfl
theorem argOf_noRef {σ : St} {s : Src × Bool} (h : noRefArg σ.b (s.1.get σ) = true) {v : V} (hv : argOf σ s = some v) : refsOf v = [] := by
  simp only [argOf] at hv
  cases hx : s.1.get σ with
  | own id off len sz =>
    rw [hx] at hv
    simp only [view] at hv
    cases hc : ((σ.b[id]?).getD .gone).cs? with
    | none => rw [hc] at hv; cases hv
    | some cs => rw [hc] at hv; cases hv; rfl
  | ptr id off => rw [hx] at h; simp [noRefArg] at h
  | mp id => rw [hx] at h; simp [noRefArg] at h
  | fn f caps =>
    rw [hx] at h hv
    simp only [noRefArg, List.isEmpty_iff] at h
    subst h
    simp [view] at hv
    subst hv; rfl
  | _ =>
    rw [hx] at hv
    simp only [view] at hv
    first
      | (cases hv; rfl)
      | (simp [V.plain] at hv; subst hv; rfl)
      | (simp [V.plain] at hv)
theorem quiet_b {o : COp} (h : stepOp cb nb σ o = some σ1) (hq : quietNow σ o σ1 = true) : σ1.b = σ.b := by
  unfold stepOp at h
  unfold quietNow at hq
  cases hg : guardOk σ o.guard with
  | none => rw [hg] at h; cases h
  | some g =>
    rw [hg] at h hq
    cases g with
    | false => simp only at h; cases h; exact put_b _ _ _
    | true =>
      simp only at h hq
      have sp : slotpure o.k = true → σ1.b = σ.b := by
        intro hp
        rw [stepK_pure hp, Option.map_eq_some_iff] at h
        obtain ⟨v, _, rfl⟩ := h
        exact put_b _ _ _
      cases hk : o.k with
      | load agg n x take =>
        rw [hk] at h hq
        simp only [Bool.not_eq_true'] at hq
        subst hq
        simp only [stepK] at h
        repeat' (split at h)
        all_goals first
          | (cases h; done)
          | (cases h; exact put_b _ _ _)
          | (simp only [Option.bind_eq_bind, Option.bind_eq_some_iff, Option.some.injEq] at h; obtain ⟨_, _, rfl⟩ := h; exact put_b _ _ _)
          | (exact absurd ‹false = true› (by simp))
      | toStr x =>
        rw [hk] at h
        simp only [stepK, Option.map_eq_some_iff] at h
        obtain ⟨v, _, rfl⟩ := h
        exact put_b _ _ _
      | cmpB x y =>
        rw [hk] at h
        simp only [stepK, Option.map_eq_some_iff] at h
        obtain ⟨v, _, rfl⟩ := h
        exact put_b _ _ _
      | sliceA n sz x l hh m =>
        rw [hk] at h
        simp only [stepK, Option.map_eq_some_iff] at h
        obtain ⟨v, _, rfl⟩ := h
        exact put_b _ _ _
      | move x take =>
        rw [hk] at h
        simp only [stepK] at h
        repeat' (split at h)
        · cases h
        · cases h; rw [put_b, demote_b]
        · cases h; exact put_b _ _ _
      | append sz bytes s x =>
        rw [hk] at h hq
        simp only [Bool.not_eq_true'] at hq
        simp only [stepK, hq, Bool.false_and, Bool.false_eq_true, if_false] at h
        repeat' (split at h)
        all_goals first
          | (cases h; done)
          | (cases h; rw [put_b, demote_b])
      | buildSlice sz n z ps =>
        rw [hk] at h hq
        simp only [Bool.not_eq_true'] at hq
        simp only [stepK, hq, Option.bind_eq_bind, Option.bind_eq_some_iff, St.putG, Bool.false_eq_true, if_false, Option.some.injEq] at h
        obtain ⟨_, _, rfl⟩ := h
        exact put_b _ _ _
      | makeSlice sz bytes z l c =>
        rw [hk] at h hq
        simp only [Bool.not_eq_true'] at hq
        simp only [stepK, hq, St.putG, Bool.false_eq_true, if_false] at h
        repeat' (split at h)
        all_goals first
          | (cases h; done)
          | (cases h; exact put_b _ _ _)
      | call f xs =>
        rw [hk] at h hq
        simp only [Bool.and_eq_true, Bool.not_eq_true', List.all_eq_true] at hq
        obtain ⟨⟨hpin, hargs⟩, hd⟩ := hq
        simp only [stepK, Option.bind_eq_bind, Option.bind_eq_some_iff] at h
        obtain ⟨vs, h1, h2⟩ := h
        unfold doCall at h2
        have hfz : frozenBy σ xs σ.b = σ.b := frozenBy_none xs _ (fun s hs id hid => by
          have := hargs s hs
          cases hx : s.1.get σ <;> rw [hx] at this hid <;> simp only [ownId] at hid <;> cases hid
          exact freeze_fz this)
        have hids : lentIds σ.b vs = [] := by
          unfold lentIds
          have : vs.flatMap refsOf = [] := by
            rw [List.flatMap_eq_nil_iff]
            intro v hv
            obtain ⟨i, hi⟩ := List.getElem?_of_mem hv
            have hlt : i < xs.length := by rw [← mapM_len2 h1]; exact (List.getElem?_eq_some_iff.1 hi).1
            obtain ⟨v', g1, g2⟩ := mapM_at2 h1 i _ (List.getElem?_eq_getElem hlt)
            rw [hi] at g1; cases g1
            exact argOf_noRef (hargs _ (List.getElem_mem hlt)) g2
          rw [this, closure_nil]
        simp only [hfz, hids, lendAll, Option.bind_eq_bind, Option.bind_some] at h2
        simp only [Option.bind_eq_some_iff] at h2
        obtain ⟨⟨r, bor'⟩, _, h3⟩ := h2
        simp only at h3
        split at h3
        · have e : giveBack (fun k => ([] : List Nat).getD k 0) [] bor' σ.b = σ.b := by simp [giveBack]
          rw [e, hpin] at h3
          cases hdd : o.dst with
          | none => rw [hdd] at hd; cases hd
          | some d =>
            rw [hdd] at hd h3
            have := putR_quiet h3 (fun p cs hbx => by
              subst hbx
              simp only [St.putR, St.newB] at h3
              split at h3
              · cases h3
                simp only [St.put, St.setB] at hd
                split at hd
                · rename_i v hv
                  rw [List.getElem?_set] at hv
                  simp only [if_true] at hv
                  split at hv
                  · cases hv; simp [isPtr] at hd
                  · cases hv
                · cases hd
              · cases h3)
            exact this
        · cases h3
      | extract x i =>
        rw [hk] at h hq
        simp only [Bool.and_eq_true, Bool.not_eq_true'] at hq
        obtain ⟨hpin, hq⟩ := hq
        simp only [stepK, hpin] at h
        split at h
        · rename_i vs hvs
          rw [hvs] at hq
          simp only at hq
          split at h
          · rename_i _ v t hvi
            rw [hvi] at hq
            split at h
            · split at h
              · have := putR_quiet h (fun p cs hbx => by subst hbx; simp at hq)
                exact this
              · simp only [Bool.false_eq_true, if_false] at h
                cases h; exact put_b _ _ _
            · cases h
          · cases h
        · cases h
      | mlook kd ok z x y =>
        rw [hk] at h hq
        simp only [stepK] at h
        split at h
        · split at h
          · split at h
            · simp only [Option.bind_eq_bind, Option.bind_eq_some_iff, Option.pure_def, Option.some.injEq] at h
              obtain ⟨r, _, rfl⟩ := h
              exact put_b _ _ _
            · cases h
          · cases h
        · cases h
      | lenM x =>
        rw [hk] at h hq
        simp only [stepK] at h
        split at h
        · split at h
          · cases h; exact put_b _ _ _
          · cases h
        · cases h
      | _ =>
        rw [hk] at hq
        exact sp (by rw [hk]; exact hq)

theorem quiet_congr {o : COp} {σ1 σ1' : St} (hb : σ'.b = σ.b ∨ slotpure o.k = true) (hr : ∀ t ∈ readsOp o, σ'.t[t]? = σ.t[t]?) (hd : ∀ d, o.dst = some d → σ1'.t[d]? = σ1.t[d]?) : quietNow σ' o σ1' = quietNow σ o σ1 := by
  unfold quietNow
  rw [guardOk_congr (fun j w hg => hr j (readsOp_guard hg))]
  have hrk : ∀ t ∈ readsK o.k, σ'.t[t]? = σ.t[t]? := fun t ht => hr t (readsOp_k ht)
  cases hk : o.k with
  | call f xs =>
    rw [hk] at hrk hb
    have hb : σ'.b = σ.b := hb.resolve_right (by simp [slotpure])
    rw [hb]
    have e : (xs.all fun s => noRefArg σ.b (s.1.get σ')) = (xs.all fun s => noRefArg σ.b (s.1.get σ)) := by
      have hc : ∀ s ∈ xs, s.1.get σ' = s.1.get σ := fun s hs => get_congr (fun t ht => hrk t (List.mem_flatMap.2 ⟨s, hs, ht⟩))
      rw [Bool.eq_iff_iff, List.all_eq_true, List.all_eq_true]
      constructor
      · intro hh c hcc; rw [← hc c hcc]; exact hh c hcc
      · intro hh c hcc; rw [hc c hcc]; exact hh c hcc
    simp only [e]
    cases hds : o.dst with
    | none => rfl
    | some d => simp only [hd d hds]
  | extract x i =>
    rw [hk] at hrk
    simp only [get_congr (s := x) hrk]
  | _ => rfl
theorem apart_spec {a b : List Nat} (h : apart a b = true) : ∀ x ∈ a, x ∉ b := by
  intro x hx hb
  have := List.all_eq_true.1 h x hx
  simp [hb] at this
theorem swap {A B : COp} {σ σ1 σ2 : St} (ha : stepOp cb nb σ A = some σ1) (hb : stepOp cb nb σ1 B = some σ2) (hs : slotsApart A B = true) (hq : slotpure A.k = true ∨ slotpure B.k = true ∨ (quietNow σ A σ1 = true ∧ quietNow σ1 B σ2 = true)) :
    ∃ σ1', stepOp cb nb σ B = some σ1' ∧ stepOp cb nb σ1' A = some σ2 ∧ quietNow σ B σ1' = quietNow σ1 B σ2 ∧ quietNow σ1' A σ2 = quietNow σ A σ1 := by
  simp only [slotsApart, Bool.and_eq_true] at hs
  have s1 := apart_spec hs.1
  have s2 := apart_spec hs.2
  have wa : ∀ k ∈ Wo A, k ∉ readsOp B ∧ k ∉ Wo B := fun k hk => by
    have := s1 k hk
    simp only [List.mem_append, not_or] at this
    exact ⟨this.1.1, fun hh => by simp only [Wo, Wk, List.mem_append] at hh; exact hh.elim this.1.2 this.2⟩
  have wb : ∀ k ∈ Wo B, k ∉ readsOp A ∧ k ∉ Wo A := fun k hk => by
    have := s2 k hk
    simp only [List.mem_append, not_or] at this
    exact ⟨this.1.1, fun hh => by simp only [Wo, Wk, List.mem_append] at hh; exact hh.elim this.1.2 this.2⟩
  -- A writes its own slots alone
  obtain ⟨_, _, oa⟩ := stepOp_over A rfl rfl (fun _ _ => rfl) ha
  obtain ⟨_, _, ob⟩ := stepOp_over B rfl rfl (fun _ _ => rfl) hb
  have rB : ∀ t ∈ readsOp B, σ.t[t]? = σ1.t[t]? := fun t ht => (oa.fr t (fun hh => (wa t hh).1 ht)).symm
  have key : ∃ σ1', stepOp cb nb σ B = some σ1' ∧ (∀ k ∈ Wo B, σ1'.t[k]? = σ2.t[k]?) ∧ (∀ k, k ∉ Wo B → σ1'.t[k]? = σ.t[k]?) ∧ σ1'.t.length = σ.t.length ∧
      ∃ σ2', stepOp cb nb σ1' A = some σ2' ∧ (∀ k ∈ Wo A, σ2'.t[k]? = σ1.t[k]?) ∧ (∀ k, k ∉ Wo A → σ2'.t[k]? = σ1'.t[k]?) ∧ σ2'.b = σ2.b ∧ (σ.b = σ1.b ∨ slotpure B.k = true) ∧ (σ1'.b = σ.b ∨ slotpure A.k = true) := by
    have viaB : ∀ σ1', stepOp cb nb σ B = some σ1' → (∀ k, k ∉ Wo B → σ1'.t[k]? = σ.t[k]?) → ∀ t ∈ readsOp A, σ1'.t[t]? = σ.t[t]? := fun σ1' _ h t ht => h t (fun hh => (wb t hh).1 ht)
    by_cases hbp : slotpure B.k = true
    · obtain ⟨v, e1, e2⟩ := stepOp_pure B hbp rB hb
      have hWB : ∀ k, B.dst = some k → k ∈ Wo B := fun k hk => mem_dst k hk
      have hl : (σ.put B.dst v).t.length = σ.t.length := put_len _ _ _
      have off : ∀ k, k ∉ Wo B → (σ.put B.dst v).t[k]? = σ.t[k]? := fun k hk => by rw [put_get, if_neg (fun h => hk (hWB k h.1))]
      refine ⟨_, e2, fun k hk => ?_, off, hl, ?_⟩
      · have hkd : B.dst = some k := by
          simp only [Wo, Wk, slotpure_takes hbp, List.nil_append] at hk
          cases hd : B.dst with
          | none => rw [hd] at hk; simp at hk
          | some d => rw [hd] at hk; simp at hk; rw [hk]
        rw [e1, put_get, put_get, oa.len]
        by_cases hlt : k < σ.t.length
        · rw [if_pos ⟨hkd, hlt⟩, if_pos ⟨hkd, hlt⟩]
        · rw [if_neg (fun h => hlt h.2), if_neg (fun h => hlt h.2), List.getElem?_eq_none (by omega), List.getElem?_eq_none (by rw [oa.len]; omega)]
      · obtain ⟨σ2', f1, f2⟩ := stepOp_over A (σ' := σ.put B.dst v) hl (put_b _ _ _) (viaB _ e2 off) ha
        exact ⟨σ2', f1, f2.on, f2.off, by rw [f2.b, e1, put_b], .inr hbp, .inl (put_b _ _ _)⟩
    · by_cases hap : slotpure A.k = true
      · obtain ⟨v, e1, _⟩ := stepOp_pure A hap (fun _ _ => rfl) ha
        have hb1 : σ.b = σ1.b := by rw [e1, put_b]
        obtain ⟨σ1', f1, f2⟩ := stepOp_over B (σ' := σ) oa.len.symm hb1 rB hb
        have hl : σ1'.t.length = σ.t.length := f2.len'
        refine ⟨σ1', f1, f2.on, f2.off, hl, ?_⟩
        obtain ⟨v', e3, e4⟩ := stepOp_pure A (σ' := σ1') hap (viaB _ f1 f2.off) ha
        refine ⟨_, e4, fun k hk => ?_, fun k hk => ?_, by rw [put_b, f2.b], .inl hb1, .inr hap⟩
        · have hkd : A.dst = some k := by
            simp only [Wo, Wk, slotpure_takes hap, List.nil_append] at hk
            cases hd : A.dst with
            | none => rw [hd] at hk; simp at hk
            | some d => rw [hd] at hk; simp at hk; rw [hk]
          rw [e3, put_get, put_get, hl]
          by_cases hlt : k < σ.t.length
          · rw [if_pos ⟨hkd, hlt⟩, if_pos ⟨hkd, hlt⟩]
          · rw [if_neg (fun h => hlt h.2), if_neg (fun h => hlt h.2), List.getElem?_eq_none (by omega), List.getElem?_eq_none (by omega)]
        · rw [put_get, if_neg (fun h => hk (mem_dst k h.1))]
      · have hq : quietNow σ A σ1 = true ∧ quietNow σ1 B σ2 = true := by
          rcases hq with h | h | h
          · exact absurd h hap
          · exact absurd h hbp
          · exact h
        have hb1 := quiet_b ha hq.1
        have hb2 := quiet_b hb hq.2
        obtain ⟨σ1', f1, f2⟩ := stepOp_over B (σ' := σ) oa.len.symm hb1.symm rB hb
        refine ⟨σ1', f1, f2.on, f2.off, f2.len', ?_⟩
        obtain ⟨σ2', g1, g2⟩ := stepOp_over A (σ' := σ1') f2.len' (by rw [f2.b, hb2, hb1]) (viaB _ f1 f2.off) ha
        exact ⟨σ2', g1, g2.on, g2.off, by rw [g2.b, hb2], .inl hb1.symm, .inl (by rw [f2.b, hb2, hb1])⟩
  obtain ⟨σ1', k1, k2, k3, k4, σ2', k5, k6, k7, k8, k9, k10⟩ := key
  have e : σ2' = σ2 := by
    have et : σ2'.t = σ2.t := by
      apply List.ext_getElem?
      intro k
      by_cases hA : k ∈ Wo A
      · rw [k6 k hA, ob.fr k (wa k hA).2]
      · rw [k7 k hA]
        by_cases hB : k ∈ Wo B
        · rw [k2 k hB]
        · rw [k3 k hB, ob.fr k hB, oa.fr k hA]
    cases σ2'; cases σ2; simp only at et k8; rw [et, k8]
  subst e
  refine ⟨σ1', k1, k5, quiet_congr k9 rB (fun d hd => k2 d (mem_dst d hd)), quiet_congr k10 (fun t ht => k3 t (fun hh => (wb t hh).1 ht)) (fun d hd => k6 d (mem_dst d hd))⟩
end Go.Proofs.Ytoeobffjdbdpgaa
