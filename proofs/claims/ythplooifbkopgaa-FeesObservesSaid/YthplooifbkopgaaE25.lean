/- Two operations that do not meet may change places. -/
import Derived.Test.YthplooifbkopgaaE21
namespace Go.Proofs.Ythplooifbkopgaa
set_option linter.unusedVariables false
set_option linter.unusedSimpArgs false

/-- the slots that an operation writes -/
def Wk (k : K) (d : Option Nat) : List Nat := takesK k ++ d.toList
theorem mem_dst {k : K} {d : Option Nat} (i : Nat) (h : d = some i) : i ∈ Wk k d := by subst h; simp [Wk]
theorem Wk_takes {k : K} {d : Option Nat} {i : Nat} (h : i ∈ Wk k d) (hd : d ≠ some i) : i ∈ takesK k := by
  simp only [Wk, List.mem_append] at h
  rcases h with h | h
  · exact h
  · cases d with
    | none => simp at h
    | some j => simp at h; subst h; exact absurd rfl hd
theorem takes_reads {k : K} {i : Nat} (h : i ∈ takesK k) : i ∈ readsK k := by
  unfold takesK at h
  split at h <;> simp_all [readsK]
theorem over_setB {W : List Nat} {σ σ' : St} (id : Nat) (x : B) (hb : σ'.b = σ.b) (hW : ∀ k ∈ W, σ'.t[k]? = σ.t[k]?) : Over W σ (σ.setB id x) σ' (σ'.setB id x) :=
  ⟨by simp [St.setB, hb], hW, fun _ _ => rfl, fun _ _ => rfl, rfl, rfl⟩
theorem over_setput {W : List Nat} {σ σ' : St} {d : Option Nat} (id : Nat) (x : B) (v : V) (hl : σ'.t.length = σ.t.length) (hb : σ'.b = σ.b) (hd : ∀ k, d = some k → k ∈ W) (hW : ∀ k ∈ W, d ≠ some k → σ'.t[k]? = σ.t[k]?) : Over W σ ((σ.setB id x).put d v) σ' ((σ'.setB id x).put d v) := by
  have q := over_put (W := W) (σ := σ.setB id x) (σ' := σ'.setB id x) (d := d) v hl (by simp [St.setB, hb]) hd hW
  exact ⟨q.b, q.on, q.off, q.fr, q.len, q.len'⟩
theorem demote_take {σ σ' : St} {s : Src} (hr : ∀ t ∈ s.tmps, σ'.t[t]? = σ.t[t]?) : ∀ t ∈ s.tmps, (σ'.demote s).t[t]? = (σ.demote s).t[t]? := by
  intro t ht
  rw [demote_get, demote_get, if_pos ht, if_pos ht, hr t ht]
theorem demote_off {σ : St} {s : Src} {k : Nat} (h : k ∉ s.tmps) : (σ.demote s).t[k]? = σ.t[k]? := by rw [demote_get, if_neg h]
variable {cb : CB} {nb : Nat} {σ σ' σ1 : St} {d : Option Nat} {pin : Bool}
theorem stepK_over (k : K) (hl : σ'.t.length = σ.t.length) (hb : σ'.b = σ.b) (hr : ∀ t ∈ readsK k, σ'.t[t]? = σ.t[t]?) (h : stepK cb nb σ d pin k = some σ1) :
    ∃ σ1', stepK cb nb σ' d pin k = some σ1' ∧ Over (Wk k d) σ σ1 σ' σ1' := by
  have hW : ∀ i ∈ Wk k d, d ≠ some i → σ'.t[i]? = σ.t[i]? := fun i hi hd => hr i (takes_reads (Wk_takes hi hd))
  have pure : (pureK σ k).map (fun v => σ.put d v) = some σ1 → ∃ σ1', (pureK σ' k).map (fun v => σ'.put d v) = some σ1' ∧ Over (Wk k d) σ σ1 σ' σ1' := by
    intro h
    rw [Option.map_eq_some_iff] at h
    obtain ⟨v, h1, rfl⟩ := h
    rw [pureK_congr k hr (.inl hb), h1]
    exact ⟨_, rfl, over_put v hl hb mem_dst hW⟩
  cases k with
  | move x take =>
    simp only [readsK] at hr
    simp only [stepK, get_congr hr] at h ⊢
    split at h
    · cases h
    · rename_i hp
      rw [if_neg hp]
      split at h
      · rename_i ht
        subst ht
        cases h
        rw [if_pos rfl]
        exact ⟨_, rfl, (over_put _ (by simpa [demote_len] using hl) (by simpa [demote_b] using hb) mem_dst (fun i hi hd => demote_take hr i (by simpa [takesK] using Wk_takes hi hd))).shift
          (fun i hi => demote_off (fun hh => hi (by simp [Wk, takesK, hh]))) (fun i hi => demote_off (fun hh => hi (by simp [Wk, takesK, hh]))) (demote_len _ _) (demote_len _ _)⟩
      · rename_i ht
        cases h
        rw [if_neg ht]
        exact ⟨_, rfl, over_put _ hl hb mem_dst hW⟩
  | alloc p cs => simp only [stepK] at h ⊢; exact newB_over hl hb mem_dst hW h
  | box p x =>
    simp only [readsK] at hr
    simp only [stepK, get_congr hr] at h ⊢
    split at h
    · split at h
      · cases h
      · rename_i hp; rw [if_neg hp]; exact newB_over hl hb mem_dst hW h
    · split at h
      · exact newB_over hl hb mem_dst hW h
      · cases h
  | buildSlice sz n z ps =>
    simp only [readsK] at hr
    simp only [stepK, fillParts_congr ps _ hr, Option.bind_eq_bind, Option.bind_eq_some_iff] at h ⊢
    obtain ⟨cs, h1, h2⟩ := h
    obtain ⟨σ1', e1, e2⟩ := putG_over (W := Wk (.buildSlice sz n z ps) d) hl hb mem_dst hW h2
    exact ⟨σ1', ⟨cs, h1, e1⟩, e2⟩
  | load agg n x take =>
    simp only [readsK] at hr
    simp only [stepK, get_congr hr, hb] at h ⊢
    have put : ∀ v, some (σ.put d v) = some σ1 → ∃ σ1', some (σ'.put d v) = some σ1' ∧ Over (Wk (.load agg n x take) d) σ σ1 σ' σ1' := by
      intro v h; cases h; exact ⟨_, rfl, over_put v hl hb mem_dst hW⟩
    split at h
    · split at h
      · split at h
        · rename_i ha
          rw [if_pos ha]
          split at h
          · rename_i hc
            rw [if_pos hc]
            split at h
            · rename_i hp; rw [if_pos hp]; exact put _ h
            · rename_i hp; rw [if_neg hp]
              split at h
              · rename_i ht; rw [if_pos ht]
                simp only [Option.bind_eq_bind, Option.bind_eq_some_iff] at h ⊢
                obtain ⟨vs, h1, h2⟩ := h
                obtain ⟨σ1', e1, e2⟩ := put _ h2
                exact ⟨σ1', ⟨vs, h1, e1⟩, e2⟩
              · rename_i ht; rw [if_neg ht]
                simp only [Option.bind_eq_bind, Option.bind_eq_some_iff] at h ⊢
                obtain ⟨vs, h1, h2⟩ := h
                obtain ⟨σ1', e1, e2⟩ := put _ h2
                exact ⟨σ1', ⟨vs, h1, e1⟩, e2⟩
          · cases h
        · rename_i ha
          rw [if_neg ha]
          split at h
          · split at h
            · rename_i ht; rw [if_pos ht]
              split at h
              · cases h
              · rename_i hp; rw [if_neg hp]; cases h
                exact ⟨_, rfl, over_setput _ _ _ hl hb mem_dst hW⟩
            · rename_i ht; rw [if_neg ht]; exact put _ h
          · cases h
      · split at h
        · rename_i ha
          rw [if_pos ha]
          split at h
          · rename_i hc; rw [if_pos hc]; exact put _ h
          · cases h
        · rename_i ha
          rw [if_neg ha]
          split at h
          · exact put _ h
          · cases h
      · cases h
    · split at h
      · rename_i ha
        rw [if_pos ha]
        split at h
        · rename_i hc; rw [if_pos hc]; exact put _ h
        · cases h
      · rename_i ha
        rw [if_neg ha]
        split at h
        · exact put _ h
        · cases h
    · cases h
  | store n x y =>
    simp only [readsK] at hr
    have hr1 : ∀ t ∈ x.tmps, σ'.t[t]? = σ.t[t]? := fun t ht => hr t (by simp [ht])
    have hr2 : ∀ t ∈ y.tmps, σ'.t[t]? = σ.t[t]? := fun t ht => hr t (by simp [ht])
    simp only [stepK, get_congr hr1, get_congr hr2, hb] at h ⊢
    split at h
    · cases h
    · rename_i hd
      rw [if_neg hd]
      have hd : d = none := by cases d with | none => rfl | some d => simp at hd
      subst hd
      have hWW : ∀ i ∈ Wk (.store n x y) none, σ'.t[i]? = σ.t[i]? := fun i hi => hW i hi (by simp)
      split at h
      · split at h
        · simp only [Option.bind_eq_bind, Option.bind_eq_some_iff] at h ⊢
          obtain ⟨v, h1, h2⟩ := h
          split at h2
          · rename_i hc
            cases h2
            exact ⟨_, ⟨v, h1, by rw [if_pos hc]⟩, over_setB _ _ hb hWW⟩
          · cases h2
        · split at h
          · split at h
            · rename_i hc; cases h; rw [if_pos hc]; exact ⟨_, rfl, over_setB _ _ hb hWW⟩
            · cases h
          · split at h
            · rename_i hc; cases h; rw [if_pos hc]; exact ⟨_, rfl, over_setB _ _ hb hWW⟩
            · cases h
          · cases h
          · cases h
          · cases h
          · cases h
          · split at h
            · rename_i hc; cases h; rw [if_pos hc]
              refine ⟨_, rfl, (over_setB (σ := σ.demote y) (σ' := σ'.demote y) _ _ (by simpa [demote_b] using hb) (fun i hi => demote_take hr2 i (by simpa [Wk, takesK] using hi))).shift
                (fun i hi => demote_off (fun hh => hi (by simp [Wk, takesK, hh]))) (fun i hi => demote_off (fun hh => hi (by simp [Wk, takesK, hh]))) (demote_len _ _) (demote_len _ _)⟩
            · cases h
        · cases h
      · cases h
  | makeSlice sz bytes z l c =>
    simp only [readsK] at hr
    simp only [stepK, get_congr (s := l) (fun t ht => hr t (by simp [ht])), get_congr (s := c) (fun t ht => hr t (by simp [ht]))] at h ⊢
    split at h
    · split at h
      · rename_i hc; rw [if_pos hc]; exact putG_over hl hb mem_dst hW h
      · cases h
    · cases h
  | append sz bytes s x =>
    simp only [readsK] at hr
    have hr1 : ∀ t ∈ s.tmps, σ'.t[t]? = σ.t[t]? := fun t ht => hr t (by simp [ht])
    simp only [stepK, get_congr hr1, get_congr (s := x) (fun t ht => hr t (by simp [ht])), hb] at h ⊢
    split at h
    · split at h
      · rename_i hc; rw [if_pos hc]
        split at h
        · rename_i hp; rw [if_pos hp]
          split at h
          · exact putG_over hl hb mem_dst hW h
          · cases h
        · rename_i hp; rw [if_neg hp]; cases h
          exact ⟨_, rfl, (over_put _ (by simpa [demote_len] using hl) (by simpa [demote_b] using hb) mem_dst (fun i hi hd => demote_take hr1 i (by simpa [takesK] using Wk_takes hi hd))).shift
            (fun i hi => demote_off (fun hh => hi (by simp [Wk, takesK, hh]))) (fun i hi => demote_off (fun hh => hi (by simp [Wk, takesK, hh]))) (demote_len _ _) (demote_len _ _)⟩
      · cases h
    · split at h
      · rename_i hc; rw [if_pos hc]
        obtain ⟨σ1', e1, e2⟩ := putG_over (W := Wk (.append sz bytes s x) d) (by simpa [demote_len] using hl) (by simpa [demote_b] using hb) mem_dst (fun i hi hd => demote_take hr1 i (by simpa [takesK] using Wk_takes hi hd)) h
        exact ⟨σ1', e1, e2.shift (fun i hi => demote_off (fun hh => hi (by simp [Wk, takesK, hh]))) (fun i hi => demote_off (fun hh => hi (by simp [Wk, takesK, hh]))) (demote_len _ _) (demote_len _ _)⟩
      · cases h
    · split at h
      · split at h
        · rename_i id off len sz1 sz2 es2 _ _ _ cs _ hc; rw [if_pos hc]
          obtain ⟨σ1', e1, e2⟩ := newB_over (W := Wk (.append sz bytes s x) d) (σ := σ.setB id (.dead cs.length)) (σ' := σ'.setB id (.dead cs.length)) hl (by simp [St.setB, hb]) mem_dst hW h
          exact ⟨σ1', e1, e2.shift (fun _ _ => rfl) (fun _ _ => rfl) rfl rfl⟩
        · cases h
      · cases h
    · cases h
  | clear sz z x =>
    simp only [readsK] at hr
    simp only [stepK, get_congr hr, hb] at h ⊢
    split at h
    · split at h
      · split at h
        · rename_i hc; rw [if_pos hc]; cases h
          exact ⟨_, rfl, over_setput _ _ _ hl hb mem_dst hW⟩
        · cases h
      · cases h
    · cases h
  | appendZ sz bytes z s x =>
    simp only [readsK] at hr
    have hr1 : ∀ t ∈ s.tmps, σ'.t[t]? = σ.t[t]? := fun t ht => hr t (by simp [ht])
    simp only [stepK, get_congr hr1, get_congr (s := x) (fun t ht => hr t (by simp [ht]))] at h ⊢
    split at h
    · split at h
      · rename_i hc; rw [if_pos hc]
        split at h
        · cases h
        · rename_i hp; rw [if_neg hp]
          obtain ⟨σ1', e1, e2⟩ := putG_over (W := Wk (.appendZ sz bytes z s x) d) (by simpa [demote_len] using hl) (by simpa [demote_b] using hb) mem_dst (fun i hi hd => demote_take hr1 i (by simpa [takesK] using Wk_takes hi hd)) h
          exact ⟨σ1', e1, e2.shift (fun i hi => demote_off (fun hh => hi (by simp [Wk, takesK, hh]))) (fun i hi => demote_off (fun hh => hi (by simp [Wk, takesK, hh]))) (demote_len _ _) (demote_len _ _)⟩
      · cases h
    · cases h
  | copy sz x y =>
    simp only [readsK] at hr
    simp only [stepK, get_congr (s := x) (fun t ht => hr t (by simp [ht])), get_congr (s := y) (fun t ht => hr t (by simp [ht])), hb] at h ⊢
    split at h
    · split at h
      · split at h
        · rename_i hc; rw [if_pos hc]; cases h
          exact ⟨_, rfl, over_setput _ _ _ hl hb mem_dst hW⟩
        · cases h
      · cases h
    · cases h
  | extract x i =>
    simp only [readsK] at hr
    simp only [stepK, get_congr hr] at h ⊢
    split at h
    · rename_i vs hvs
      split at h
      · rename_i _ v t hvi
        split at h
        · rename_i hc
          rw [if_pos hc]
          split at h
          · rename_i hh; rw [if_pos hh]
            have hx : σ'.t[t]? = σ.t[t]? := hr t (by simp [Src.tmps])
            obtain ⟨σ1', e1, e2⟩ := putR_over (W := Wk (.extract (.tmp t) i) d) (σ := { σ with t := σ.t.set t (.tup (vs.set i .junk)) }) (σ' := { σ' with t := σ'.t.set t (.tup (vs.set i .junk)) }) (by simpa using hl) hb mem_dst (fun j hj hd => by
              have hj := Wk_takes hj hd
              simp [takesK, Src.tmps] at hj
              subst hj
              simp only [List.getElem?_set_self', hx]) h
            refine ⟨σ1', e1, e2.shift (fun j hj => ?_) (fun j hj => ?_) (by simp) (by simp)⟩ <;>
              (have hne : ¬ t = j := fun e => hj (by simp [Wk, takesK, Src.tmps, e])
               simp [List.getElem?_set, hne])
          · rename_i hh; rw [if_neg hh]
            split at h
            · cases h
            · rename_i hp; rw [if_neg hp]; cases h; exact ⟨_, rfl, over_put _ hl hb mem_dst hW⟩
        · cases h
      · cases h
    · cases h
  | call f xs ys =>
    simp only [readsK] at hr
    simp only [stepK, Option.bind_eq_bind, Option.bind_eq_some_iff] at h ⊢
    obtain ⟨vs, h1, h2⟩ := h
    obtain ⟨σ1', e1, e2⟩ := doCall_over (W := Wk (.call f xs ys) d) hl hb hr mem_dst hW h2
    exact ⟨σ1', ⟨vs, by rw [mapM_congr' xs (fun s hs => argOf_congr hb (fun t ht => hr t (List.mem_flatMap.2 ⟨s, hs, ht⟩)))]; exact h1, e1⟩, e2⟩
  | callv f xs ys =>
    simp only [readsK] at hr
    have hr2 : ∀ t ∈ xs.flatMap (fun p => p.1.tmps), σ'.t[t]? = σ.t[t]? := fun t ht => hr t (List.mem_append_right _ ht)
    simp only [stepK, get_congr (s := f) (fun t ht => hr t (by simp [ht]))] at h ⊢
    split at h
    · simp only [Option.bind_eq_bind, Option.bind_eq_some_iff] at h ⊢
      obtain ⟨vs, h1, h2⟩ := h
      obtain ⟨σ1', e1, e2⟩ := doCall_over (W := Wk (.callv f xs ys) d) hl hb hr2 mem_dst hW h2
      exact ⟨σ1', ⟨vs, by rw [mapM_congr' xs (fun s hs => argOf_congr hb (fun t ht => hr2 t (List.mem_flatMap.2 ⟨s, hs, ht⟩)))]; exact h1, e1⟩, e2⟩
    · cases h
  | makeMap => simp only [stepK] at h ⊢; exact newB_over hl hb mem_dst hW h
  | nilS sz id =>
    simp only [stepK, hb] at h ⊢
    split at h
    · rename_i hg
      cases h
      exact ⟨_, rfl, over_setput _ _ _ hl hb mem_dst hW⟩
    · cases h
  | mlook kd ok z x y =>
    simp only [readsK] at hr
    simp only [stepK, get_congr (s := x) (fun t ht => hr t (by simp [ht])), get_congr (s := y) (fun t ht => hr t (by simp [ht])), hb] at h ⊢
    split at h
    · split at h
      · split at h
        · rename_i hc; rw [if_pos hc]
          simp only [Option.bind_eq_bind, Option.bind_eq_some_iff, Option.pure_def, Option.some.injEq] at h ⊢
          obtain ⟨r, h1, rfl⟩ := h
          exact ⟨_, ⟨r, h1, rfl⟩, over_put _ hl hb mem_dst hW⟩
        · cases h
      · cases h
    · cases h
  | mput kd x y z =>
    simp only [readsK] at hr
    simp only [stepK, get_congr (s := x) (fun t ht => hr t (by simp [ht])), get_congr (s := y) (fun t ht => hr t (by simp [ht])), get_congr (s := z) (fun t ht => hr t (by simp [ht])), hb] at h ⊢
    split at h
    · cases h
    · rename_i hdst
      rw [if_neg hdst]
      split at h
      · split at h
        · split at h
          · rename_i hc; rw [if_pos hc]
            simp only [Option.bind_eq_bind, Option.bind_eq_some_iff, Option.pure_def, Option.some.injEq] at h ⊢
            obtain ⟨v, h1, es', h2, rfl⟩ := h
            refine ⟨_, ⟨v, h1, es', h2, rfl⟩, over_setB _ _ hb (fun i hi => ?_)⟩
            by_cases hd : d = some i
            · simp [hd] at hdst
            · exact hW i hi hd
          · cases h
        · cases h
      · cases h
  | lenM x =>
    simp only [readsK] at hr
    simp only [stepK, get_congr hr, hb] at h ⊢
    split at h
    · split at h
      · cases h; exact ⟨_, rfl, over_put _ hl hb mem_dst hW⟩
      · cases h
    · cases h
  | _ => exact pure h
end Go.Proofs.Ythplooifbkopgaa
