/- An operation looks at its own slots alone. -/
import Derived.Test.YthplooifbkopgaaE2
namespace Go.Proofs.Ythplooifbkopgaa
set_option linter.unusedVariables false
set_option linter.unusedSimpArgs false

theorem get_congr {σ σ' : St} {s : Src} (h : ∀ t ∈ s.tmps, σ'.t[t]? = σ.t[t]?) : s.get σ' = s.get σ := by
  cases s with
  | const v => rfl
  | tmp t => simp only [Src.get, List.getD_eq_getElem?_getD]; rw [h t (by simp [Src.tmps])]
theorem fillParts_congr {σ σ' : St} : ∀ (ps : List (Nat × Nat × Src)) (cs : List V), (∀ t ∈ ps.flatMap (fun p => p.2.2.tmps), σ'.t[t]? = σ.t[t]?) → fillParts σ' ps cs = fillParts σ ps cs
  | [], cs, h => rfl
  | (off, n, x) :: ps, cs, h => by
    have h1 : x.get σ' = x.get σ := get_congr (fun t ht => h t (by simp [ht]))
    have h2 : ∀ cs, fillParts σ' ps cs = fillParts σ ps cs := fun cs => fillParts_congr ps cs (fun t ht => h t (by simp only [List.flatMap_cons, List.mem_append]; exact .inr ht))
    simp only [fillParts, h1, h2]
theorem fillRefs_congr {σ σ' : St} : ∀ (ps : List (Nat × Nat × Src)) (cs : List V), (∀ t ∈ ps.flatMap (fun p => p.2.2.tmps), σ'.t[t]? = σ.t[t]?) → fillRefs σ' ps cs = fillRefs σ ps cs
  | [], cs, h => rfl
  | (off, n, x) :: ps, cs, h => by
    have h1 : x.get σ' = x.get σ := get_congr (fun t ht => h t (by simp [ht]))
    have h2 : ∀ cs, fillRefs σ' ps cs = fillRefs σ ps cs := fun cs => fillRefs_congr ps cs (fun t ht => h t (by simp only [List.flatMap_cons, List.mem_append]; exact .inr ht))
    simp only [fillRefs, h1, h2]
theorem bound_congr {σ σ' : St} {x : Option Src} (h : ∀ t ∈ Src.tmpsO x, σ'.t[t]? = σ.t[t]?) (d m : Nat) : bound σ' x d m = bound σ x d m := by
  cases x with
  | none => rfl
  | some s => simp only [bound]; rw [get_congr (s := s) h]
theorem bounds_congr {σ σ' : St} {l h m : Option Src} (hh : ∀ t ∈ Src.tmpsO l ++ Src.tmpsO h ++ Src.tmpsO m, σ'.t[t]? = σ.t[t]?) (len : Nat) : bounds σ' len l h m = bounds σ len l h m := by
  simp only [bounds]
  simp only [bound_congr (x := m) (fun t ht => hh t (by simp [ht])), bound_congr (x := h) (fun t ht => hh t (by simp [ht])), bound_congr (x := l) (fun t ht => hh t (by simp [ht]))]
/-- a value that is computed from slots, and perhaps memory -/
theorem pureK_congr {σ σ' : St} (k : K) (h : ∀ t ∈ readsK k, σ'.t[t]? = σ.t[t]?) (hb : σ'.b = σ.b ∨ slotpure k = true) : pureK σ' k = pureK σ k := by
  cases k with
  | pick c a b =>
    simp only [readsK] at h
    simp only [pureK, get_congr (s := c) (fun t ht => h t (by simp [ht])), get_congr (s := a) (fun t ht => h t (by simp [ht])), get_congr (s := b) (fun t ht => h t (by simp [ht]))]
  | build z ps => simp only [readsK] at h; simp only [pureK, fillParts_congr ps z h]
  | buildSt z ps => simp only [readsK] at h; simp only [pureK, fillRefs_congr ps z h]
  | nilCheck x => simp only [readsK] at h; simp only [pureK, get_congr h]
  | bin op x y =>
    simp only [readsK] at h
    simp only [pureK, get_congr (s := x) (fun t ht => h t (by simp [ht])), get_congr (s := y) (fun t ht => h t (by simp [ht]))]
  | eqAgg n m x y =>
    simp only [readsK] at h
    simp only [pureK, get_congr (s := x) (fun t ht => h t (by simp [ht])), get_congr (s := y) (fun t ht => h t (by simp [ht]))]
  | nilT n x => simp only [readsK] at h; simp only [pureK, get_congr h]
  | eqB n x y =>
    simp only [readsK] at h
    simp only [pureK, get_congr (s := x) (fun t ht => h t (by simp [ht])), get_congr (s := y) (fun t ht => h t (by simp [ht]))]
  | un op x => simp only [readsK] at h; simp only [pureK, get_congr h]
  | conv k x => simp only [readsK] at h; simp only [pureK, get_congr h]
  | toStr x =>
    simp only [readsK] at h
    rcases hb with hb | hb
    · simp only [pureK, get_congr h, hb]
    · simp [slotpure] at hb
  | cmpB x y =>
    simp only [readsK] at h
    rcases hb with hb | hb
    · simp only [pureK, get_congr (s := x) (fun t ht => h t (by simp [ht])), get_congr (s := y) (fun t ht => h t (by simp [ht])), hb]
    · simp [slotpure] at hb
  | sliceA n sz x l hh m =>
    simp only [readsK] at h
    rcases hb with hb | hb
    · simp only [pureK, get_congr (s := x) (fun t ht => h t (by simp [ht])), bounds_congr (l := l) (h := hh) (m := m) (fun t ht => h t (by simp only [List.mem_append] at ht ⊢; grind)), hb]
    · simp [slotpure] at hb
  | sliceS sz x l hh m =>
    simp only [readsK] at h
    simp only [pureK, get_congr (s := x) (fun t ht => h t (by simp [ht])), bounds_congr (l := l) (h := hh) (m := m) (fun t ht => h t (by simp only [List.mem_append] at ht ⊢; grind))]
  | fieldAddr o x => simp only [readsK] at h; simp only [pureK, get_congr h]
  | field a o n x => simp only [readsK] at h; simp only [pureK, get_congr h]
  | indexAddrA l sz x i =>
    simp only [readsK] at h
    simp only [pureK, get_congr (s := x) (fun t ht => h t (by simp [ht])), get_congr (s := i) (fun t ht => h t (by simp [ht]))]
  | indexAddrS sz x i =>
    simp only [readsK] at h
    simp only [pureK, get_congr (s := x) (fun t ht => h t (by simp [ht])), get_congr (s := i) (fun t ht => h t (by simp [ht]))]
  | indexA a l sz x i =>
    simp only [readsK] at h
    simp only [pureK, get_congr (s := x) (fun t ht => h t (by simp [ht])), get_congr (s := i) (fun t ht => h t (by simp [ht]))]
  | lenS x => simp only [readsK] at h; simp only [pureK, get_congr h]
  | lenT x => simp only [readsK] at h; simp only [pureK, get_congr h]
  | lenA n => rfl
  | pull x i => simp only [readsK] at h; simp only [pureK, get_congr h]
  | mm b x y =>
    simp only [readsK] at h
    simp only [pureK, get_congr (s := x) (fun t ht => h t (by simp [ht])), get_congr (s := y) (fun t ht => h t (by simp [ht]))]
  | makeFunc f caps =>
    simp only [readsK] at h
    have hc : ∀ c ∈ caps, c.get σ' = c.get σ := fun c hc => get_congr (fun t ht => h t (List.mem_flatMap.2 ⟨c, hc, ht⟩))
    have e1 : caps.map (fun c => c.get σ') = caps.map (fun c => c.get σ) := List.map_congr_left hc
    have e2 : (caps.all fun c => isPtr (c.get σ')) = (caps.all fun c => isPtr (c.get σ)) := by
      rw [Bool.eq_iff_iff, List.all_eq_true, List.all_eq_true]
      constructor
      · intro hh c hcc; rw [← hc c hcc]; exact hh c hcc
      · intro hh c hcc; rw [hc c hcc]; exact hh c hcc
    simp only [pureK, e1, e2]
  | _ => rfl

/-- σ1' is σ1 on the slots W, and σ' elsewhere; σ1 is σ outside of W -/
structure Over (W : List Nat) (σ σ1 σ' σ1' : St) : Prop where
  b : σ1'.b = σ1.b
  on : ∀ k ∈ W, σ1'.t[k]? = σ1.t[k]?
  off : ∀ k, k ∉ W → σ1'.t[k]? = σ'.t[k]?
  fr : ∀ k, k ∉ W → σ1.t[k]? = σ.t[k]?
  len : σ1.t.length = σ.t.length
  len' : σ1'.t.length = σ'.t.length
theorem put_get (σ : St) (d : Option Nat) (v : V) (k : Nat) : (σ.put d v).t[k]? = if d = some k ∧ k < σ.t.length then some v else σ.t[k]? := by
  cases d with
  | none => simp [St.put]
  | some d =>
    simp only [St.put, List.getElem?_set]
    by_cases h : d = k
    · subst h
      by_cases h2 : d < σ.t.length
      · simp [h2]
      · simp [h2]
    · simp [h]
theorem put_b (σ : St) (d : Option Nat) (v : V) : (σ.put d v).b = σ.b := by cases d <;> rfl
theorem put_len (σ : St) (d : Option Nat) (v : V) : (σ.put d v).t.length = σ.t.length := by cases d <;> simp [St.put]
theorem demote_get (σ : St) (s : Src) (k : Nat) : (σ.demote s).t[k]? = if k ∈ s.tmps then (σ.t[k]?).map V.dem else σ.t[k]? := by
  cases s with
  | const v => simp [St.demote, Src.tmps]
  | tmp t =>
    simp only [St.demote, Src.tmps, List.mem_singleton, List.getElem?_modify]
    by_cases h : k = t
    · subst h; simp
    · have : ¬ t = k := fun e => h e.symm
      simp [h, this]
theorem demote_b (σ : St) (s : Src) : (σ.demote s).b = σ.b := by cases s <;> rfl
theorem demote_len (σ : St) (s : Src) : (σ.demote s).t.length = σ.t.length := by cases s <;> simp [St.demote]
/-- a put -/
theorem over_put {W : List Nat} {σ σ' : St} {d : Option Nat} (v : V) (hl : σ'.t.length = σ.t.length) (hb : σ'.b = σ.b) (hd : ∀ k, d = some k → k ∈ W) (hW : ∀ k ∈ W, d ≠ some k → σ'.t[k]? = σ.t[k]?) : Over W σ (σ.put d v) σ' (σ'.put d v) := by
  refine ⟨by rw [put_b, put_b, hb], fun k hk => ?_, fun k hk => ?_, fun k hk => ?_, put_len _ _ _, put_len _ _ _⟩
  · rw [put_get, put_get, hl]
    by_cases h : d = some k ∧ k < σ.t.length
    · rw [if_pos h, if_pos h]
    · rw [if_neg h, if_neg h]
      by_cases h2 : d = some k
      · have : ¬ k < σ.t.length := fun h3 => h ⟨h2, h3⟩
        rw [List.getElem?_eq_none (by omega), List.getElem?_eq_none (by omega)]
      · exact hW k hk h2
  · rw [put_get, if_neg (fun h => hk (hd k h.1))]
  · rw [put_get, if_neg (fun h => hk (hd k h.1))]
theorem newB_over {W : List Nat} {σ σ' σ1 : St} {nb : Nat} {d : Option Nat} {x : B} {f : Nat → V} (hl : σ'.t.length = σ.t.length) (hb : σ'.b = σ.b) (hd : ∀ k, d = some k → k ∈ W) (hW : ∀ k ∈ W, d ≠ some k → σ'.t[k]? = σ.t[k]?) (h : σ.newB nb d x f = some σ1) : ∃ σ1', σ'.newB nb d x f = some σ1' ∧ Over W σ σ1 σ' σ1' := by
  cases d with
  | none => simp [St.newB] at h
  | some d =>
    have hg' : σ'.b[nb + d]? = σ.b[nb + d]? := by rw [hb]
    rcases hg : σ.b[nb + d]? with _ | x'
    · simp only [St.newB, hg] at h; cases h
    · cases x' with
      | gone =>
        simp only [St.newB, hg] at h
        rw [hg] at hg'
        simp only [St.newB, hg']
        cases h
        refine ⟨_, rfl, ?_⟩
        have q := over_put (W := W) (σ := σ.setB (nb + d) x) (σ' := σ'.setB (nb + d) x) (d := some d) (f (nb + d)) hl (by simp [St.setB, hb]) hd hW
        exact ⟨q.b, q.on, q.off, q.fr, q.len, q.len'⟩
      | live p cs => simp only [St.newB, hg] at h; cases h
      | fz cs => simp only [St.newB, hg] at h; cases h
      | mp es => simp only [St.newB, hg] at h; cases h
      | dead n => simp only [St.newB, hg] at h; cases h
theorem putG_over {W : List Nat} {σ σ' σ1 : St} {nb : Nat} {d : Option Nat} {pin : Bool} {sz : Nat} {es : List (List V)} (hl : σ'.t.length = σ.t.length) (hb : σ'.b = σ.b) (hd : ∀ k, d = some k → k ∈ W) (hW : ∀ k ∈ W, d ≠ some k → σ'.t[k]? = σ.t[k]?) (h : σ.putG nb d pin sz es = some σ1) : ∃ σ1', σ'.putG nb d pin sz es = some σ1' ∧ Over W σ σ1 σ' σ1' := by
  unfold St.putG at h ⊢
  split at h
  · rename_i hp; simp only [hp, if_true]; exact newB_over hl hb hd hW h
  · rename_i hp; cases h; simp only [hp]; exact ⟨_, rfl, over_put _ hl hb hd hW⟩
theorem putR_over {W : List Nat} {σ σ' σ1 : St} {nb : Nat} {d : Option Nat} {pin : Bool} {v : V} (hl : σ'.t.length = σ.t.length) (hb : σ'.b = σ.b) (hd : ∀ k, d = some k → k ∈ W) (hW : ∀ k ∈ W, d ≠ some k → σ'.t[k]? = σ.t[k]?) (h : σ.putR nb d pin v = some σ1) : ∃ σ1', σ'.putR nb d pin v = some σ1' ∧ Over W σ σ1 σ' σ1' := by
  cases v with
  | gs sz es =>
    simp only [St.putR] at h ⊢
    split at h
    · cases h
    · rename_i hp; cases h; simp only [hp]; exact ⟨_, rfl, over_put _ hl hb hd hW⟩
  | fr sz es =>
    simp only [St.putR] at h ⊢
    exact putG_over hl hb hd hW h
  | bx p cs => simp only [St.putR] at h ⊢; exact newB_over hl hb hd hW h
  | _ => simp only [St.putR] at h ⊢; cases h; exact ⟨_, rfl, over_put _ hl hb hd hW⟩
/-- behind a change of other slots -/
theorem Over.shift {W : List Nat} {σ σ0 σ1 σ' σ0' σ1' : St} (h : Over W σ0 σ1 σ0' σ1') (h1 : ∀ k, k ∉ W → σ0.t[k]? = σ.t[k]?) (h2 : ∀ k, k ∉ W → σ0'.t[k]? = σ'.t[k]?) (h3 : σ0.t.length = σ.t.length) (h4 : σ0'.t.length = σ'.t.length) : Over W σ σ1 σ' σ1' :=
  ⟨h.b, h.on, fun k hk => (h.off k hk).trans (h2 k hk), fun k hk => (h.fr k hk).trans (h1 k hk), h.len.trans h3, h.len'.trans h4⟩
theorem argOf_congr {σ σ' : St} (hb : σ'.b = σ.b) {s : Src × Nat} (h : ∀ t ∈ s.1.tmps, σ'.t[t]? = σ.t[t]?) : argOf σ' s = argOf σ s := by
  simp only [argOf, get_congr h, hb]
theorem frozenBy_congr {σ σ' : St} : ∀ (ss : List (Src × Nat)) (b : List B), (∀ t ∈ ss.flatMap (fun p => p.1.tmps), σ'.t[t]? = σ.t[t]?) → frozenBy σ' ss b = frozenBy σ ss b
  | [], b, h => rfl
  | s :: ss, b, h => by
    have h1 : s.1.get σ' = s.1.get σ := get_congr (fun t ht => h t (by simp [ht]))
    simp only [frozenBy, h1]
    exact frozenBy_congr ss _ (fun t ht => h t (by simp only [List.flatMap_cons, List.mem_append]; exact .inr ht))
theorem doCall_over {W : List Nat} {cb : CB} {σ σ' σ1 : St} {nb : Nat} {d : Option Nat} {pin : Bool} {f : Nat} {args : List V} {ss : List (Src × Nat)} {xs : List Nat} (hl : σ'.t.length = σ.t.length) (hb : σ'.b = σ.b) (hr : ∀ t ∈ ss.flatMap (fun p => p.1.tmps), σ'.t[t]? = σ.t[t]?) (hd : ∀ k, d = some k → k ∈ W) (hW : ∀ k ∈ W, d ≠ some k → σ'.t[k]? = σ.t[k]?)
    (h : doCall cb nb σ d pin f args ss xs = some σ1) : ∃ σ1', doCall cb nb σ' d pin f args ss xs = some σ1' ∧ Over W σ σ1 σ' σ1' := by
  unfold doCall at h ⊢
  simp only [frozenBy_congr ss _ hr, hb]
  simp only [Option.bind_eq_bind, Option.bind_eq_some_iff] at h
  obtain ⟨bor, hbor, ⟨r, bor'⟩, hcb, h⟩ := h
  simp only at h hcb
  simp only [hbor, Option.bind_eq_bind, Option.bind_some, hcb]
  split at h
  · rename_i hc
    rw [if_pos hc]
    generalize hB : giveBack (fun k => (lentIds (frozenBy σ ss σ.b) args ++ (xs.map (nb + ·)).take (bor'.length - (lentIds (frozenBy σ ss σ.b) args).length)).getD k 0) (lentIds (frozenBy σ ss σ.b) args ++ (xs.map (nb + ·)).take (bor'.length - (lentIds (frozenBy σ ss σ.b) args).length)) bor' (frozenBy σ ss σ.b) = B at h ⊢
    obtain ⟨σ1', e, q⟩ := putR_over (W := W) (σ := { σ with b := B }) (σ' := { t := σ'.t, b := B }) hl rfl hd hW h
    exact ⟨σ1', e, ⟨q.b, q.on, q.off, q.fr, q.len, q.len'⟩⟩
  · cases h
theorem mapM_len2 {α β : Type} {f : α → Option β} : ∀ {l : List α} {r : List β}, l.mapM f = some r → r.length = l.length
  | [], r, h => by simp at h; subst h; rfl
  | x :: l, r, h => by
    simp only [List.mapM_cons, Option.bind_eq_bind, Option.bind_eq_some_iff, Option.pure_def, Option.some.injEq] at h
    obtain ⟨y, _, ys, h2, rfl⟩ := h
    simp [mapM_len2 h2]
theorem mapM_at2 {α β : Type} {f : α → Option β} : ∀ {l : List α} {r : List β}, l.mapM f = some r → ∀ (i : Nat) (x : α), l[i]? = some x → ∃ y, r[i]? = some y ∧ f x = some y
  | [], r, h, i, x, hx => by simp at hx
  | x :: l, r, h, i, x', hx => by
    simp only [List.mapM_cons, Option.bind_eq_bind, Option.bind_eq_some_iff, Option.pure_def, Option.some.injEq] at h
    obtain ⟨y, h1, ys, h2, rfl⟩ := h
    cases i with
    | zero => simp at hx; subst hx; exact ⟨y, rfl, h1⟩
    | succ i => simpa using mapM_at2 h2 i x' (by simpa using hx)
theorem mapM_congr' {α β : Type} {f g : α → Option β} : ∀ (l : List α), (∀ x ∈ l, f x = g x) → l.mapM f = l.mapM g
  | [], h => rfl
  | x :: l, h => by
    simp only [List.mapM_cons]
    rw [h x (by simp), mapM_congr' l (fun y hy => h y (by simp [hy]))]
end Go.Proofs.Ythplooifbkopgaa
