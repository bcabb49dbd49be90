/- The machine is right. -/
import Derived.Test.YthplooifbkopgaaE23
namespace Go.Proofs.Ythplooifbkopgaa
set_option linter.unusedVariables false
set_option linter.unusedSimpArgs false
variable {ren : Nat → Option Nat} {we : World} {ωe : Nat → Ow} {U : Nat → Nat → Prop} {O : Nat → Prop} {σ : St} {a : Act} {w : World} {ω : Nat → Ow} {μ : Nat → Nat} {P : Program} {nb : Nat}

theorem cRes_cons {rp : Bool} {x : ResultVar} {xs : List ResultVar} {rs : List RV} (h : cRes P rp (x :: xs) = some rs) : ∃ rv rest, rs = rv :: rest ∧ cRes P rp [x] = some [rv] ∧ cRes P rp xs = some rest := by
  cases x with
  | tmp t =>
    simp only [cRes, Option.bind_eq_bind, Option.bind_eq_some_iff, Option.some.injEq] at h
    obtain ⟨rest, h1, rfl⟩ := h
    exact ⟨_, rest, rfl, rfl, h1⟩
  | cell t ty =>
    simp only [cRes, Option.bind_eq_bind, Option.bind_eq_some_iff, Option.some.injEq] at h
    obtain ⟨b, hb, n, hn, rest, h1, rfl⟩ := h
    exact ⟨_, rest, rfl, by simp [cRes, hb, hn], h1⟩
variable {g : Nat → Nat}
theorem resAll_ok {rp : Bool} (R : Rel ren we ωe U O σ a w ω μ) {ω' : Nat → Ow} {loc : Nat → Loc} (hwr : ∀ k o, wr U ω' k o → wr U ω k o) (σ2 : St) (μ2 : Nat → Nat) : ∀ (xs : List ResultVar) (rs : List RV) (j : Nat) (vs : List V), cRes P rp xs = some rs → rs.mapM (resOne nb σ) = some vs →
    (∀ i r t, rs[i]? = some r → r.slot = some t → (∀ β h, ω β = .gs (.slot t 0) h → ω' β = .gs (loc (j + i)) h) ∧ (∀ id, id ∈ goneIds nb (σ.t.getD t .junk) → ∀ y, tgtV nb g r.rp (σ.t.getD t .junk) (loc (j + i)) id = some y → ∀ β, ω β = .blk id → ω' β = y)) →
    (∀ v ∈ vs, ∀ id ∈ refsOf v, ∀ L, blen σ.b id = some L → blen σ2.b (g id) = some L ∧ μ2 (g id) = μ id) →
    ∃ us, (xs.mapM (resSem a.tmps)).run P w = .ok us w ∧ us.length = vs.length ∧ ∀ (i : Nat) (v : V) (u : Value), vs[i]? = some v → us[i]? = some u → Rep ren (env U σ2 w ω' μ2) (loc (j + i)) (renV g v) u
  | [], rs, j, vs, hc, hv, H, H2 => by
    cases hc
    simp at hv; subst hv
    exact ⟨[], by simp, rfl, by simp⟩
  | x :: xs, rs, j, vs, hc, hv, H, H2 => by
    obtain ⟨rv, rest, rfl, h1, h2⟩ := cRes_cons hc
    simp only [List.mapM_cons, Option.bind_eq_bind, Option.bind_eq_some_iff, Option.pure_def, Option.some.injEq] at hv
    obtain ⟨v, hv1, vs', hv2, rfl⟩ := hv
    obtain ⟨u, e1, e2⟩ := resOne_ok (g := g) R h1 hv1 (l := loc (j + 0)) (σ2 := σ2) (μ2 := μ2) hwr (fun t ht => (H 0 rv t (by simp) ht).1) (fun t id ht hh => (H 0 rv t (by simp) ht).2 id hh) (fun id hid => H2 v (by simp) id hid)
    obtain ⟨us, e3, e4, e5⟩ := resAll_ok R hwr σ2 μ2 xs rest (j + 1) vs' h2 hv2 (fun i r t hi ht => by
      have := H (i + 1) r t (by simpa using hi) ht
      rw [show j + 1 + i = j + (i + 1) by omega]; exact this) (fun v' hv' => H2 v' (by simp [hv']))
    refine ⟨u :: us, by simp [List.mapM_cons, e1, e3], by simp [e4], fun i v' u' hv' hu' => ?_⟩
    cases i with
    | zero => simp at hv' hu'; subst hv'; subst hu'; exact e2
    | succ i =>
      rw [show j + (i + 1) = j + 1 + i by omega]
      exact e5 i v' u' (by simpa using hv') (by simpa using hu')
theorem borOf_spec {b : List B} {ids : List Nat} : ∀ (l : List Nat) (bor : Bor), borOf b nb ids l = some bor → bor.length = l.length ∧ ∀ (i : Nat) (x : B), bor[i]? = some x → ∃ id y, l[i]? = some id ∧ b[id]? = some y ∧ x = y.ren (idxIn ids) ∧ y.lend ids = true ∧ (id < nb ∨ y.isRow = true)
  | [], bor, h => by
    simp only [borOf] at h; cases h; exact ⟨rfl, by simp⟩
  | id0 :: l, bor, h => by
    simp only [borOf] at h
    split at h
    · rename_i y hy
      split at h
      · rename_i hp
        rw [Option.map_eq_some_iff] at h
        obtain ⟨bor1, h1, rfl⟩ := h
        obtain ⟨q1, q2⟩ := borOf_spec l bor1 h1
        refine ⟨by simp [q1], fun i x hx => ?_⟩
        cases i with
        | zero =>
          simp at hx; subst hx
          simp only [Bool.and_eq_true, Bool.or_eq_true, decide_eq_true_eq] at hp
          exact ⟨id0, y, rfl, hy, rfl, hp.1, hp.2⟩
        | succ i => simpa using q2 i x (by simpa using hx)
      · cases h
    · cases h
theorem oneRef_ge {σ : St} : ∀ (rs : List RV) (vs : List V), rs.mapM (resOne nb σ) = some vs → ∀ id ∈ oneRef nb σ rs, nb ≤ id
  | [], vs, h, id, hid => by simp [oneRef] at hid
  | r :: rs, vs, h, id, hid => by
    simp only [List.mapM_cons, Option.bind_eq_bind, Option.bind_eq_some_iff, Option.pure_def, Option.some.injEq] at h
    obtain ⟨v, hv1, vs', hv2, rfl⟩ := h
    have ih := oneRef_ge rs vs' hv2 id
    simp only [oneRef, List.mem_append] at hid
    rcases hid with hid | hid
    · split at hid
      · rename_i t ht
        unfold goneIds at hid
        split at hid
        · split at hid
          · rename_i h; simp at hid; subst hid; exact h
          · simp at hid
        · rename_i id' off hs
          simp at hid; subst hid
          cases r with
          | cell _ _ _ => cases ht
          | tmp t' =>
            cases ht
            simp only [resOne, hs] at hv1
            split at hv1
            · rename_i h; exact h.2
            · cases hv1
          | tmpP t' =>
            cases ht
            simp only [resOne, hs] at hv1
            cases hv1
        · simpa using (List.mem_filter.1 hid).2
        · simp at hid
      · simp at hid
    · exact ih hid
/-- a block of the function's own that a result names -/
theorem resOne_ref {rv : RV} {v : V} (h : resOne nb σ rv = some v) {id : Nat} (hid : id ∈ refsOf v) (hge : nb ≤ id) : ∃ t cs, rv = .tmp t ∧ σ.t.getD t .junk = .st cs ∧ id ∈ cs.filterMap ownId := by
  cases rv with
  | tmp t =>
    simp only [resOne] at h
    split at h
    · split at h
      · split at h
        · split at h
          · split at h
            · cases h; simp [refsOf] at hid
            · cases h
          · cases h
        · cases h
      · rename_i hlt
        cases h
        simp [refsOf] at hid
        omega
    · split at h
      · split at h
        · split at h
          · split at h
            · cases h; simp [refsOf] at hid
            · rw [Option.map_eq_some_iff] at h
              obtain ⟨_, _, rfl⟩ := h
              simp [refsOf] at hid
          · cases h
        · cases h
      · cases h
    · cases h; simp [refsOf] at hid
    · cases h; simp [refsOf] at hid
    · cases h; simp [refsOf] at hid
    · cases h; simp [refsOf] at hid
    · rename_i cs hs; cases h; exact ⟨t, cs, rfl, hs, hid⟩
    · cases h
  | tmpP t =>
    simp only [resOne] at h
    split at h
    · split at h
      · split at h
        · cases h; simp [refsOf] at hid
        · cases h
      · cases h
    · rw [Option.map_eq_some_iff] at h
      obtain ⟨_, _, rfl⟩ := h
      simp [refsOf] at hid
    · cases h; simp [refsOf] at hid
    · cases h; simp [refsOf] at hid
    · cases h; simp [refsOf] at hid
    · cases h; simp [refsOf] at hid
    · cases h
  | cell t agg n =>
    exfalso
    simp only [resOne] at h
    split at h
    · split at h
      · split at h
        · split at h
          · split at h
            · cases h; simp [refsOf] at hid
            · rw [Option.map_eq_some_iff] at h
              obtain ⟨_, _, rfl⟩ := h
              simp [refsOf] at hid
          · cases h
        · split at h
          · rw [Option.bind_eq_some_iff] at h
            obtain ⟨c, _, hp⟩ := h
            unfold V.plain at hp
            split at hp <;> (cases hp; try simp [refsOf] at hid)
          · cases h
      · cases h
    · cases h
theorem resOne_nt {rv : RV} {v : V} (h : resOne nb σ rv = some v) : ∀ vs, v ≠ .tup vs := by
  rintro vs rfl
  cases rv with
  | tmp t =>
    simp only [resOne] at h
    repeat' (split at h)
    all_goals first | (cases h; done) | (rw [Option.map_eq_some_iff] at h; obtain ⟨_, _, e⟩ := h; cases e)
  | tmpP t =>
    simp only [resOne] at h
    repeat' (split at h)
    all_goals first | (cases h; done) | (rw [Option.map_eq_some_iff] at h; obtain ⟨_, _, e⟩ := h; cases e)
  | cell t agg n =>
    simp only [resOne] at h
    split at h
    · split at h
      · split at h
        · split at h
          · split at h
            · cases h
            · rw [Option.map_eq_some_iff] at h; obtain ⟨_, _, e⟩ := h; cases e
          · cases h
        · split at h
          · rw [Option.bind_eq_some_iff] at h
            obtain ⟨c, _, hp⟩ := h
            unfold V.plain at hp
            split at hp <;> cases hp
          · cases h
      · cases h
    · cases h
theorem exit_ok {rp : Bool} (R : Rel ren we ωe U O σ a w ω μ) {rs : List RV} {fn : Func} (hrs : cRes P rp fn.results.toList = some rs) {r : V} {bor' : Bor} (h : leaveF nb σ rs = some (r, bor')) :
    ∃ u, (Go.results fn a.tmps).run P w = .ok u w ∧ ∃ ω' μ', Rel ren we ωe U O ⟨[r], bor'.map toB⟩ ⟨#[u], []⟩ w ω' μ' ∧ ∀ k, k < nb → μ' k = μ k := by
  unfold leaveF at h
  simp only [Option.bind_eq_bind, Option.bind_eq_some_iff] at h
  obtain ⟨r0, hr, b0, hb, h⟩ := h
  split at h
  · rename_i hnd
    simp only [Option.pure_def, Option.some.injEq, Prod.mk.injEq] at h
    obtain ⟨rfl, rfl⟩ := h
    have hn := nodupB_nodup hnd
    obtain ⟨ids, hids⟩ : ∃ ids, ids = outIds nb r0 := ⟨_, rfl⟩
    rw [← hids] at hn hb ⊢
    have hlow : ∀ k, k < nb → ids[k]? = some k := by
      intro k hk
      rw [hids]; unfold outIds
      rw [List.getElem?_append_left (by simpa using hk), List.getElem?_range hk]
    have hglow : ∀ k, k < nb → idxIn ids k = k := fun k hk => idxIn_at hn (hlow k hk)
    have hin : ∀ id ∈ refsR r0, id ∈ ids := by
      intro id hid
      rw [hids]; unfold outIds
      by_cases hk : id < nb
      · exact List.mem_append_left _ (List.mem_range.2 hk)
      · exact List.mem_append_right _ (List.mem_filter.2 ⟨hid, by simpa using hk⟩)
    have hhigh : ∀ id ∈ ids, nb ≤ id → id ∈ refsR r0 := by
      intro id hid hge
      rw [hids] at hid; unfold outIds at hid
      rcases List.mem_append.1 hid with h | h
      · have := List.mem_range.1 h; omega
      · exact (List.mem_filter.1 h).1
    unfold results at hr
    split at hr
    · rename_i hd
      simp only [Bool.and_eq_true] at hd
      obtain ⟨hd1, hd2⟩ := hd
      obtain ⟨loc, vs, hvs, hloc⟩ : ∃ (loc : Nat → Loc) (vs : List V), rs.mapM (resOne nb σ) = some vs ∧ ((rs.length = 1 ∧ vs = [r0] ∧ loc 0 = .slot 0 0 ∧ ∀ vs, r0 ≠ .tup vs) ∨ (rs.length ≠ 1 ∧ r0 = .tup vs ∧ ∀ j, loc j = .slot 0 (j + 1))) := by
        split at hr
        · exact ⟨fun _ => .slot 0 0, [r0], by simp [List.mapM_cons, hr], .inl ⟨rfl, rfl, rfl, resOne_nt hr⟩⟩
        · rename_i hne
          rw [Option.map_eq_some_iff] at hr
          obtain ⟨vs, h1, h2⟩ := hr
          exact ⟨fun j => .slot 0 (j + 1), vs, h1, .inr ⟨fun h => by
            cases rs with
            | nil => simp at h
            | cons x xs =>
              cases xs with
              | nil => exact hne x rfl
              | cons y ys => simp at h, h2.symm, fun _ => rfl⟩⟩
      have hrefs : ∀ v ∈ vs, ∀ id ∈ refsOf v, id ∈ refsR r0 := by
        intro v hv id hid
        rcases hloc with ⟨_, rfl, _, hnt⟩ | ⟨_, rfl, _⟩
        · simp at hv; subst hv; rw [(nontup hnt).2.2]; exact hid
        · simp only [refsR, List.mem_flatMap]; exact ⟨v, hv, hid⟩
      have hrefs' : ∀ id ∈ refsR r0, ∃ v ∈ vs, id ∈ refsOf v := by
        intro id hid
        rcases hloc with ⟨_, rfl, _, hnt⟩ | ⟨_, rfl, _⟩
        · rw [(nontup hnt).2.2] at hid; exact ⟨r0, by simp, hid⟩
        · simpa only [refsR, List.mem_flatMap] using hid
      obtain ⟨ω', hω'⟩ : ∃ ω' : Nat → Ow, ω' = fun k => tgt nb (idxIn ids) σ loc rs 0 (ω k) := ⟨_, rfl⟩
      have hωat : ∀ k, ω' k = tgt nb (idxIn ids) σ loc rs 0 (ω k) := fun k => by rw [hω']
      have hwr : ∀ k o, wr U ω' k o → wr U ω k o := by
        intro k o h
        rw [wr_owr] at h ⊢
        rw [hωat] at h
        exact h.imp id (tgt_wr σ loc o rs 0 _)
      obtain ⟨hbl, hbor⟩ := borOf_spec ids b0 hb
      have hge := oneRef_ge rs vs hvs
      obtain ⟨μ', hμ'⟩ : ∃ μ' : Nat → Nat, μ' = fun k => μ (ids.getD k 0) := ⟨_, rfl⟩
      have hμat : ∀ k id, ids[k]? = some id → μ' k = μ id := by
        intro k id h
        rw [hμ']; simp only
        rw [List.getD_eq_getElem?_getD, h]; rfl
      have hidx : ∀ id ∈ ids, ∀ L, blen σ.b id = some L → blen (b0.map toB) (idxIn ids id) = some L ∧ μ' (idxIn ids id) = μ id := by
        intro id hid L hL
        obtain ⟨h1, h2⟩ := idxIn_get hid
        have hlt : idxIn ids id < b0.length := by rw [hbl]; exact h1
        obtain ⟨id2, y, g1, g2, g3, g4, g5⟩ := hbor _ _ (List.getElem?_eq_getElem hlt)
        rw [h2] at g1; cases g1
        refine ⟨?_, hμat _ _ h2⟩
        unfold blen at hL ⊢
        rw [List.getElem?_map, List.getElem?_eq_getElem hlt, g3]
        rw [g2] at hL
        simp only [Option.map_some, toB]
        cases y with
        | gone => cases hL
        | live p cs => simp only [Option.some.injEq] at hL; cases p <;> simp [B.ren, hL]
        | fz cs => simp [B.lend] at g4
        | mp es => simpa [B.ren] using hL
        | dead n => simpa [B.ren] using hL
      obtain ⟨us, e1, e2, e3⟩ := resAll_ok (nb := nb) (g := idxIn ids) R (loc := loc) hwr ⟨[renR (idxIn ids) r0], b0.map toB⟩ μ' fn.results.toList rs 0 vs hrs hvs (fun i r t hi ht => ⟨fun β h hβ => by
        rw [hωat, hβ]; exact tgt_slot σ loc t h rs 0 i r hd1 hi ht, fun id hh y hy β hβ => by
        rw [hωat, hβ]; exact tgt_hit σ loc t id hh rs 0 i r hd2 hi ht y hy⟩) (fun v hv id hid L hL => hidx id (hin id (hrefs v hv id hid)) L hL)
      have hlen : us.length = rs.length := by rw [e2, mapM_len' hvs]
      obtain ⟨u, hrun, hrep⟩ : ∃ u, (Go.results fn a.tmps).run P w = .ok u w ∧ Rep ren (env U ⟨[renR (idxIn ids) r0], b0.map toB⟩ w ω' μ') (.slot 0 0) (renR (idxIn ids) r0) u := by
        have em : fn.results.mapM (resSem a.tmps) = List.toArray <$> fn.results.toList.mapM (resSem a.tmps) := by
          rw [← List.mapM_toArray]
        have er : Go.results fn a.tmps = (do
            let vs ← fn.results.mapM (resSem a.tmps)
            pure (if h : vs.size = 1 then vs[0] else .tuple vs)) := by
          unfold Go.results
          congr 2
        rw [er, em]
        rcases hloc with ⟨h1, h2, h3, hnt⟩ | ⟨h1, h2, h3⟩
        · rw [h1] at hlen
          obtain ⟨u, rfl⟩ : ∃ u, us = [u] := List.length_eq_one_iff.1 hlen
          refine ⟨u, by simp [e1], ?_⟩
          subst h2
          have := e3 0 r0 u rfl rfl
          rw [Nat.zero_add, h3] at this
          rw [(nontup hnt).1] at this ⊢
          exact this
        · refine ⟨.tuple us.toArray, by simp [e1, hlen, h1], ?_⟩
          subst h2
          refine .tup _ us (by simpa using e2.symm) (fun j v u hv hu => ?_)
          rw [List.getElem?_map] at hv
          cases hvj : vs[j]? with
          | none => simp [hvj] at hv
          | some v0 =>
            simp [hvj] at hv; subst hv
            have := e3 j v0 u hvj hu
            rw [Nat.zero_add, h3] at this
            exact this
      -- where the blocks are that go out
      have hblk : ∀ k id, ids[k]? = some id → ω (μ id) = .blk id → ω' (μ id) = .blk k := by
        intro k id hk hω
        rw [hωat, hω]
        by_cases hlt : id < nb
        · have : k = id := by rw [← idxIn_at hn hk, hglow id hlt]
          subst this
          exact tgt_blk σ loc k rs 0 (fun hh => by have := hge k hh; omega)
        · obtain ⟨v, hv, hvid⟩ := hrefs' id (hhigh id (List.mem_of_getElem? hk) (by omega))
          obtain ⟨i, hi, rfl⟩ := List.getElem_of_mem hv
          have hirs : i < rs.length := by rw [← mapM_len' hvs]; exact hi
          obtain ⟨v', g1, g2⟩ := mapM_at' hvs i _ (List.getElem?_eq_getElem hirs)
          rw [List.getElem?_eq_getElem hi] at g1; cases g1
          obtain ⟨t, cs, q1, q2, q3⟩ := resOne_ref g2 hvid (by omega)
          have := tgt_hit (g := idxIn ids) (nb := nb) σ loc t id (by rw [q2]; simp only [goneIds]; exact List.mem_filter.2 ⟨q3, by simp; omega⟩) rs 0 i (.tmp t) hd2 (by rw [List.getElem?_eq_getElem hirs, q1]) rfl (.blk (idxIn ids id)) (by rw [q2]; simp only [tgtV]; rw [if_pos ⟨q3, by omega⟩]; rfl)
          rw [this, idxIn_at hn hk]
      refine ⟨u, hrun, ω', μ', ⟨rfl, rfl, fun i v hv => ?_, fun k p cs h => ?_, fun k cs h => ?_, fun k es h => ?_, R.kp, fun k hk => ?_, R.ul, fun k o u h1 h2 => ?_, R.rs⟩, fun k hk => hμat k k (hlow k hk)⟩
      · cases i with
        | zero => simp at hv; subst hv; exact hrep
        | succ i => simp at hv
      · rw [List.getElem?_map, Option.map_eq_some_iff] at h
        obtain ⟨x, h1, h2⟩ := h
        have h2 : x = .live p cs := h2
        subst h2
        obtain ⟨id, y, g1, g2, g3, g4, g5⟩ := hbor k _ h1
        obtain ⟨p0, cs0, rfl⟩ : ∃ p0 cs0, y = .live p0 cs0 := by
          cases y with
          | live p0 cs0 => exact ⟨p0, cs0, rfl⟩
          | gone => simp [B.lend] at g4
          | fz _ => simp [B.lend] at g4
          | mp _ => simp [B.ren] at g3
          | dead _ => simp [B.ren] at g3
        simp only [B.ren, B.live.injEq] at g3
        obtain ⟨rfl, g3⟩ := g3
        refine orNe fun hne => ?_
        have hne0 : cs0 ≠ [] := by rintro rfl; apply hne; rw [g3]; cases p <;> rfl
        obtain ⟨q1, arr, T, q2, q3, q4⟩ := R.live g2 hne0
        rw [hμat k id g1]
        refine ⟨hblk k id g1 q1, arr, T, q2, by rw [g3]; cases p <;> simpa using q3, fun j c hj => ?_⟩
        have mono : ∀ {c : V} {u' : Value}, RepP ren w (wr U ω) c u' → RepP ren w (wr U ω') c u' := fun hh => hh.mono (fun k o u h1 h2 => ⟨fun hh => h1 (hwr k o hh), h2⟩)
        rw [g3] at hj
        cases p with
        | true =>
          simp at hj
          obtain ⟨u', x1, x2, x3, x4⟩ := q4 j c hj
          exact ⟨u', x1, x2, fun hp => mono (x3 hp), .pure (mono (x3 rfl))⟩
        | false =>
          simp only [Bool.false_eq_true, if_false, List.getElem?_map] at hj
          cases hcj : cs0[j]? with
          | none => simp [hcj] at hj
          | some c0 =>
            simp [hcj] at hj; subst hj
            obtain ⟨u', x1, x2, x3, x4⟩ := q4 j c0 hcj
            obtain ⟨y1, y3⟩ := lendable_facts (by simp only [B.lend, Bool.false_or, List.all_eq_true] at g4; exact g4 c0 (List.mem_of_getElem? hcj))
            refine ⟨u', x1, x2, by simp, x4.move (E' := env U ⟨[renR (idxIn ids) r0], b0.map toB⟩ w ω' μ') (l' := .cell k j) (fun k o u h1 h2 => ⟨fun hh => h1 (hwr k o hh), h2⟩) (idxIn ids) (fun id2 hid2 L hL => hidx id2 (y1 id2 hid2) L hL) (fun β h hβ => ⟨?_, rfl⟩) (fun k => Nat.le_refl _) y3⟩
            have hlt : id < nb := by
              rcases g5 with g5 | g5
              · exact g5
              · simp [B.isRow] at g5
            have : k = id := by rw [← idxIn_at hn g1, hglow id hlt]
            subst this
            have hβ : ω β = .gs (.cell k j) h := hβ
            show ω' β = _
            rw [hωat, hβ, tgt_cell]
      · rw [List.getElem?_map, Option.map_eq_some_iff] at h
        obtain ⟨x, h1, h2⟩ := h
        have h2 : x = .fz cs := h2
        subst h2
        obtain ⟨id, y, g1, g2, g3, g4, g5⟩ := hbor k _ h1
        exfalso
        cases y with
        | live p0 cs0 => simp [B.ren] at g3
        | gone => simp [B.lend] at g4
        | fz _ => simp [B.lend] at g4
        | mp _ => simp [B.ren] at g3
        | dead _ => simp [B.ren] at g3
      · rw [List.getElem?_map, Option.map_eq_some_iff] at h
        obtain ⟨x, h1, h2⟩ := h
        have h2 : x = .mp es := h2
        subst h2
        obtain ⟨id, y, g1, g2, g3, g4, g5⟩ := hbor k _ h1
        obtain ⟨es0, rfl⟩ : ∃ es0, y = .mp es0 := by
          cases y with
          | mp es0 => exact ⟨es0, rfl⟩
          | live p0 cs0 => simp [B.ren] at g3
          | gone => simp [B.lend] at g4
          | fz _ => simp [B.lend] at g4
          | dead _ => simp [B.ren] at g3
        simp only [B.ren, B.mp.injEq] at g3
        subst g3
        obtain ⟨q1, arr, clock, q2, q3⟩ := R.ms id _ g2
        rw [hμat k id g1]
        exact ⟨hblk k id g1 q1, arr, clock, q2, q3.mono (fun k o u h1 h2 => ⟨fun hh => h1 (hwr k o hh), h2⟩)⟩
      · refine R.ow k (fun e => hk ?_)
        rw [hωat, e, tgt_no]
      · obtain ⟨q1, q2⟩ := R.fr k o u h1 h2
        exact ⟨fun hh => q1 (hwr k o hh), q2⟩
    · cases hr
  · cases h

/-- what the machine computes is what the program does -/
theorem evF_ok {T : Nat → Option CF} {pr : CB} {L : Nat} (hT : ∀ g c, T g = some c → ∀ f, ren f = some g → callable P f = true ∧ ∃ h, cFun P ren h f = some c) (hpr : CBok P ren pr) (hdraw : ∀ cb, CBok P ren cb → DrawOk P ren cb) : ∀ d, CBok P ren (evF T pr L d)
  | 0 => by intro g args bor r bor' h; cases h
  | d + 1 => by
    have ih := evF_ok (L := L) hT hpr hdraw d
    intro g args bor r bor' h f hf
    simp only [evF] at h
    split at h
    · exact hpr g args bor r bor' h f hf
    · rename_i c hc
      obtain ⟨hcall, hint, hfun⟩ := hT g c hc f hf
      refine ⟨hcall, fun w us U O ω μ R => ?_⟩
      simp only [cFun, Option.bind_eq_bind, Option.bind_eq_some_iff, Prod.exists] at hfun
      obtain ⟨fn, hfn, body, hbody, cc, ms', hcode, rs, hrs, hfun⟩ := hfun
      split at hfun
      · cases hfun
        have E := enter_rel fn.ntmps R
        refine calls_of_wp hfn hbody ?_
        have key : ∀ ex σ', run (evF T pr L d) bor.length L cc (enter fn.ntmps args bor) = some (ex, σ') → (ex = .normal ∨ ex = .ret) → leaveF bor.length σ' rs = some (r, bor') →
            body.wp P (bodyPost P fn fun e w' => ∃ u ω' μ', e = .returned u ∧ Rel ren w ω U O ⟨[r], bor'.map toB⟩ ⟨#[u], []⟩ w' ω' μ' ∧ ∀ k, k < bor.length → μ' k = μ k) ⟨us.toArray ++ Array.replicate (fn.ntmps - us.toArray.size) undef, []⟩ w := by
          intro ex σ' hrun hex hl
          rw [List.size_toArray]
          refine run_ok ih (hdraw _ ih) body _ _ cc hcode E hrun _ ?_
          intro a1 w1 ω1 μ1 R1 hm
          obtain ⟨u, q1, ω2, μ2, q2, q3⟩ := exit_ok R1 hrs hl
          rcases hex with rfl | rfl <;> exact ⟨R1.df, u, q1, u, ω2, μ2, rfl, q2, fun k hk => (q3 k hk).trans (hm k hk)⟩
        split at h
        · rename_i σ' hrun
          exact key _ σ' hrun (.inl rfl) h
        · rename_i σ' hrun
          exact key _ σ' hrun (.inr rfl) h
        · cases h
      · cases hfun
end Go.Proofs.Ythplooifbkopgaa
