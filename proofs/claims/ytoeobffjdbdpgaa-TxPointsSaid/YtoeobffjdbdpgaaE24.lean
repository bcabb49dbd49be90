/- The machine is right. -/
import Derived.Test.YtoeobffjdbdpgaaE23
namespace Go.Proofs.Ytoeobffjdbdpgaa
set_option linter.unusedVariables false
set_option linter.unusedSimpArgs false
variable {ren : Nat → Option Nat} {we : World} {ωe : Nat → Ow} {U : Nat → Nat → Prop} {O : Nat → Prop} {σ : St} {a : Act} {w : World} {ω : Nat → Ow} {μ : Nat → Nat} {P : Program} {nb : Nat}

theorem cRes_cons {x : ResultVar} {xs : List ResultVar} {rs : List RV} (h : cRes P (x :: xs) = some rs) : ∃ rv rest, rs = rv :: rest ∧ cRes P [x] = some [rv] ∧ cRes P xs = some rest := by
  cases x with
  | tmp t =>
    simp only [cRes, Option.bind_eq_bind, Option.bind_eq_some_iff, Option.some.injEq] at h
    obtain ⟨rest, h1, rfl⟩ := h
    exact ⟨_, rest, rfl, rfl, h1⟩
  | cell t ty =>
    simp only [cRes, Option.bind_eq_bind, Option.bind_eq_some_iff, Option.some.injEq] at h
    obtain ⟨b, hb, n, hn, rest, h1, rfl⟩ := h
    exact ⟨_, rest, rfl, by simp [cRes, hb, hn], h1⟩
theorem resAll_ok (R : Rel ren we ωe U O σ a w ω μ) {ω' : Nat → Ow} {loc : Nat → Loc} (hwr : ∀ k o, wr U ω' k o → wr U ω k o) (σ2 : St) : ∀ (xs : List ResultVar) (rs : List RV) (j : Nat) (vs : List V), cRes P xs = some rs → rs.mapM (resOne nb σ) = some vs →
    (∀ i t, rs[i]? = some (.tmp t) → (∀ β h, ω β = .gs (.slot t 0) h → ω' β = .gs (loc (j + i)) h) ∧ (∀ id n, ((∃ off len sz, σ.t.getD t .junk = .own id off len sz ∧ n = 0) ∨ (∃ off, σ.t.getD t .junk = .ptr id off ∧ n = 0)) → ∀ β, ω β = .blk id → ω' β = .gs (loc (j + i)) n)) →
    ∃ us, (xs.mapM (resSem a.tmps)).run P w = .ok us w ∧ us.length = vs.length ∧ ∀ (i : Nat) (v : V) (u : Value), vs[i]? = some v → us[i]? = some u → Rep ren (env U σ2 w ω' μ) (loc (j + i)) v u
  | [], rs, j, vs, hc, hv, H => by
    cases hc
    simp at hv; subst hv
    exact ⟨[], by simp, rfl, by simp⟩
  | x :: xs, rs, j, vs, hc, hv, H => by
    obtain ⟨rv, rest, rfl, h1, h2⟩ := cRes_cons hc
    simp only [List.mapM_cons, Option.bind_eq_bind, Option.bind_eq_some_iff, Option.pure_def, Option.some.injEq] at hv
    obtain ⟨v, hv1, vs', hv2, rfl⟩ := hv
    obtain ⟨u, e1, e2⟩ := resOne_ok R h1 hv1 (l := loc (j + 0)) hwr (fun t ht => (H 0 t (by simp [ht])).1) (fun t id n ht hh => (H 0 t (by simp [ht])).2 id n hh) σ2
    obtain ⟨us, e3, e4, e5⟩ := resAll_ok R hwr σ2 xs rest (j + 1) vs' h2 hv2 (fun i t hi => by
      have := H (i + 1) t (by simpa using hi)
      rw [show j + 1 + i = j + (i + 1) by omega]; exact this)
    refine ⟨u :: us, by simp [List.mapM_cons, e1, e3], by simp [e4], fun i v' u' hv' hu' => ?_⟩
    cases i with
    | zero => simp at hv' hu'; subst hv'; subst hu'; exact e2
    | succ i =>
      rw [show j + (i + 1) = j + 1 + i by omega]
      exact e5 i v' u' (by simpa using hv') (by simpa using hu')
theorem borOf_spec {ids : List Nat} : ∀ (n : Nat) (b : List B) (bor : Bor), borOf ids n b = some bor → bor.length = n ∧ ∀ (i : Nat) (x : B), bor[i]? = some x → b[i]? = some x ∧ x.lend ids = true
  | 0, b, bor, h => by
    simp only [borOf] at h; cases h; exact ⟨rfl, by simp⟩
  | n + 1, [], bor, h => by simp [borOf] at h
  | n + 1, x0 :: rest, bor, h => by
    simp only [borOf] at h
    split at h
    · rename_i hp
      rw [Option.map_eq_some_iff] at h
      obtain ⟨bor1, h1, rfl⟩ := h
      obtain ⟨q1, q2⟩ := borOf_spec n rest bor1 h1
      refine ⟨by simp [q1], fun i x hx => ?_⟩
      cases i with
      | zero =>
        simp at hx; subst hx
        exact ⟨rfl, hp⟩
      | succ i => simpa using q2 i x (by simpa using hx)
    · cases h
theorem oneRef_ge {σ : St} : ∀ (rs : List RV) (vs : List V), rs.mapM (resOne nb σ) = some vs → ∀ id ∈ oneRef σ rs, nb ≤ id
  | [], vs, h, id, hid => by simp [oneRef] at hid
  | r :: rs, vs, h, id, hid => by
    simp only [List.mapM_cons, Option.bind_eq_bind, Option.bind_eq_some_iff, Option.pure_def, Option.some.injEq] at h
    obtain ⟨v, hv1, vs', hv2, rfl⟩ := h
    have ih := oneRef_ge rs vs' hv2 id
    cases r with
    | cell t b n => exact ih hid
    | tmp t =>
      simp only [oneRef, List.mem_append] at hid
      rcases hid with hid | hid
      · simp only [resOne] at hv1
        split at hid
        · rename_i id' off len sz hs
          rw [hs] at hv1
          simp at hid; subst hid
          simp only at hv1
          repeat' (split at hv1)
          all_goals first | (cases hv1; done) | assumption
        · rename_i id' off hs
          rw [hs] at hv1
          simp at hid; subst hid
          simp only at hv1
          split at hv1
          · rename_i h; exact h.2
          · cases hv1
        · simp at hid
      · exact ih hid
theorem renV_id (v : V) : renV (fun x => x) v = v := by
  cases v with
  | fn f caps =>
    simp only [renV]
    congr 1
    rw [List.map_congr_left (g := fun x => x) (fun c _ => by cases c <;> rfl)]
    simp
  | _ => rfl
theorem exit_ok (R : Rel ren we ωe U O σ a w ω μ) {rs : List RV} {fn : Func} (hrs : cRes P fn.results.toList = some rs) {r : V} (hr : results nb σ rs = some r) {bor' : Bor} (hb : borOf (List.range nb) nb σ.b = some bor') :
    ∃ u, (Go.results fn a.tmps).run P w = .ok u w ∧ ∃ ω', Rel ren we ωe U O ⟨[r], bor'.map toB⟩ ⟨#[u], []⟩ w ω' μ := by
  unfold results at hr
  split at hr
  · rename_i hd
    simp only [Bool.and_eq_true] at hd
    obtain ⟨hd1, hd2⟩ := hd
    obtain ⟨loc, vs, hvs, hloc⟩ : ∃ (loc : Nat → Loc) (vs : List V), rs.mapM (resOne nb σ) = some vs ∧ ((rs.length = 1 ∧ vs = [r] ∧ loc 0 = .slot 0 0) ∨ (rs.length ≠ 1 ∧ r = .tup vs ∧ ∀ j, loc j = .slot 0 (j + 1))) := by
      split at hr
      · exact ⟨fun _ => .slot 0 0, [r], by simp [List.mapM_cons, hr], .inl ⟨rfl, rfl, rfl⟩⟩
      · rename_i hne
        rw [Option.map_eq_some_iff] at hr
        obtain ⟨vs, h1, h2⟩ := hr
        exact ⟨fun j => .slot 0 (j + 1), vs, h1, .inr ⟨fun h => by
          cases rs with
          | nil => simp at h
          | cons x xs =>
            cases xs with
            | nil => exact hne x rfl
            | cons y ys => simp at h, h2.symm, fun _ => rfl⟩⟩
    have hwr : ∀ k o, wr U (fun k => tgt σ loc rs 0 (ω k)) k o → wr U ω k o := by
      intro k o h
      rw [wr_owr] at h ⊢
      exact h.imp id (tgt_wr σ loc o rs 0 _)
    obtain ⟨hbl, hbor⟩ := borOf_spec nb σ.b bor' hb
    have hge := oneRef_ge rs vs hvs
    obtain ⟨us, e1, e2, e3⟩ := resAll_ok (nb := nb) R (loc := loc) hwr ⟨[r], bor'.map toB⟩ fn.results.toList rs 0 vs hrs hvs (fun i t hi => ⟨fun β h hβ => by
      show tgt σ loc rs 0 (ω β) = _
      rw [hβ]; exact tgt_slot σ loc t h rs 0 i hd1 hi, fun id n hh β hβ => by
      show tgt σ loc rs 0 (ω β) = _
      rw [hβ]; exact tgt_own σ loc t id n hh rs 0 i hd2 hi⟩)
    have hlen : us.length = rs.length := by rw [e2, mapM_len' hvs]
    obtain ⟨u, hrun, hrep⟩ : ∃ u, (Go.results fn a.tmps).run P w = .ok u w ∧ Rep ren (env U ⟨[r], bor'.map toB⟩ w (fun k => tgt σ loc rs 0 (ω k)) μ) (.slot 0 0) r u := by
      have em : fn.results.mapM (resSem a.tmps) = List.toArray <$> fn.results.toList.mapM (resSem a.tmps) := by
        rw [← List.mapM_toArray]
      have er : Go.results fn a.tmps = (do
          let vs ← fn.results.mapM (resSem a.tmps)
          pure (if h : vs.size = 1 then vs[0] else .tuple vs)) := by
        unfold Go.results
        congr 2
      rw [er, em]
      rcases hloc with ⟨h1, h2, h3⟩ | ⟨h1, h2, h3⟩
      · rw [h1] at hlen
        obtain ⟨u, rfl⟩ : ∃ u, us = [u] := List.length_eq_one_iff.1 hlen
        refine ⟨u, by simp [e1], ?_⟩
        subst h2
        have := e3 0 r u rfl rfl
        rw [Nat.zero_add, h3] at this
        exact this
      · refine ⟨.tuple us.toArray, by simp [e1, hlen, h1], ?_⟩
        subst h2
        exact .tup vs us e2.symm (fun j v u hv hu => by
          have := e3 j v u hv hu
          rw [Nat.zero_add, h3] at this
          exact this)
    refine ⟨u, hrun, fun k => tgt σ loc rs 0 (ω k), rfl, rfl, fun i v hv => ?_, fun id p cs h => ?_, fun id cs h => ?_, fun id es h => ?_, R.kp, fun k hk => ?_, R.ul, fun k o u h1 h2 => ?_, R.rs⟩
    · cases i with
      | zero => simp at hv; subst hv; exact hrep
      | succ i => simp at hv
    · rw [List.getElem?_map, Option.map_eq_some_iff] at h
      obtain ⟨x, h1, h2⟩ := h
      have h2 : x = .live p cs := h2
      subst h2
      obtain ⟨g1, g2⟩ := hbor id _ h1
      have hidlt : id < nb := by rw [← hbl]; exact (List.getElem?_eq_some_iff.1 h1).1
      obtain ⟨q1, arr, T, q2, q3, q4⟩ := R.bs id _ _ g1
      refine ⟨?_, arr, T, q2, q3, fun j c hj => ?_⟩
      · show tgt σ loc rs 0 (ω (μ id)) = _
        rw [q1]
        exact tgt_blk σ loc id rs 0 (fun hh => by have := hge id hh; omega)
      · obtain ⟨u', x1, x2, x3, x4⟩ := q4 j c hj
        have mono : RepP ren w (wr U ω) c u' → RepP ren w (wr U (fun k => tgt σ loc rs 0 (ω k))) c u' := fun hh => hh.mono (fun k o u h1 h2 => ⟨fun hh => h1 (hwr k o hh), h2⟩)
        refine ⟨u', x1, x2, fun hp => mono (x3 hp), ?_⟩
        cases hp : p with
        | true => exact .pure (mono (x3 hp))
        | false =>
          obtain ⟨y1, y2, y3⟩ := lendable_facts (by subst hp; simp only [B.lend, Bool.false_or, List.all_eq_true] at g2; exact g2 c (List.mem_of_getElem? hj))
          have := x4.move (E' := env U ⟨[r], bor'.map toB⟩ w (fun k => tgt σ loc rs 0 (ω k)) μ) (l' := .cell id j) (fun k o u h1 h2 => ⟨fun hh => h1 (hwr k o hh), h2⟩) (fun x => x) (fun id2 hid2 L hL => ⟨by
            have hm := y1 id2 hid2
            rw [List.mem_range, ← hbl] at hm
            obtain ⟨z1, _⟩ := hbor id2 _ (List.getElem?_eq_getElem hm)
            have hL : blen σ.b id2 = some L := hL
            show blen (bor'.map toB) id2 = some L
            simp only [blen, z1] at hL
            simp only [blen, List.getElem?_map, List.getElem?_eq_getElem hm, Option.map_some, toB]
            exact hL, rfl⟩) (fun β h hβ => ⟨by
            have hβ : ω β = .gs (.cell id j) h := hβ
            show tgt σ loc rs 0 (ω β) = _
            rw [hβ, tgt_cell], rfl⟩) y2 y3
          rw [renV_id] at this
          exact this
    · rw [List.getElem?_map, Option.map_eq_some_iff] at h
      obtain ⟨x, h1, h2⟩ := h
      have h2 : x = .fz cs := h2
      subst h2
      obtain ⟨g1, g2⟩ := hbor id _ h1
      simp [B.lend] at g2
    · rw [List.getElem?_map, Option.map_eq_some_iff] at h
      obtain ⟨x, h1, h2⟩ := h
      have h2 : x = .mp es := h2
      subst h2
      obtain ⟨g1, g2⟩ := hbor id _ h1
      have hidlt : id < nb := by rw [← hbl]; exact (List.getElem?_eq_some_iff.1 h1).1
      obtain ⟨q1, arr, clock, q2, q3⟩ := R.ms id _ g1
      refine ⟨?_, arr, clock, q2, q3.mono (fun k o u h1 h2 => ⟨fun hh => h1 (hwr k o hh), h2⟩)⟩
      show tgt σ loc rs 0 (ω (μ id)) = _
      rw [q1]
      exact tgt_blk σ loc id rs 0 (fun hh => by have := hge id hh; omega)
    · refine R.ow k (fun e => hk ?_)
      show tgt σ loc rs 0 (ω k) = _
      rw [e, tgt_no]
    · obtain ⟨q1, q2⟩ := R.fr k o u h1 h2
      exact ⟨fun hh => q1 (hwr k o hh), q2⟩
  · cases hr

/-- what the machine computes is what the program does -/
theorem evF_ok {T : Nat → Option CF} {pr : CB} {L : Nat} (hT : ∀ g c, T g = some c → ∀ f, ren f = some g → callable P f = true ∧ ∃ h, cFun P ren h f = some c) (hpr : CBok P ren pr) (hdraw : ∀ cb, CBok P ren cb → DrawOk P ren cb) : ∀ d, CBok P ren (evF T pr L d)
  | 0 => by intro g args bor r bor' h; cases h
  | d + 1 => by
    have ih := evF_ok (L := L) hT hpr hdraw d
    intro g args bor r bor' h f hf
    simp only [evF] at h
    split at h
    · exact hpr g args bor r bor' h f hf
    · rename_i c hc
      obtain ⟨hcall, hint, hfun⟩ := hT g c hc f hf
      refine ⟨hcall, fun w us U O ω μ R => ?_⟩
      simp only [cFun, Option.bind_eq_bind, Option.bind_eq_some_iff, Prod.exists] at hfun
      obtain ⟨fn, hfn, body, hbody, cc, ms', hcode, rs, hrs, hfun⟩ := hfun
      split at hfun
      · cases hfun
        have E := enter_rel fn.ntmps R
        refine calls_of_wp hfn hbody ?_
        have key : ∀ ex σ', run (evF T pr L d) bor.length L cc (enter fn.ntmps args bor) = some (ex, σ') → (ex = .normal ∨ ex = .ret) → (∃ r', results bor.length σ' rs = some r' ∧ ∃ b', borOf (List.range bor.length) bor.length σ'.b = some b' ∧ (r', b') = (r, bor')) →
            body.wp P (bodyPost P fn fun e w' => ∃ u ω' μ', e = .returned u ∧ Rel ren w ω U O ⟨[r], bor'.map toB⟩ ⟨#[u], []⟩ w' ω' μ' ∧ ∀ k, k < bor.length → μ' k = μ k) ⟨us.toArray ++ Array.replicate (fn.ntmps - us.toArray.size) undef, []⟩ w := by
          intro ex σ' hrun hex ⟨r', hr', b', hb', e⟩
          cases e
          rw [List.size_toArray]
          refine run_ok ih (hdraw _ ih) body _ _ cc hcode E hrun _ ?_
          intro a1 w1 ω1 μ1 R1 hm
          obtain ⟨u, q1, ω2, q2⟩ := exit_ok R1 hrs hr' hb'
          rcases hex with rfl | rfl <;> exact ⟨R1.df, u, q1, u, ω2, μ1, rfl, q2, hm⟩
        split at h
        · rename_i σ' hrun
          simp only [Option.bind_eq_bind, Option.bind_eq_some_iff, Option.pure_def, Option.some.injEq] at h
          exact key _ σ' hrun (.inl rfl) h
        · rename_i σ' hrun
          simp only [Option.bind_eq_bind, Option.bind_eq_some_iff, Option.pure_def, Option.some.injEq] at h
          exact key _ σ' hrun (.inr rfl) h
        · cases h
      · cases hfun
end Go.Proofs.Ytoeobffjdbdpgaa
