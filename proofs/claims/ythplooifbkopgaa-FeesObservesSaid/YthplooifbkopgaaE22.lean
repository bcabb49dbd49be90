/- Guards, regions in the order of the text, what is forgotten at a loop's head, code. -/
import Derived.Test.YthplooifbkopgaaE20
namespace Go.Proofs.Ythplooifbkopgaa
set_option linter.unusedVariables false
set_option linter.unusedSimpArgs false
variable {ren : Nat → Option Nat} {we : World} {ωe : Nat → Ow} {U : Nat → Nat → Prop} {O : Nat → Prop} {σ : St} {a : Act} {w : World} {ω : Nat → Ow} {μ : Nat → Nat} {P : Program} {nb : Nat}

theorem wanted_ok (R : Rel ren we ωe U O σ a w ω μ) {ops : Array Oper} {o : Oper} {g : Option (Nat × Bool)} (hg : cGuard ops o.guard = some g) {b : Bool} (h : guardOk σ g = some b) : Region.wanted o (yielded ops a.tmps) = b := by
  unfold Region.wanted
  cases hog : o.guard with
  | none =>
    rw [hog] at hg; cases hg
    simp [guardOk] at h; simp [h]
  | some jw =>
    obtain ⟨j, want⟩ := jw
    rw [hog] at hg
    simp only [cGuard, Option.bind_eq_bind, Option.bind_eq_some_iff, Option.some.injEq] at hg
    obtain ⟨o', ho', d, hd, rfl⟩ := hg
    have hy : yielded ops a.tmps j = match a.tmps[d]? with | some (.bool b) => some b | _ => none := by
      simp only [yielded, ho', hd, Option.bind_some]
      rcases a.tmps[d]? with _ | v
      · rfl
      · cases v <;> rfl
    simp only [hy]
    simp only [guardOk] at h
    split at h
    · rename_i b' hv
      cases h
      have hr := R.ts d _ hv
      have hlt : d < a.tmps.size := by rw [R.tl]; exact (List.getElem?_eq_some_iff.1 hv).1
      have e := hr.sc_eq.1
      have : a.tmps[d]? = some (.bool b') := by
        rw [Array.getD_eq_getD_getElem?] at e
        rw [Array.getElem?_eq_getElem hlt] at e ⊢
        simpa using e
      rw [this]
      cases b' <;> cases want <;> rfl
    · rename_i hv
      cases h
      have hr := R.ts d _ hv
      have hlt : d < a.tmps.size := by rw [R.tl]; exact (List.getElem?_eq_some_iff.1 hv).1
      obtain ⟨us, e, hl, _⟩ := hr.tup_inv
      have hus : us = [] := by cases us with | nil => rfl | cons x xs => simp at hl
      subst hus
      have : a.tmps[d]? = some (.tuple #[]) := by
        rw [Array.getD_eq_getD_getElem?] at e
        rw [Array.getElem?_eq_getElem hlt] at e ⊢
        simpa using e
      rw [this]
      cases want <;> rfl
    · cases h

/-- whatever stands in the relation to σ' is fine for K -/
def Post (ren : Nat → Option Nat) (we : World) (ωe : Nat → Ow) (U : Nat → Nat → Prop) (O : Nat → Prop) (nb : Nat) (μ : Nat → Nat) (σ' : St) (K : Act → World → Prop) : Prop :=
  ∀ a' w' ω' μ', Rel ren we ωe U O σ' a' w' ω' μ' → (∀ k, k < nb → μ' k = μ k) → K a' w'
theorem Post.at {μ μ' : Nat → Nat} {σ' : St} {K : Act → World → Prop} (h : Post ren we ωe U O nb μ σ' K) (hm : ∀ k, k < nb → μ' k = μ k) : Post ren we ωe U O nb μ' σ' K :=
  fun a' w' ω' μ'' R hm' => h a' w' ω' μ'' R (fun k hk => (hm' k hk).trans (hm k hk))

theorem stepOp_ok (R : Rel ren we ωe U O σ a w ω μ) {cb : CB} (hcb : CBok P ren cb) {h : Hint} {rid i : Nat} {ops : Array Oper} {o : Oper} {c : COp} (hc : cOp P ren h rid ops i o = some c) {σ' : St} (hs : stepOp cb nb σ c = some σ') {K : Act → World → Prop} {Q : Exit → Act → World → Prop} (hK : Post ren we ωe U O nb μ σ' K) :
    if Region.wanted o (yielded ops a.tmps) then o.wp P a w K Q ∨ (o.asks P a w ∧ LetsOut Q) else K (a.put o.dst undef) w := by
  simp only [cOp, Option.bind_eq_bind, Option.bind_eq_some_iff, Option.some.injEq] at hc
  obtain ⟨k, hk, g, hg, rfl⟩ := hc
  unfold stepOp at hs
  simp only at hs
  split at hs
  · rename_i hgo
    rw [wanted_ok R hg hgo]
    exact .inl (step_ok R hcb hk hs K Q hK)
  · rename_i hgo
    rw [wanted_ok R hg hgo]
    cases hs
    exact hK _ _ ω μ (R.put o.dst (fun i _ => .tup [] [] rfl (by simp))) (fun _ _ => rfl)
  · cases hs
theorem stepOps_ok {cb : CB} (hcb : CBok P ren cb) {h : Hint} {rid : Nat} {ops : Array Oper} {Q : Exit → Act → World → Prop} {σ' : St} : ∀ (l : List Oper) (i : Nat) (cs : List COp), cOps P ren h rid ops l i = some cs → ∀ {σ : St} {a : Act} {w : World} {ω : Nat → Ow} {μ : Nat → Nat}, Rel ren we ωe U O σ a w ω μ → stepOps cb nb cs σ = some σ' → Post ren we ωe U O nb μ σ' (Q .normal) → wpList P ops Q l a w
  | [], i, cs, hc, σ, a, w, ω, μ, R, hs, hK => by
    cases hc; cases hs
    exact hK _ _ _ _ R (fun _ _ => rfl)
  | o :: l, i, cs, hc, σ, a, w, ω, μ, R, hs, hK => by
    simp only [cOps, Option.bind_eq_bind, Option.bind_eq_some_iff, Option.pure_def, Option.some.injEq] at hc
    obtain ⟨c, hc1, rest, hr, rfl⟩ := hc
    simp only [stepOps, Option.bind_eq_some_iff] at hs
    obtain ⟨σ1, h1, h2⟩ := hs
    exact stepOp_ok (K := wpList P ops Q l) (Q := Q) R hcb hc1 h1 (fun a' w' ω' μ' R' hm => stepOps_ok hcb l (i + 1) rest hr R' h2 (hK.at hm))

/-! ### what is forgotten -/
theorem maskT_get (dead : Nat → Bool) : ∀ (kt : List Bool) (ts : List V) (i : Nat), (maskT dead kt ts)[i]? = (ts[i]?).map (fun v => if kt.getD i false then killV dead v else .junk)
  | [], [], i => by simp [maskT]
  | [], v :: ts, i => by
    rw [show maskT dead [] (v :: ts) = (v :: ts).map (fun _ => .junk) from rfl, List.getElem?_map]; simp
  | k :: kt, [], i => by simp [maskT]
  | k :: kt, v :: ts, i => by
    cases i with
    | zero => cases k <;> simp [maskT]
    | succ i => simp only [maskT, List.getElem?_cons_succ, maskT_get dead kt ts i]; simp
theorem maskB_get (dead : Nat → Bool) : ∀ (kt : List Bool) (ts : List B) (i : Nat), (maskB dead kt ts)[i]? = (ts[i]?).map (fun v => if kt.getD i false then killB dead v else .gone)
  | [], [], i => by simp [maskB]
  | [], v :: ts, i => by
    rw [show maskB dead [] (v :: ts) = (v :: ts).map (fun _ => .gone) from rfl, List.getElem?_map]; simp
  | k :: kt, [], i => by simp [maskB]
  | k :: kt, v :: ts, i => by
    cases i with
    | zero => cases k <;> simp [maskB]
    | succ i => simp only [maskB, List.getElem?_cons_succ, maskB_get dead kt ts i]; simp
theorem maskT_len (dead : Nat → Bool) : ∀ (kt : List Bool) (ts : List V), (maskT dead kt ts).length = ts.length
  | [], [] => rfl
  | [], v :: ts => by simp [maskT]
  | k :: kt, [] => rfl
  | k :: kt, v :: ts => by simp [maskT, maskT_len dead kt ts]
theorem blen_mask (kt kb : List Bool) (σ : St) (id : Nat) (h : kb.getD id false = true) : blen (mask kt kb σ).b id = blen σ.b id := by
  unfold blen
  simp only [mask, maskB_get, h, if_true]
  cases hb : σ.b[id]? with
  | none => rfl
  | some x =>
    cases x with
    | gone => rfl
    | live p cs => cases p <;> simp [killB]
    | fz cs => rfl
    | mp es => rfl
    | dead n => rfl
theorem Rep.kill {kt kb : List Bool} {l : Loc} {v : V} {u : Value} (h : Rep ren (env U σ w ω μ) l v u) : Rep ren (env U (mask kt kb σ) w ω μ) l (killV (fun id => !(kb.getD id false)) v) u := by
  cases h with
  | pure h =>
    cases h with
    | sc _ h => exact .pure (.sc _ h)
    | agg cs us hl h h1 => exact .pure (.agg cs us hl h h1)
    | sl sz es A c f hc hsz k o hA hcell h1 h => exact .pure (.sl sz es A c f hc hsz k o hA hcell h1 h)
    | nil sz A => exact .pure (.nil sz A)
    | fn f g h => exact .pure (.fn f g h)
  | gs sz es β c arr T f hω hb hc hn hsz hcell h1 h => exact .gs sz es β c arr T f hω hb hc hn hsz hcell h1 h
  | fr sz es β c arr T f hω hb hc hn hsz hcell h1 h => exact .fr sz es β c arr T f hω hb hc hn hsz hcell h1 h
  | fr0 sz A => exact .fr0 sz A
  | ub b => exact .ub b
  | mp id L hL =>
    simp only [killV]
    split
    · exact .junk
    · rename_i hd
      exact .mp (E := env U (mask kt kb σ) w ω μ) id L ((blen_mask kt kb σ id (by simpa using hd)).trans hL)
  | bx p cs β arr T f hω hb hn hcell h1 h => exact .bx p cs β arr T f hω hb hn hcell h1 h
  | own id off len sz c L A hL hl hc hA =>
    simp only [killV]
    split
    · exact .junk
    · rename_i hd
      exact .own id off len sz c L A ((blen_mask kt kb σ id (by simpa using hd)).trans hL) hl hc hA
  | ptr id off L hL =>
    simp only [killV]
    split
    · exact .junk
    · rename_i hd
      exact .ptr (E := env U (mask kt kb σ) w ω μ) id off L ((blen_mask kt kb σ id (by simpa using hd)).trans hL)
  | fp n cs k o f hl hcell h1 h => exact .fp n cs k o f hl hcell h1 h
  | fn f g caps us hr hl h =>
    simp only [killV]
    split
    · exact .junk
    · rename_i hd
      refine .fn f g caps us hr hl (fun i c hc => ?_)
      obtain ⟨id, off, L, rfl, q1, q2⟩ := h i c hc
      refine ⟨id, off, L, rfl, ?_, q2⟩
      simp only [Bool.not_eq_true, List.any_eq_false] at hd
      have := hd _ (List.mem_of_getElem? hc)
      exact (blen_mask kt kb σ id (by simpa using this)).trans q1
  | tup vs us hl h =>
    cases vs with
    | nil => exact .tup [] us hl (by simp)
    | cons x xs => exact .junk
  | st cs us hl h h1 =>
    simp only [killV]
    split
    · exact .junk
    · rename_i hd
      refine .st cs us hl (fun i c u hc hu => ?_) h1
      rcases h i c u hc hu with q | q
      · exact .inl q
      · right
        obtain ⟨id, off, len, sz, c', L, A, rfl, rfl, hL, hl', hc', hz, hA⟩ := q
        simp only [Bool.not_eq_true, List.any_eq_false] at hd
        have := hd _ (List.mem_of_getElem? hc)
        exact ⟨id, off, len, sz, c', L, A, rfl, rfl, (blen_mask kt kb σ id (by simpa using this)).trans hL, hl', hc', hz, hA⟩
  | junk => exact .junk
theorem Rel.mask (R : Rel ren we ωe U O σ a w ω μ) (kt kb : List Bool) : Rel ren we ωe U O (mask kt kb σ) a w ω μ := by
  refine ⟨R.df, by simp [Go.Proofs.Ythplooifbkopgaa.mask, maskT_len, R.tl], fun i v hv => ?_, fun id p cs hb => ?_, fun id cs hb => ?_, fun id es hb => ?_, R.kp, R.ow, R.ul, R.fr, R.rs⟩
  · simp only [Go.Proofs.Ythplooifbkopgaa.mask, maskT_get] at hv
    cases hi : σ.t[i]? with
    | none => simp [hi] at hv
    | some v' =>
      simp only [hi, Option.map_some, Option.some.injEq] at hv
      subst hv
      split
      · exact (R.ts i v' hi).kill
      · exact .junk
  · simp only [Go.Proofs.Ythplooifbkopgaa.mask, maskB_get] at hb
    cases hi : σ.b[id]? with
    | none => simp [hi] at hb
    | some x =>
      simp only [hi, Option.map_some, Option.some.injEq] at hb
      split at hb
      · cases x with
        | gone => cases hb
        | fz cs' => cases hb
        | mp es => cases hb
        | dead n => cases hb
        | live p' cs' =>
          refine orNe fun hne => ?_
          have hne' : cs' ≠ [] := by
            rintro rfl
            cases p' <;> (cases hb; exact hne rfl)
          obtain ⟨e1, arr, T, e2, e3, e4⟩ := R.live hi hne'
          cases p' with
          | true =>
            cases hb
            exact ⟨e1, arr, T, e2, e3, fun j c hc => by
              obtain ⟨u, g1, g2, g3, g4⟩ := e4 j c hc
              exact ⟨u, g1, g2, g3, .pure (g3 rfl)⟩⟩
          | false =>
            cases hb
            refine ⟨e1, arr, T, e2, by simpa using e3, fun j c hc => ?_⟩
            rw [List.getElem?_map] at hc
            cases hcj : cs'[j]? with
            | none => simp [hcj] at hc
            | some c' =>
              simp only [hcj, Option.map_some, Option.some.injEq] at hc
              subst hc
              obtain ⟨u, g1, g2, g3, g4⟩ := e4 j c' hcj
              exact ⟨u, g1, g2, by simp, g4.kill⟩
      · cases hb
  · simp only [Go.Proofs.Ythplooifbkopgaa.mask, maskB_get] at hb
    cases hi : σ.b[id]? with
    | none => simp [hi] at hb
    | some x =>
      simp only [hi, Option.map_some, Option.some.injEq] at hb
      split at hb
      · cases x with
        | gone => cases hb
        | fz cs' => cases hb; exact R.fs id cs hi
        | mp es => cases hb
        | dead n => cases hb
        | live p' cs' => cases p' <;> cases hb
      · cases hb
  · simp only [Go.Proofs.Ythplooifbkopgaa.mask, maskB_get] at hb
    cases hi : σ.b[id]? with
    | none => simp [hi] at hb
    | some x =>
      simp only [hi, Option.map_some, Option.some.injEq] at hb
      split at hb
      · cases x with
        | gone => cases hb
        | fz cs' => cases hb
        | mp es => cases hb; exact R.ms id _ hi
        | dead n => cases hb
        | live p' cs' => cases p' <;> cases hb
      · cases hb

theorem Rel.fzAll : ∀ (fz : List Nat) {σ : St} {ω : Nat → Ow}, Rel ren we ωe U O σ a w ω μ → ∃ ω', Rel ren we ωe U O (fzAll nb fz σ) a w ω' μ
  | [], σ, ω, R => ⟨ω, R⟩
  | d :: fz, σ, ω, R => by
    obtain ⟨ω1, R1, _⟩ := R.freeze (nb + d)
    exact Rel.fzAll fz R1
/-! ### code -/
def Ex.to : Ex → Exit
  | .normal => .normal
  | .exit id => .exit id
  | .ret => .ret
/-- regions without an order -/
def DrawOk (P : Program) (ren : Nat → Option Nat) (cb : CB) : Prop :=
  ∀ (h : Hint) (id : Nat) (ops : Array Oper) (cs : List COp), cOps P ren h id ops ops.toList 0 = some cs → (edgesBack ops && pairsOk (Region.before ops) (needQuiet (Region.before ops) cs)) = true →
    ∀ (nb : Nat) (we : World) (ωe : Nat → Ow) (U : Nat → Nat → Prop) (O : Nat → Prop) (σ σ' : St) (a : Act) (w : World) (ω : Nat → Ow) (μ : Nat → Nat), Rel ren we ωe U O σ a w ω μ → stepD cb nb (needQuiet (Region.before ops) cs) σ = some σ' →
    ∀ Q : Exit → Act → World → Prop, Post ren we ωe U O nb μ σ' (Q .normal) → (Code.region id ops true).wp P Q a w
theorem msk_run {cb : CB} {L : Nat} {c : CC} {m : Msk} {σ σ' : St} {ex : Ex} {Q : Exit → Act → World → Prop} (hr : run cb nb L (c.msk m) σ = some (ex, σ')) (hQ : Post ren we ωe U O nb μ σ' (Q ex.to)) :
    ∃ ex0 σ0, run cb nb L c σ = some (ex0, σ0) ∧ Post ren we ωe U O nb μ σ0 (Q ex0.to) := by
  rcases m with _ | ⟨kt, kb⟩
  · exact ⟨ex, σ', hr, hQ⟩
  · simp only [CC.msk, run] at hr
    split at hr
    · rename_i σ1 hx
      cases hr
      exact ⟨_, _, hx, fun a' w' ω' μ' R hm => hQ a' w' ω' μ' (R.mask kt _) hm⟩
    · exact ⟨ex, σ', hr, hQ⟩
theorem pre_run (R : Rel ren we ωe U O σ a w ω μ) {cb : CB} {L : Nat} {c : CC} {m : Msk} {ex : Ex} {σ' : St} (hr : run cb nb L (c.pre m) σ = some (ex, σ')) : ∃ σ1, Rel ren we ωe U O σ1 a w ω μ ∧ run cb nb L c σ1 = some (ex, σ') := by
  rcases m with _ | ⟨kt, kb⟩
  · exact ⟨σ, R, hr⟩
  · simp only [CC.pre, run] at hr
    exact ⟨_, R.mask kt _, hr⟩
theorem Rep.ub_inv {E : En} {l : Loc} {u : Value} (h : Rep ren E l .ub u) : ∃ b, u = .bool b := by
  cases h with
  | pure h => cases h
  | ub b => exact ⟨b, rfl⟩
theorem msk_skip {c : CC} {m : Msk} (hc : c ≠ .skip) : c.msk m ≠ .skip := by
  rcases m with _ | ⟨kt, kb⟩
  · exact hc
  · simp [CC.msk]
theorem pre_skip {c : CC} {m : Msk} (hc : c ≠ .skip) : c.pre m ≠ .skip := by
  rcases m with _ | ⟨kt, kb⟩
  · exact hc
  · simp [CC.pre]
theorem mkSeq_cases (a b : CC) : mkSeq a b = .seq a b ∨ ∃ ops s x, a = .seq (.reg ops) (.cond s x .skip) ∧ mkSeq a b = .fork (.reg ops) s x b := by
  unfold mkSeq
  split
  · rename_i p s x hf
    unfold forkOf at hf
    split at hf
    · split at hf
      · cases hf; exact .inr ⟨_, _, _, rfl, rfl⟩
      · cases hf
    · cases hf
  · exact .inl rfl
theorem cCode_skip {h : Hint} {c : Code} {ms ms' : List Msk} (hc : cCode P ren h c ms = some (.skip, ms')) : c = .skip := by
  cases c with
  | skip => rfl
  | region id ops draw =>
    simp only [cCode, Option.bind_eq_bind, Option.bind_eq_some_iff] at hc
    obtain ⟨cs, hcs, hc⟩ := hc
    split at hc
    · split at hc <;> cases hc
    · cases hc
  | seq x y =>
    simp only [cCode, Option.bind_eq_bind, Option.bind_eq_some_iff, Prod.exists] at hc
    obtain ⟨a', ms1, h1, b', ms2, h2, h3⟩ := hc
    rcases mkSeq_cases a' b' with e | ⟨ops, s, x, e1, e⟩ <;> (rw [e] at h3; cases h3)
  | cond c x y =>
    cases ms with
    | nil => cases hc
    | cons m ms =>
      simp only [cCode, Option.bind_eq_bind, Option.bind_eq_some_iff, Prod.exists, Option.some.injEq, Prod.mk.injEq] at hc
      obtain ⟨s, hs, a', ms1, h1, b', ms2, h2, h3, _⟩ := hc
      exact absurd h3 (msk_skip (by simp))
  | block id x =>
    cases ms with
    | nil => cases hc
    | cons m ms =>
      simp only [cCode, Option.bind_eq_bind, Option.bind_eq_some_iff, Prod.exists, Option.some.injEq, Prod.mk.injEq] at hc
      obtain ⟨a', ms1, h1, h3, _⟩ := hc
      exact absurd h3 (msk_skip (by simp))
  | loop x =>
    cases ms with
    | nil => cases hc
    | cons m ms =>
      rcases m with _ | ⟨kt, kb⟩
      · cases hc
      simp only [cCode, Option.bind_eq_bind, Option.bind_eq_some_iff, Prod.exists, Option.some.injEq, Prod.mk.injEq] at hc
      obtain ⟨a', ms1, h1, h3, _⟩ := hc
      cases h3
  | exit id =>
    cases ms with
    | nil => cases hc
    | cons m ms => simp only [cCode, Option.some.injEq, Prod.mk.injEq] at hc; exact absurd hc.1 (pre_skip (by simp))
  | ret =>
    cases ms with
    | nil => cases hc
    | cons m ms => simp only [cCode, Option.some.injEq, Prod.mk.injEq] at hc; exact absurd hc.1 (pre_skip (by simp))
  | _ => cases hc
theorem msk_seq {c : CC} {m : Msk} {ops : List COp} {s : Src} {x : CC} (hc : ∀ a b, c ≠ .seq a b) : c.msk m ≠ .seq (.reg ops) (.cond s x .skip) := by
  rcases m with _ | ⟨kt, kb⟩
  · exact hc _ _
  · simp [CC.msk]
theorem pre_seq {c : CC} {m : Msk} {ops : List COp} {s : Src} {x : CC} (hc : ∀ a b, c ≠ .seq a b) : c.pre m ≠ .seq (.reg ops) (.cond s x .skip) := by
  rcases m with _ | ⟨kt, kb⟩
  · exact hc _ _
  · simp [CC.pre]
theorem cCode_fork {h : Hint} {c : Code} {ms ms' : List Msk} {ops : List COp} {s : Src} {x : CC} (hc : cCode P ren h c ms = some (.seq (.reg ops) (.cond s x .skip), ms')) :
    ∃ p c0 x0 ms1 ms2 m, c = .seq p (.cond c0 x0 .skip) ∧ cCode P ren h p ms = some (.reg ops, ms1) ∧ cSrc P ren 0 c0 = some s ∧ cCode P ren h x0 m = some (x, ms2) := by
  cases c with
  | skip => cases hc
  | region id ops draw =>
    simp only [cCode, Option.bind_eq_bind, Option.bind_eq_some_iff] at hc
    obtain ⟨cs, hcs, hc⟩ := hc
    split at hc
    · split at hc <;> cases hc
    · cases hc
  | seq p q =>
    simp only [cCode, Option.bind_eq_bind, Option.bind_eq_some_iff, Prod.exists] at hc
    obtain ⟨a', ms1, h1, b', ms2, h2, h3⟩ := hc
    rcases mkSeq_cases a' b' with e | ⟨ops, s, x, e1, e⟩
    · rw [e] at h3
      cases h3
      cases q with
      | cond c0 x0 y0 =>
        cases ms1 with
        | nil => cases h2
        | cons m ms1 =>
          simp only [cCode, Option.bind_eq_bind, Option.bind_eq_some_iff, Prod.exists, Option.some.injEq, Prod.mk.injEq] at h2
          obtain ⟨s, hs, a', ms3, h4, b', ms4, h5, h6, _⟩ := h2
          rcases m with _ | ⟨kt, kb⟩
          · cases h6
            cases cCode_skip h5
            exact ⟨_, _, _, _, _, _, rfl, h1, hs, h4⟩
          · cases h6
      | skip => cases h2
      | region id ops draw =>
        simp only [cCode, Option.bind_eq_bind, Option.bind_eq_some_iff] at h2
        obtain ⟨cs, hcs, hc⟩ := h2
        split at hc
        · split at hc <;> cases hc
        · cases hc
      | seq x y =>
        simp only [cCode, Option.bind_eq_bind, Option.bind_eq_some_iff, Prod.exists] at h2
        obtain ⟨a', ms1, h1, b', ms2, h2, h3⟩ := h2
        rcases mkSeq_cases a' b' with e | ⟨ops, s, x, e1, e⟩ <;> (rw [e] at h3; cases h3)
      | block id x =>
        cases ms1 with
        | nil => cases h2
        | cons m ms =>
          simp only [cCode, Option.bind_eq_bind, Option.bind_eq_some_iff, Prod.exists, Option.some.injEq, Prod.mk.injEq] at h2
          obtain ⟨a', ms1, h1, h3, _⟩ := h2
          rcases m with _ | ⟨kt, kb⟩ <;> cases h3
      | loop x =>
        cases ms1 with
        | nil => cases h2
        | cons m ms =>
          rcases m with _ | ⟨kt, kb⟩
          · cases h2
          simp only [cCode, Option.bind_eq_bind, Option.bind_eq_some_iff, Prod.exists, Option.some.injEq, Prod.mk.injEq] at h2
          obtain ⟨a', ms1, h1, h3, _⟩ := h2
          cases h3
      | exit id =>
        cases ms1 with
        | nil => cases h2
        | cons m ms =>
          simp only [cCode, Option.some.injEq, Prod.mk.injEq] at h2
          rcases m with _ | ⟨kt, kb⟩ <;> cases h2.1
      | ret =>
        cases ms1 with
        | nil => cases h2
        | cons m ms =>
          simp only [cCode, Option.some.injEq, Prod.mk.injEq] at h2
          rcases m with _ | ⟨kt, kb⟩ <;> cases h2.1
      | _ => cases h2
    · rw [e] at h3; cases h3
  | cond c x y =>
    cases ms with
    | nil => cases hc
    | cons m ms =>
      simp only [cCode, Option.bind_eq_bind, Option.bind_eq_some_iff, Prod.exists, Option.some.injEq, Prod.mk.injEq] at hc
      obtain ⟨s, hs, a', ms1, h1, b', ms2, h2, h3, _⟩ := hc
      exact absurd h3 (msk_seq (by simp))
  | block id x =>
    cases ms with
    | nil => cases hc
    | cons m ms =>
      simp only [cCode, Option.bind_eq_bind, Option.bind_eq_some_iff, Prod.exists, Option.some.injEq, Prod.mk.injEq] at hc
      obtain ⟨a', ms1, h1, h3, _⟩ := hc
      exact absurd h3 (msk_seq (by simp))
  | loop x =>
    cases ms with
    | nil => cases hc
    | cons m ms =>
      rcases m with _ | ⟨kt, kb⟩
      · cases hc
      simp only [cCode, Option.bind_eq_bind, Option.bind_eq_some_iff, Prod.exists, Option.some.injEq, Prod.mk.injEq] at hc
      obtain ⟨a', ms1, h1, h3, _⟩ := hc
      cases h3
  | exit id =>
    cases ms with
    | nil => cases hc
    | cons m ms => simp only [cCode, Option.some.injEq, Prod.mk.injEq] at hc; exact absurd hc.1 (pre_seq (by simp))
  | ret =>
    cases ms with
    | nil => cases hc
    | cons m ms => simp only [cCode, Option.some.injEq, Prod.mk.injEq] at hc; exact absurd hc.1 (pre_seq (by simp))
  | _ => cases hc
def RunOk (P : Program) (ren : Nat → Option Nat) (cb : CB) (nb : Nat) (h : Hint) (L : Nat) (we : World) (ωe : Nat → Ow) (U : Nat → Nat → Prop) (O : Nat → Prop) (c : Code) : Prop := ∀ (ms ms' : List Msk) (cc : CC), cCode P ren h c ms = some (cc, ms') →
    ∀ {σ σ' : St} {a : Act} {w : World} {ω : Nat → Ow} {μ : Nat → Nat} {ex : Ex}, Rel ren we ωe U O σ a w ω μ → run cb nb L cc σ = some (ex, σ') → ∀ Q : Exit → Act → World → Prop, Post ren we ωe U O nb μ σ' (Q ex.to) → c.wp P Q a w
def SubC (R : Code → Prop) : Code → Prop
  | .cond _ x _ => R x
  | _ => True
def SubS (R : Code → Prop) : Code → Prop
  | .seq p q => R p ∧ SubC R q
  | _ => True
theorem run_okM {cb : CB} (hcb : CBok P ren cb) (hd : DrawOk P ren cb) {h : Hint} {L : Nat} : ∀ (c : Code), RunOk P ren cb nb h L we ωe U O c ∧ SubC (RunOk P ren cb nb h L we ωe U O) c ∧ SubS (RunOk P ren cb nb h L we ωe U O) c := by
  intro c
  induction c with
  | skip =>
    refine ⟨?_, trivial, trivial⟩
    intro ms ms' cc hc σ σ' a w ω μ ex R hr Q hQ
    cases hc; cases hr
    exact wp_skip (hQ _ _ _ _ R (fun _ _ => rfl))
  | region id ops draw =>
    refine ⟨?_, trivial, trivial⟩
    intro ms ms' cc hc σ σ' a w ω μ ex R hr Q hQ
    simp only [cCode, Option.bind_eq_bind, Option.bind_eq_some_iff] at hc
    obtain ⟨cs, hcs, hc⟩ := hc
    cases draw with
    | true =>
      simp only [if_true] at hc
      split at hc
      · rename_i hp
        cases hc
        simp only [run, Option.map_eq_some_iff] at hr
        obtain ⟨σ1, h1, h2⟩ := hr
        cases h2
        obtain ⟨ω1, R1⟩ := Rel.fzAll (nb := nb) ((h.fz.lookup id).getD []) R
        exact hd h id ops cs hcs hp nb we ωe U O _ σ' a w ω1 μ R1 h1 Q hQ
      · cases hc
    | false =>
      simp only [Bool.false_eq_true, if_false] at hc
      cases hc
      simp only [run, Option.map_eq_some_iff] at hr
      obtain ⟨σ1, h1, h2⟩ := hr
      cases h2
      exact wp_region_list (stepOps_ok hcb _ _ _ hcs R h1 hQ)
  | seq x y ihx ihy =>
    refine ⟨?_, trivial, ihx.1, ihy.2.1⟩
    intro ms ms' cc hc σ σ' a w ω μ ex R hr Q hQ
    simp only [cCode, Option.bind_eq_bind, Option.bind_eq_some_iff, Prod.exists] at hc
    obtain ⟨a', ms1, h1, b', ms2, h2, h3⟩ := hc
    have h3 : mkSeq a' b' = cc := congrArg Prod.fst (Option.some.inj h3)
    subst h3
    refine wp_seq ?_
    rcases mkSeq_cases a' b' with e | ⟨ops, s, z, e1, e⟩
    rotate_left
    · subst e1
      rw [e] at hr
      obtain ⟨p, c0, x0, ms3, ms4, m, rfl, hp, hs, hx⟩ := cCode_fork h1
      obtain ⟨ihp, ihx0⟩ := ihx.2.2
      refine wp_seq ?_
      simp only [run] at hr
      split at hr
      · rename_i σ1 hpr
        refine ihp _ _ _ hp R (by simp only [run]; exact hpr) _ (fun a1 w1 ω1 μ1 R1 hm => ?_)
        split at hr
        · rename_i hub
          split at hr
          · rename_i hsame
            obtain ⟨hsame, σr, hret⟩ := sameX_eq hsame
            have hr0 := R1.opnd hs
            rw [hub] at hr0
            obtain ⟨t, hv⟩ : ∃ t, a1.eval c0 = .bool t := hr0.ub_inv
            rw [hret] at hr
            cases hr
            refine wp_cond hv ?_
            cases t with
            | true =>
              simp only [if_true]
              exact ihx0 _ _ _ hx R1 (hsame.trans hret) _ (hQ.at hm)
            | false =>
              simp only [Bool.false_eq_true, if_false]
              refine wp_skip ?_
              exact ihy.1 _ _ _ h2 R1 hret Q (hQ.at hm)
          · cases hr
        · split at hr
          · rename_i ht
            have hv := (R1.opnd hs).bool ht
            refine wp_cond hv ?_
            simp only [if_true]
            split at hr
            · rename_i σ2 hx2
              exact ihx0 _ _ _ hx R1 hx2 _ (fun a2 w2 ω2 μ2 R2 hm2 => ihy.1 _ _ _ h2 R2 hr Q ((hQ.at hm).at hm2))
            · rename_i hne
              refine ihx0 _ _ _ hx R1 hr _ ?_
              cases ex with
              | normal => exact absurd hr (hne _)
              | exit id => exact hQ.at hm
              | ret => exact hQ.at hm
          · rename_i ht
            have hv := (R1.opnd hs).bool ht
            refine wp_cond hv ?_
            simp only [Bool.false_eq_true, if_false]
            refine wp_skip ?_
            exact ihy.1 _ _ _ h2 R1 hr Q (hQ.at hm)
          · cases hr
      · rename_i hne
        refine ihp _ _ _ hp R (by simp only [run]; exact hr) _ ?_
        cases ex with
        | normal => exact absurd hr (hne _)
        | exit id => exact hQ
        | ret => exact hQ
    rw [e] at hr
    simp only [run] at hr
    split at hr
    · rename_i σ1 hx
      exact ihx.1 _ _ _ h1 R hx _ (fun a1 w1 ω1 μ1 R1 hm => ihy.1 _ _ _ h2 R1 hr Q (hQ.at hm))
    · rename_i hne
      refine ihx.1 _ _ _ h1 R hr _ ?_
      cases ex with
      | normal => exact absurd hr (hne _)
      | exit id => exact hQ
      | ret => exact hQ
  | cond c x y ihx ihy =>
    refine ⟨?_, ihx.1, trivial⟩
    intro ms ms' cc hc σ σ' a w ω μ ex R hr Q hQ
    cases ms with
    | nil => cases hc
    | cons m ms =>
    simp only [cCode, Option.bind_eq_bind, Option.bind_eq_some_iff, Prod.exists] at hc
    obtain ⟨s, hs, a', ms1, h1, b', ms2, h2, h3⟩ := hc
    cases h3
    obtain ⟨ex0, σ0, hr, hQ⟩ := msk_run hr hQ
    simp only [run] at hr
    split at hr
    · rename_i hub
      split at hr
      · rename_i hsame
        have hsame := sameR_eq hsame
        have hr0 := R.opnd hs
        rw [hub] at hr0
        obtain ⟨t, hv⟩ : ∃ t, a.eval c = .bool t := hr0.ub_inv
        refine wp_cond hv ?_
        cases t with
        | true => simp only [if_true]; exact ihx.1 _ _ _ h1 R (hsame.trans hr) Q hQ
        | false => simp only [Bool.false_eq_true, if_false]; exact ihy.1 _ _ _ h2 R hr Q hQ
      · cases hr
    rename_i hnub
    split at hr
    · rename_i t ht
      have hv := (R.opnd hs).bool ht
      refine wp_cond hv ?_
      cases t with
      | true => simp only [if_true] at hr ⊢; exact ihx.1 _ _ _ h1 R hr Q hQ
      | false => simp only [Bool.false_eq_true, if_false] at hr ⊢; exact ihy.1 _ _ _ h2 R hr Q hQ
    · cases hr
  | block id x ih =>
    refine ⟨?_, trivial, trivial⟩
    intro ms ms' cc hc σ σ' a w ω μ ex R hr Q hQ
    cases ms with
    | nil => cases hc
    | cons m ms =>
    simp only [cCode, Option.bind_eq_bind, Option.bind_eq_some_iff, Prod.exists] at hc
    obtain ⟨a', ms1, h1, h3⟩ := hc
    cases h3
    obtain ⟨ex, σ', hr, hQ⟩ := msk_run hr hQ
    simp only [run] at hr
    refine wp_block ?_
    split at hr
    · rename_i j σ1 hx
      refine ih.1 _ _ _ h1 R hx _ ?_
      split at hr
      · rename_i hj
        cases hr
        intro a1 w1 ω1 μ1 R1 hm
        simp only [Ex.to, Exit.inBlock, hj, if_true]
        exact hQ _ _ _ _ R1 hm
      · rename_i hj
        cases hr
        intro a1 w1 ω1 μ1 R1 hm
        simp only [Ex.to, Exit.inBlock, hj, if_false]
        exact hQ _ _ _ _ R1 hm
    · rename_i hne
      refine ih.1 _ _ _ h1 R hr _ ?_
      cases ex with
      | normal => exact hQ
      | exit id => exact absurd hr (hne _ _)
      | ret => exact hQ
  | loop x ih =>
    refine ⟨?_, trivial, trivial⟩
    intro ms ms' cc hc σ σ' a w ω μ ex R hr Q hQ
    cases ms with
    | nil => cases hc
    | cons m ms =>
      rcases m with _ | ⟨kt, kb⟩
      · cases hc
      simp only [cCode, Option.bind_eq_bind, Option.bind_eq_some_iff, Prod.exists] at hc
      obtain ⟨a', ms1, h1, h3⟩ := hc
      cases h3
      simp only [run] at hr
      refine wp_loop_rounds L ?_
      have key : ∀ (n : Nat) {σ : St} {a : Act} {w : World} {ω : Nat → Ow} {μ : Nat → Nat}, Rel ren we ωe U O σ a w ω μ → loopN (run cb nb L a') (maskN nb kt kb) n σ = some (ex, σ') → Post ren we ωe U O nb μ σ' (Q ex.to) → Code.rounds P x Q n a w := by
        intro n
        induction n with
        | zero => intro σ a w ω μ R hr; cases hr
        | succ n ihn =>
          intro σ a w ω μ R hr hQ
          rw [rounds_succ]
          simp only [loopN] at hr
          split at hr
          · rename_i σ1 hx
            exact ih.1 _ _ _ h1 (R.mask kt _) hx _ (fun a1 w1 ω1 μ1 R1 hm => ihn R1 hr (hQ.at hm))
          · rename_i hne
            refine ih.1 _ _ _ h1 (R.mask kt _) hr _ ?_
            cases ex with
            | normal => exact absurd hr (hne _)
            | exit id => exact hQ
            | ret => exact hQ
      exact key L R hr hQ
  | exit id =>
    refine ⟨?_, trivial, trivial⟩
    intro ms ms' cc hc σ σ' a w ω μ ex R hr Q hQ
    cases ms with
    | nil => cases hc
    | cons m ms =>
      cases hc
      obtain ⟨σ1, R1, hr⟩ := pre_run R hr
      cases hr
      exact wp_exit (hQ _ _ _ _ R1 (fun _ _ => rfl))
  | ret =>
    refine ⟨?_, trivial, trivial⟩
    intro ms ms' cc hc σ σ' a w ω μ ex R hr Q hQ
    cases ms with
    | nil => cases hc
    | cons m ms =>
      cases hc
      obtain ⟨σ1, R1, hr⟩ := pre_run R hr
      cases hr
      exact wp_ret (hQ _ _ _ _ R1 (fun _ _ => rfl))
  | rangeFunc => exact ⟨(by intro ms ms' cc hc; cases hc), trivial, trivial⟩
  | scope => exact ⟨(by intro ms ms' cc hc; cases hc), trivial, trivial⟩
  | label => exact ⟨(by intro ms ms' cc hc; cases hc), trivial, trivial⟩
  | goto => exact ⟨(by intro ms ms' cc hc; cases hc), trivial, trivial⟩
  | refuse => exact ⟨(by intro ms ms' cc hc; cases hc), trivial, trivial⟩
theorem run_ok {cb : CB} (hcb : CBok P ren cb) (hd : DrawOk P ren cb) {h : Hint} {L : Nat} : ∀ (c : Code) (ms ms' : List Msk) (cc : CC), cCode P ren h c ms = some (cc, ms') →
    ∀ {σ σ' : St} {a : Act} {w : World} {ω : Nat → Ow} {μ : Nat → Nat} {ex : Ex}, Rel ren we ωe U O σ a w ω μ → run cb nb L cc σ = some (ex, σ') → ∀ Q : Exit → Act → World → Prop, Post ren we ωe U O nb μ σ' (Q ex.to) → c.wp P Q a w :=
  fun c => (run_okM hcb hd c).1
end Go.Proofs.Ythplooifbkopgaa
