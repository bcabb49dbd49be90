/- The operation 'call'; an operation with its guard. -/
import Derived.Test.YthplooifbkopgaaE19
namespace Go.Proofs.Ythplooifbkopgaa
set_option linter.unusedVariables false
set_option linter.unusedSimpArgs false
variable {ren : Nat → Option Nat} {we : World} {ωe : Nat → Ow} {U : Nat → Nat → Prop} {O : Nat → Prop} {σ : St} {a : Act} {w : World} {ω : Nat → Ow} {μ : Nat → Nat} {P : Program} {nb : Nat}

theorem freeIds_spec {b : List B} {nb : Nat} : ∀ {xs : List Nat}, freeIds b nb xs = true → (xs.map (nb + ·)).Nodup ∧ ∀ x ∈ xs.map (nb + ·), b[x]? = some .gone
  | [], _ => ⟨by simp, by simp⟩
  | x :: xs, h => by
    simp only [freeIds, Bool.and_eq_true] at h
    obtain ⟨⟨h1, h2⟩, h3⟩ := h
    obtain ⟨i1, i2⟩ := freeIds_spec h3
    have hg : b[nb + x]? = some .gone := by
      split at h2
      · assumption
      · cases h2
    refine ⟨?_, ?_⟩
    · rw [List.map_cons, List.nodup_cons]
      refine ⟨fun hm => ?_, i1⟩
      simp only [List.mem_map] at hm
      obtain ⟨y, hy, e⟩ := hm
      have : y = x := by omega
      subst this
      simp [hy] at h1
    · intro y hy
      rw [List.map_cons] at hy
      rcases List.mem_cons.1 hy with rfl | hy
      · exact hg
      · exact i2 y hy
theorem doCall_ok (R : Rel ren we ωe U O σ a w ω μ) {cb : CB} (hcb : CBok P ren cb) {f : FuncId} {g : Nat} (hf : ren f = some g) {srcs : List (Src × Nat)} {args : List V} {us : List Value} (hlen : args.length = us.length)
    (hargs : ∀ ω1, Rel ren we ωe U O { σ with b := frozenBy σ srcs σ.b } a w ω1 μ → Fr (env U σ w ω μ) (env U { σ with b := frozenBy σ srcs σ.b } w ω1 μ) → ∀ (i : Nat) (v : V) (u : Value), args[i]? = some v → us[i]? = some u →
      RepP ren w (wr U ω1) v u ∨ (∀ l, Rep ren (env U { σ with b := frozenBy σ srcs σ.b } w ω1 μ) l v u ∧ Form v))
    {nb : Nat} {dst : Option Nat} {pin : Bool} {σ' : St} {xs : List Nat} (h : doCall cb nb σ dst pin g args srcs xs = some σ') :
    callable P f = true ∧ Calls P f us.toArray w fun e w' => ∃ u, e = .returned u ∧ ∃ ω' μ', Rel ren we ωe U O σ' (a.put dst u) w' ω' μ' ∧ ∀ k, k < nb → μ' k = μ k := by
  obtain ⟨ω1, R1, F1⟩ := R.frozenBy σ srcs
  have hargs1 := hargs ω1 R1 F1
  unfold doCall at h
  simp only [Option.bind_eq_bind, Option.bind_eq_some_iff] at h
  obtain ⟨bor, hl, ⟨r, bor'⟩, hr, h⟩ := h
  simp only at h hr
  split at h
  · rename_i hc
    obtain ⟨c1, c1', c2, c3, c3', c4, c5, c6, c7⟩ := hc
    have hn : (lentIds (frozenBy σ srcs σ.b) args).Nodup := closure_nodup _ _ _ _ (by simp)
    obtain ⟨k1', k2'⟩ := freeIds_spec c7
    have k1 : ((xs.map (nb + ·)).take (bor'.length - (lentIds (frozenBy σ srcs σ.b) args).length)).Nodup := k1'.sublist (List.take_sublist _ _)
    have k2 : ∀ x ∈ (xs.map (nb + ·)).take (bor'.length - (lentIds (frozenBy σ srcs σ.b) args).length), (frozenBy σ srcs σ.b)[x]? = some .gone := fun x hx => k2' x (List.mem_of_mem_take hx)
    have hn2 : (lentIds (frozenBy σ srcs σ.b) args ++ (xs.map (nb + ·)).take (bor'.length - (lentIds (frozenBy σ srcs σ.b) args).length)).Nodup := by
      rw [List.nodup_append]
      refine ⟨hn, k1, fun x hx y hy => ?_⟩
      rintro rfl
      have hgone := k2 x hy
      obtain ⟨i, hi, e⟩ := List.getElem_of_mem hx
      rcases (lendAll_spec _ bor hl).2 i x (by rw [List.getElem?_eq_getElem hi, e]) with ⟨p, cs, g1, _⟩ | ⟨es, g1, _⟩ <;> (rw [hgone] at g1; cases g1)
    obtain ⟨hcall, hp⟩ := hcb _ _ _ _ _ hr f hf
    refine ⟨hcall, (hp w us _ _ _ _ (R1.enterRel hn hl hlen hargs1 c2)).mono ?_⟩
    rintro e w' ⟨u, ω', μ', rfl, Rc, hμ⟩
    refine ⟨u, rfl, ?_⟩
    obtain ⟨ω2, μ2, R2, hr2, hm2⟩ := R1.leave hn2 k2 hl Rc hμ c1 c1' c4 c3 c3' c5 c6
    obtain ⟨ω3, μ3, R3, hm3⟩ := R2.putR (Nat.le_refl _) hr2 h
    refine ⟨ω3, μ3, R3, fun k hk => (hm3 k hk).trans (hm2 k ?_)⟩
    intro hm
    have hm := List.mem_of_mem_take hm
    simp only [List.mem_map] at hm
    obtain ⟨y, _, e⟩ := hm
    omega
  · cases h
theorem StepOk.enter {o : Oper} {σ' : St} {f : FuncId} {us : Array Value} (h : (execOp a.eval o).run P w = .ok (.enter f us) w) (hc : Calls P f us w fun e w' => ∃ u, e = .returned u ∧ ∃ ω' μ', Rel ren we ωe U O σ' (a.put o.dst u) w' ω' μ' ∧ ∀ k, k < nb → μ' k = μ k) : StepOk P ren we ωe U O a w o σ' nb μ := by
  intro K Q hK
  unfold Oper.wp
  rw [h]
  refine hc.mono ?_
  rintro e w' ⟨u, rfl, ω', μ', R, hm⟩
  exact hK _ _ _ _ R hm
theorem callable_run {f : FuncId} (h : callable P f = true) (us : Array Value) (w : World) : (callFunc f us).run P w = .ok (.enter f us) w := by
  unfold callable at h
  cases hf : P.funcs[f]? with
  | none => simp [hf] at h
  | some fn =>
    simp only [hf, Bool.and_eq_true, bne_iff_ne, ne_eq] at h
    have hb : fn.body.isNone = false := by
      cases hb : fn.body with
      | none => simp [hb] at h
      | some c => rfl
    simp [callFunc, hf, h.2]
    intro e
    rw [e] at hb; cases hb
theorem cArgsT_spec (ld : Nat) : ∀ (xs : List Operand) (ts : List TypeId) (ss : List (Src × Nat)), cArgsT P ren ld xs ts = some ss → ss.length = xs.length ∧ ∀ (i : Nat) (s : Src × Nat), ss[i]? = some s → ∃ x ty, xs[i]? = some x ∧ cSrc P ren ty x = some s.1
  | [], ts, ss, h => by cases h; exact ⟨rfl, by simp⟩
  | x :: xs, ts, ss, h => by
    simp only [cArgsT, Option.bind_eq_bind, Option.bind_eq_some_iff, Option.pure_def, Option.some.injEq] at h
    obtain ⟨s, hs, rest, hr, rfl⟩ := h
    obtain ⟨e, ih⟩ := cArgsT_spec ld xs ts.tail rest hr
    refine ⟨by simp [e], fun i s' hi => ?_⟩
    cases i with
    | zero => simp at hi; subst hi; exact ⟨x, _, rfl, hs⟩
    | succ i => simp at hi; simpa using ih i s' hi
theorem args_rep (R : Rel ren we ωe U O σ a w ω μ) {xs : List Operand} {ts : List TypeId} {ss : List (Src × Nat)} {ld : Nat} (h : cArgsT P ren ld xs ts = some ss) {vs : List V} (hv : ss.mapM (argOf σ) = some vs) :
    vs.length = xs.length ∧ ∀ ω1, Rel ren we ωe U O { σ with b := frozenBy σ ss σ.b } a w ω1 μ → Fr (env U σ w ω μ) (env U { σ with b := frozenBy σ ss σ.b } w ω1 μ) → ∀ (i : Nat) (v : V) (u : Value), vs[i]? = some v → (xs.map a.eval)[i]? = some u →
      RepP ren w (wr U ω1) v u ∨ (∀ l, Rep ren (env U { σ with b := frozenBy σ ss σ.b } w ω1 μ) l v u ∧ Form v) := by
  obtain ⟨e1, e2⟩ := cArgsT_spec ld xs ts ss h
  refine ⟨by rw [mapM_len' hv, e1], fun ω1 R1 F1 i v u hvi hui => ?_⟩
  have hlt : i < ss.length := by rw [← mapM_len' hv]; exact (List.getElem?_eq_some_iff.1 hvi).1
  obtain ⟨v', g1, g2⟩ := mapM_at' hv i _ (List.getElem?_eq_getElem hlt)
  rw [hvi] at g1; cases g1
  obtain ⟨x, ty, g3, g4⟩ := e2 i _ (List.getElem?_eq_getElem hlt)
  rw [List.getElem?_map, g3] at hui
  cases hui
  exact argOf_rep R R1 F1 (List.getElem_mem hlt) g4 g2
theorem call_step (R : Rel ren we ωe U O σ a w ω μ) {cb : CB} (hcb : CBok P ren cb) {o : Oper} {f : FuncId} {args : Array Operand} {ats : Array TypeId} (hop : o.op = .call { callee := .value (.func f), args := args, argTypes := ats }) {g : Nat} (hf : ren f = some g) {ss : List (Src × Nat)} {ld : Nat} (hs : cArgsT P ren ld args.toList ats.toList = some ss) {nb : Nat} {pin : Bool} {xs : List Nat} {σ' : St} (h : stepK cb nb σ o.dst pin (.call g ss xs) = some σ') : StepOk P ren we ωe U O a w o σ' nb μ := by
  simp only [stepK, Option.bind_eq_bind, Option.bind_eq_some_iff] at h
  obtain ⟨vs, hv, h⟩ := h
  obtain ⟨e1, e2⟩ := args_rep R hs hv
  obtain ⟨hc, hcalls⟩ := doCall_ok R hcb hf (us := args.toList.map a.eval) (by simpa using e1) e2 h
  refine .enter (us := (args.toList.map a.eval).toArray) ?_ hcalls
  have ef : a.eval (.func f) = .func (.func f) #[] #[] := rfl
  simp only [execOp, hop, resolve, ef, Deferred.ofValue, Sem.run_bind, Sem.run_pure, Result.andThen_ok, invoke]
  rw [show #[] ++ args.map a.eval ++ #[] = (args.toList.map a.eval).toArray by apply Array.ext'; simp]
  exact callable_run hc _ w
theorem callv_step (R : Rel ren we ωe U O σ a w ω μ) {cb : CB} (hcb : CBok P ren cb) {o : Oper} {t : Nat} {args : Array Operand} {ats : Array TypeId} (hop : o.op = .call { callee := .value (.tmp t), args := args, argTypes := ats }) {ss : List (Src × Nat)} {ld : Nat} (hs : cArgsT P ren ld args.toList ats.toList = some ss) {nb : Nat} {pin : Bool} {xs : List Nat} {σ' : St} (h : stepK cb nb σ o.dst pin (.callv (.tmp t) ss xs) = some σ') : StepOk P ren we ωe U O a w o σ' nb μ := by
  simp only [stepK] at h
  split at h
  · rename_i g caps hg
    simp only [Option.bind_eq_bind, Option.bind_eq_some_iff] at h
    obtain ⟨vs, hv, h⟩ := h
    have hr := R.slot t
    have hg : σ.t.getD t .junk = .fn g caps := hg
    rw [hg] at hr
    obtain ⟨f, us, eu, hf, hcl, hcaps⟩ := hr.fn_inv
    obtain ⟨e1, e2⟩ := args_rep R hs hv
    have hvl : vs.length = (args.toList.map a.eval).length := by simpa using e1
    obtain ⟨hc, hcalls⟩ := doCall_ok R hcb hf (args := vs ++ caps) (us := args.toList.map a.eval ++ us) (by simp [hcl, ← hvl]) (fun ω1 R1 F1 i v u hi hu => by
      by_cases hlt : i < vs.length
      · rw [List.getElem?_append_left hlt] at hi
        rw [List.getElem?_append_left (by omega)] at hu
        exact e2 ω1 R1 F1 i v u hi hu
      · rw [List.getElem?_append_right (by omega)] at hi
        rw [List.getElem?_append_right (by omega), ← hvl] at hu
        obtain ⟨id, off, L, rfl, q1, q2⟩ := hcaps _ v hi
        rw [q2] at hu; cases hu
        exact .inr fun l => ⟨Rep.frame0 F1 (fun _ => .ptr id off L q1) (by simp) l, .inl ⟨id, off, rfl⟩⟩) h
    refine .enter (us := (args.toList.map a.eval ++ us).toArray) ?_ hcalls
    have ef : a.eval (.tmp t) = .func (.func f) #[] us.toArray := eu
    simp only [execOp, hop, resolve, ef, Deferred.ofValue, Sem.run_bind, Sem.run_pure, Result.andThen_ok, invoke]
    rw [show #[] ++ args.map a.eval ++ us.toArray = (args.toList.map a.eval ++ us).toArray by apply Array.ext'; simp]
    exact callable_run hc _ w
  · cases h
/-- every operation -/
theorem step_ok (R : Rel ren we ωe U O σ a w ω μ) {cb : CB} (hcb : CBok P ren cb) {o : Oper} {take : Bool} {xs : List Nat} {k : K} (hk : cK P ren o take xs = some k) {nb : Nat} {pin : Bool} {σ' : St} (h : stepK cb nb σ o.dst pin k = some σ') : StepOk P ren we ωe U O a w o σ' nb μ := by
  by_cases hc : (∃ f xs ys, k = .call f xs ys) ∨ (∃ f xs ys, k = .callv f xs ys)
  · have hcc : ∃ c, o.op = .call c := by
      unfold cK at hk
      split at hk <;> (try simp only [Option.bind_eq_bind, Option.bind_eq_some_iff, Option.some.injEq] at hk)
      all_goals first
        | exact ⟨_, by assumption⟩
        | (exfalso
           rcases hc with ⟨f, xs, ys, rfl⟩ | ⟨f, xs, ys, rfl⟩ <;> first
            | (rcases moveK_inv _ _ hk with ⟨_, _, _, e⟩ | ⟨_, _, e⟩ <;> cases e; done)
            | (obtain ⟨_, _, hk⟩ := hk; cases hk; done)
            | (obtain ⟨_, _, _, _, hk⟩ := hk; cases hk; done)
            | (obtain ⟨_, _, _, _, _, _, hk⟩ := hk; cases hk; done)
            | (cases hk; done)
            | (repeat' (first | (split at hk) | (simp only [Option.bind_eq_bind, Option.bind_eq_some_iff, Option.some.injEq] at hk) | (obtain ⟨_, _, hk⟩ := hk) | (cases hk; done))))
    obtain ⟨⟨callee, args, ats⟩, hop⟩ := hcc
    unfold cK at hk
    rw [hop] at hk
    simp only at hk
    split at hk <;> (try simp only [Option.bind_eq_bind, Option.bind_eq_some_iff, Option.some.injEq] at hk)
    · split at hk
      · exfalso
        split at hk
        · simp only [Option.bind_eq_bind, Option.bind_eq_some_iff, Option.some.injEq] at hk
          obtain ⟨s1, h1, s2, h2, rfl⟩ := hk
          rcases hc with ⟨f, xs, ys, e⟩ | ⟨f, xs, ys, e⟩ <;> cases e
        · cases hk
      · simp only [Option.bind_eq_bind, Option.bind_eq_some_iff, Option.some.injEq] at hk
        obtain ⟨g, hg, ss, hs, rfl⟩ := hk; exact call_step R hcb hop hg hs h
    · obtain ⟨ss, hs, rfl⟩ := hk; exact callv_step R hcb hop hs h
    · exfalso
      unfold cBuiltin at hk
      rcases hc with ⟨f, xs, ys, rfl⟩ | ⟨f, xs, ys, rfl⟩ <;>
        (repeat' (first | (split at hk) | (simp only [Option.bind_eq_bind, Option.bind_eq_some_iff, Option.some.injEq] at hk) | (obtain ⟨_, _, hk⟩ := hk) | (cases hk; done)))
    · cases hk
  · exact stepK_ok R hk h (fun f xs ys e => hc (.inl ⟨f, xs, ys, e⟩)) (fun f xs ys e => hc (.inr ⟨f, xs, ys, e⟩))
end Go.Proofs.Ythplooifbkopgaa
