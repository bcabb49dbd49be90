/- Operations of the abstract machine: tuples taken apart; all operations but calls. -/
import Derived.Test.YthplooifbkopgaaEM
namespace Go.Proofs.Ythplooifbkopgaa
set_option linter.unusedVariables false
set_option linter.unusedSimpArgs false
variable {ren : Nat → Option Nat} {we : World} {ωe : Nat → Ow} {U : Nat → Nat → Prop} {O : Nat → Prop} {σ : St} {a : Act} {w : World} {ω : Nat → Ow} {μ : Nat → Nat} {P : Program} {nb : Nat}

theorem Rel.setSlot (R : Rel ren we ωe U O σ a w ω μ) (t : Nat) {v : V} (h : Rep ren (env U σ w ω μ) (.slot t 0) v (a.tmps.getD t undef)) : Rel ren we ωe U O { σ with t := σ.t.set t v } a w ω μ := by
  refine ⟨R.df, by simpa using R.tl, fun j v' hj => ?_, R.bs, R.fs, R.ms, R.kp, R.ow, R.ul, R.fr, R.rs⟩
  show Rep ren (env U σ w ω μ) _ _ _
  simp only at hj
  by_cases hjt : j = t
  · subst hjt
    have hlt : j < σ.t.length := by have := (List.getElem?_eq_some_iff.1 hj).1; simpa using this
    rw [List.getElem?_set_self hlt] at hj
    cases hj
    exact h
  · rw [List.getElem?_set_ne (fun e => hjt e.symm)] at hj
    exact R.ts j v' hj
/-- who holds it: one block, or none -/
theorem Rep.held {E : En} {l : Loc} {v : V} {u : Value} (h : Rep ren E l v u) (hv : ∀ x xs, v ≠ .tup (x :: xs)) : (∀ l', Rep ren E l' v u) ∨ (∃ β h, E.ω β = .gs l h ∧ ∀ (E' : En) (l' : Loc), Fr E E' → E'.ω β = .gs l' h → E'.w.heap[β]? = E.w.heap[β]? → Rep ren E' l' v u) := by
  cases h with
  | pure h => exact .inl fun _ => .pure h
  | gs sz es β c arr T f hω hb hc hn hsz hcell h1 h =>
    exact .inr ⟨β, _, hω, fun E' l' F g1 g2 => .gs sz es β c arr T f g1 (by rw [g2]; exact hb) hc hn hsz hcell h1 (fun i v hv => (h i v hv).mono F.st)⟩
  | fr sz es β c arr T f hω hb hc hn hsz hcell h1 h =>
    exact .inr ⟨β, _, hω, fun E' l' F g1 g2 => .fr sz es β c arr T f g1 (by rw [g2]; exact hb) hc hn hsz hcell h1 (fun i v hv => (h i v hv).mono F.st)⟩
  | fr0 sz A => exact .inl fun _ => .fr0 sz A
  | ub b => exact .inl fun _ => .ub b
  | mp id L hL => exact .inl fun _ => .mp id L hL
  | bx p cs β arr T f hω hb hn hcell h1 h =>
    exact .inr ⟨β, _, hω, fun E' l' F g1 g2 => .bx p cs β arr T f g1 (by rw [g2]; exact hb) hn hcell h1 (fun i v hv => (h i v hv).mono F.st)⟩
  | own id off len sz c L A hL hl hc hA => exact .inl fun _ => .own id off len sz c L A hL hl hc hA
  | ptr id off L hL => exact .inl fun _ => .ptr id off L hL
  | fp n cs k o f hl hcell h1 h => exact .inl fun _ => .fp n cs k o f hl hcell h1 h
  | fn f g caps us hr hl h => exact .inl fun _ => .fn f g caps us hr hl h
  | tup vs us hl h =>
    cases vs with
    | nil =>
      cases us with
      | nil => exact .inl fun _ => .tup [] [] rfl (by simp)
      | cons x xs => simp at hl
    | cons x xs => exact absurd rfl (hv x xs)
  | st cs us hl h h1 => exact .inl fun _ => .st cs us hl h h1
  | junk => exact .inl fun _ => .junk
theorem extract_step (R : Rel ren we ωe U O σ a w ω μ) {o : Oper} {x : Operand} {i : Nat} (hop : o.op = .extract x i) {s : Src} {t1 : TypeId} (hs : cSrc P ren t1 x = some s) {nb : Nat} {cb : CB} {pin : Bool} {σ' : St} (h : stepK cb nb σ o.dst pin (.extract s i) = some σ') : StepOk P ren we ωe U O a w o σ' nb μ := by
  simp only [stepK] at h
  split at h
  · rename_i vs hg
    split at h
    · rename_i v t hvi
      split at h
      · rename_i hall
        have hx : a.eval x = a.tmps.getD t undef := (R.opndC hs).1 t rfl
        have hr := R.opnd hs
        rw [hg] at hr
        have hr : Rep ren (env U σ w ω μ) (.slot t 0) (.tup vs) (a.eval x) := hr
        obtain ⟨us, eu, hl, hel⟩ := hr.tup_inv
        have hlt : i < vs.length := (List.getElem?_eq_some_iff.1 hvi).1
        have hui : us[i]? = some us[i] := List.getElem?_eq_getElem (by omega)
        have hnt : ∀ (j : Nat) (v : V), vs[j]? = some v → ∀ x xs, v ≠ .tup (x :: xs) := by
          intro j v hj x xs e
          have := List.all_eq_true.1 hall.1 v (List.mem_of_getElem? hj)
          subst e
          simp [notTup] at this
        refine .value (u := us[i]) (w' := w) (by simp [execOp, hop, eu, Instr.extract, hui]) ?_
        have R1 : Rel ren we ωe U O { σ with t := σ.t.set t (.tup (vs.set i .junk)) } a w ω μ := by
          refine R.setSlot t ?_
          rw [← hx, eu]
          refine .tup _ us (by simp [hl]) (fun j v' u' hj hu => ?_)
          by_cases hji : j = i
          · subst hji
            rw [List.getElem?_set_self hlt] at hj; cases hj; exact .junk
          · rw [List.getElem?_set_ne (fun e => hji e.symm)] at hj
            exact hel j v' u' hj hu
        have hT : ({ σ with t := σ.t.set t (.tup (vs.set i .junk)) } : St).t.length ≤ σ.t.length := by simp
        split at h
        case isFalse =>
          split at h
          · cases h
          · cases h
            exact ⟨ω, μ, R.put _ (fun j _ => (hel i v us[i] hvi hui).dem R.hU _), fun _ _ => rfl⟩
        rcases (hel i v us[i] hvi hui).held (hnt i v hvi) with hlight | ⟨β, hh, hβ, hmk⟩
        · exact R1.putR hT (hlight (.slot σ.t.length 0)) h
        · have hβ : ω β = .gs (.slot t (i + 1)) hh := hβ
          have F := relabel_fr U σ w μ hβ (.slot σ.t.length 0)
          have R2 := R1.relabel (l := .slot t (i + 1)) hβ (.slot σ.t.length 0) (fun t' v' hj hlh => by
            cases hlh
            simp only at hj
            have hlt' : t < σ.t.length := by have := (List.getElem?_eq_some_iff.1 hj).1; simpa using this
            rw [List.getElem?_set_self hlt'] at hj
            cases hj
            rw [← hx, eu]
            refine .tup _ us (by simp [hl]) (fun j v' u' hj hu => ?_)
            by_cases hji : j = i
            · subst hji
              rw [List.getElem?_set_self hlt] at hj; cases hj; exact .junk
            · rw [List.getElem?_set_ne (fun e => hji e.symm)] at hj
              refine (hel j v' u' hj hu).frame1 F (hnt j v' hj) (fun β2 h2 e2 => ⟨?_, rfl⟩)
              have e2 : ω β2 = .gs (.slot t (j + 1)) h2 := e2
              show upd ω β _ β2 = _
              rw [upd_other]
              · exact e2
              · rintro rfl
                rw [hβ] at e2; cases e2
                exact hji rfl) (fun id j p cs v hb hc hl => by cases hl)
          exact R2.putR hT (hmk _ _ F (upd_same _ _ _) rfl) h
      · cases h
    · cases h
  · cases h

/-- a nil slice that is given a name of local memory -/
theorem nilS_step (R : Rel ren we ωe U O σ a w ω μ) {o : Oper} (hop : o.op = .move (.const (.slice none 0 0)) ∨ o.op = .assign (.const (.slice none 0 0))) {sz k : Nat} {nb : Nat} {cb : CB} {pin : Bool} {σ' : St} (h : stepK cb nb σ o.dst pin (.nilS sz k) = some σ') : StepOk P ren we ωe U O a w o σ' nb μ := by
  have run : (execOp a.eval o).run P w = .ok (.value (.slice none 0 0)) w := by
    rcases hop with e | e <;> simp [execOp, e, Act.eval]
  refine .value run ?_
  simp only [stepK] at h
  split at h
  · rename_i hg
    cases h
    have hlt : nb + k < σ.b.length := (List.getElem?_eq_some_iff.1 hg).1
    have hne : ∀ id L, blen σ.b id = some L → id ≠ nb + k := by rintro id L hL rfl; simp [blen, hg] at hL
    have F : Fr (env U σ w ω μ) (env U (σ.setB (nb + k) (.live true [])) w ω μ) := by
      refine ⟨fun k o u h1 h2 => ⟨h1, h2⟩, fun id L hL => ⟨?_, rfl, Nat.le_refl _⟩⟩
      have hL : blen σ.b id = some L := hL
      show blen (σ.b.set (nb + k) _) id = some L
      have := hne id L hL
      unfold blen at hL ⊢
      rw [List.getElem?_set_ne (fun e => this e.symm)]
      exact hL
    have R' : Rel ren we ωe U O (σ.setB (nb + k) (.live true [])) a w ω μ := by
      refine R.step F rfl (fun t j β h _ e => ⟨e, rfl⟩) (fun id p cs h' hn => ?_) (fun id cs h' => ?_) (fun id es h' => ?_) (Kept.refl No w) (fun k _ h => no_of h) R.ow (fun k => Nat.le_refl _)
      · by_cases he : id = nb + k
        · subst he
          simp only [St.setB] at h'
          rw [List.getElem?_set_self hlt] at h'
          cases h'; exact absurd rfl hn
        · simp only [St.setB] at h'
          rw [List.getElem?_set_ne (fun e => he e.symm)] at h'
          exact .inl ⟨h', (R.live h' hn).1, rfl, fun j β h e => ⟨e, rfl⟩⟩
      · by_cases he : id = nb + k
        · subst he
          simp only [St.setB] at h'
          rw [List.getElem?_set_self hlt] at h'
          cases h'
        · simp only [St.setB] at h'
          rw [List.getElem?_set_ne (fun e => he e.symm)] at h'
          exact .inl ⟨h', (R.fs id cs h').1, rfl⟩
      · by_cases he : id = nb + k
        · subst he
          simp only [St.setB] at h'
          rw [List.getElem?_set_self hlt] at h'
          cases h'
        · simp only [St.setB] at h'
          rw [List.getElem?_set_ne (fun e => he e.symm)] at h'
          exact .inl ⟨h', (R.ms id es h').1, rfl⟩
    refine ⟨ω, μ, R'.put o.dst (fun i _ => ?_), fun _ _ => rfl⟩
    refine .own (nb + k) 0 0 sz 0 0 none ?_ (by simp) ⟨Nat.le_refl _, fun _ => .inr rfl⟩ (.inr ⟨rfl, rfl⟩)
    show blen (σ.b.set (nb + k) _) (nb + k) = some 0
    unfold blen
    rw [List.getElem?_set_self hlt]
    rfl
  · cases h
/-- an operation that is no call of a Go function -/
theorem stepK_ok (R : Rel ren we ωe U O σ a w ω μ) {o : Oper} {take : Bool} {xs : List Nat} {k : K} (hk : cK P ren o take xs = some k) {nb : Nat} {cb : CB} {pin : Bool} {σ' : St} (h : stepK cb nb σ o.dst pin k = some σ') (hc1 : ∀ f xs ys, k ≠ .call f xs ys) (hc2 : ∀ f xs ys, k ≠ .callv f xs ys) : StepOk P ren we ωe U O a w o σ' nb μ := by
  have pure : (pureK σ k).map (fun v => σ.put o.dst v) = some σ' → StepOk P ren we ωe U O a w o σ' nb μ := by
    intro hp
    simp only [Option.map_eq_some_iff] at hp
    obtain ⟨v, hv, rfl⟩ := hp
    exact .gives R (pure_ok R hk hv)
  have hk0 := hk
  unfold cK at hk
  split at hk <;> (try simp only [Option.bind_eq_bind, Option.bind_eq_some_iff, Option.some.injEq] at hk)
  · rename_i hop
    rcases moveK_inv _ _ hk with ⟨sz, k', rfl, rfl⟩ | ⟨s, hs, rfl⟩
    · exact nilS_step R (.inl hop) h
    · exact move_step R (.inl hop) hs h
  · rename_i hop
    rcases moveK_inv _ _ hk with ⟨sz, k', rfl, rfl⟩ | ⟨s, hs, rfl⟩
    · exact nilS_step R (.inr hop) h
    · exact move_step R (.inr hop) hs h
  · obtain ⟨s1, h1, s2, h2, s3, h3, rfl⟩ := hk; exact pure h
  · rename_i hop; obtain ⟨z, hz, rfl⟩ := hk; exact alloc_step R hop hz h
  · rename_i hop; obtain ⟨z, _, s, hs, rfl⟩ := hk; exact box_step R hop hs h
  · obtain ⟨z, _, d, _, hk⟩ := hk
    split at hk <;> (try simp only [Option.bind_eq_some_iff, Option.some.injEq] at hk)
    · obtain ⟨_, _, _, _, rfl⟩ := hk; cases take <;> exact pure h
    · obtain ⟨_, _, _, _, rfl⟩ := hk; cases take <;> exact pure h
    · cases hk
  · rename_i hop
    obtain ⟨d, hd, hk⟩ := hk
    split at hk <;> (try simp only [Option.bind_eq_some_iff] at hk)
    · obtain ⟨z, hz, sz, hsz, hk⟩ := hk
      split at hk
      · rename_i hcond
        simp only [Option.bind_eq_some_iff, Option.some.injEq] at hk; obtain ⟨ps, hps, rfl⟩ := hk
        exact buildSlice_step R hop hd hz hsz hcond.1 hcond.2.1 hcond.2.2 hps h
      · cases hk
    · cases hk
  · rename_i hop; obtain ⟨b, hb, n, hn, s, hs, rfl⟩ := hk; exact load_step R hop hb hn hs h
  · rename_i hop; obtain ⟨n, hn, s, hs, s2, hs2, rfl⟩ := hk; exact store_step R hop hn hs hs2 h
  · obtain ⟨s1, h1, rfl⟩ := hk; exact pure h
  · obtain ⟨d, hd, hk⟩ := hk
    split at hk <;> (try simp only [Option.bind_eq_some_iff, Option.some.injEq] at hk)
    · obtain ⟨s1, h1, s2, h2, rfl⟩ := hk; exact pure h
    · obtain ⟨s1, h1, s2, h2, rfl⟩ := hk; exact pure h
    · split at hk
      · split at hk
        · simp only [Option.bind_eq_some_iff, Option.some.injEq] at hk
          obtain ⟨s1, h1, rfl⟩ := hk; exact pure h
        · cases hk
      · cases hk
    · split at hk
      · simp only [Option.bind_eq_some_iff, Option.some.injEq] at hk
        obtain ⟨s1, h1, s2, h2, rfl⟩ := hk; exact pure h
      · cases hk
    · split at hk
      · simp only [Option.bind_eq_some_iff, Option.some.injEq] at hk
        obtain ⟨s1, h1, s2, h2, rfl⟩ := hk; exact pure h
      · cases hk
    · split at hk
      · simp only [Option.bind_eq_some_iff, Option.some.injEq] at hk
        obtain ⟨s1, h1, s2, h2, rfl⟩ := hk; exact pure h
      · cases hk
    · cases hk
  · obtain ⟨s1, h1, rfl⟩ := hk; exact pure h
  · obtain ⟨d1, hd1, d2, hd2, hk⟩ := hk
    split at hk <;> (try simp only [Option.bind_eq_some_iff, Option.some.injEq] at hk)
    · obtain ⟨s1, h1, rfl⟩ := hk; exact pure h
    · obtain ⟨d3, hd3, hk⟩ := hk
      split at hk
      · simp only [Option.bind_eq_some_iff, Option.some.injEq] at hk
        obtain ⟨s1, h1, rfl⟩ := hk; exact pure h
      · cases hk
    · cases hk
  · split at hk
    · split at hk
      · simp only [Option.bind_eq_bind, Option.bind_eq_some_iff, Option.some.injEq] at hk
        obtain ⟨g, hg, ss, hs, rfl⟩ := hk; exact pure h
      · cases hk
    · cases hk
  · rename_i hop
    obtain ⟨d, hd, hk⟩ := hk
    split at hk <;> (try simp only [Option.bind_eq_some_iff] at hk)
    · obtain ⟨z, hz, sz, hsz, i, hi, hk⟩ := hk
      split at hk
      · rename_i hcond
        simp only [Option.bind_eq_some_iff, Option.some.injEq] at hk; obtain ⟨_, h1, _, h2, rfl⟩ := hk
        exact makeSlice_step R hop hd hz hsz hi hcond.1 hcond.2 h1 h2 h
      · cases hk
    · cases hk
  · split at hk
    · cases hk
    · simp only [Option.bind_eq_bind, Option.bind_eq_some_iff] at hk
      obtain ⟨d, hd, hk⟩ := hk
      split at hk <;> (try simp only [Option.bind_eq_some_iff] at hk)
      · obtain ⟨sz, hsz, hk⟩ := hk
        split at hk
        · simp only [Option.bind_eq_some_iff, Option.some.injEq] at hk
          obtain ⟨s0, h0, s1, h1, s2, h2, s3, h3, rfl⟩ := hk; exact pure h
        · cases hk
      · obtain ⟨sz, hsz, hk⟩ := hk
        split at hk
        · simp only [Option.bind_eq_some_iff, Option.some.injEq] at hk
          obtain ⟨s0, h0, s1, h1, s2, h2, s3, h3, rfl⟩ := hk; exact pure h
        · cases hk
      · cases hk
  · obtain ⟨d, hd, hk⟩ := hk
    split at hk <;> (try simp only [Option.bind_eq_some_iff] at hk)
    · obtain ⟨f, hf, n, hn, hk⟩ := hk
      split at hk
      · cases hk
      · simp only [Option.bind_eq_some_iff, Option.some.injEq] at hk
        obtain ⟨s1, h1, rfl⟩ := hk; exact pure h
    · cases hk
  · obtain ⟨d, hd, hk⟩ := hk
    split at hk <;> (try simp only [Option.bind_eq_some_iff, Option.some.injEq] at hk)
    · obtain ⟨f, hf, b, hb, n, hn, s1, h1, rfl⟩ := hk; exact pure h
    · cases hk
  · obtain ⟨d, hd, hk⟩ := hk
    split at hk <;> (try simp only [Option.bind_eq_some_iff, Option.some.injEq] at hk)
    · obtain ⟨n, hn, s1, h1, s2, h2, rfl⟩ := hk; exact pure h
    · obtain ⟨sz, hsz, hk⟩ := hk
      split at hk
      · simp only [Option.bind_eq_some_iff, Option.some.injEq] at hk
        obtain ⟨s1, h1, s2, h2, rfl⟩ := hk; exact pure h
      · cases hk
    · cases hk
  · obtain ⟨d, hd, hk⟩ := hk
    split at hk <;> (try simp only [Option.bind_eq_some_iff, Option.some.injEq] at hk)
    · obtain ⟨b, hb, n, hn, s1, h1, s2, h2, rfl⟩ := hk; exact pure h
    · cases hk
  · rename_i hop
    split at hk
    · rename_i hr
      cases hk
      rename_i t r
      have hr : r = none := by simpa using hr
      subst hr
      exact makeMap_step R hop h
    · cases hk
  · rename_i hop
    obtain ⟨d, hd, hk⟩ := hk
    split at hk <;> (try simp only [Option.bind_eq_some_iff, Option.some.injEq] at hk)
    · obtain ⟨kd, hkd, z, hz, s1, h1, s2, h2, rfl⟩ := hk; exact mlook_step R hop hd hkd hz h1 h2 h
    · cases hk
  · rename_i hop
    obtain ⟨d, hd, hk⟩ := hk
    split at hk <;> (try simp only [Option.bind_eq_some_iff, Option.some.injEq] at hk)
    · obtain ⟨kd, hkd, s1, h1, s2, h2, s3, h3, rfl⟩ := hk; exact mput_step R (.inl hop) hd hkd h1 h2 h3 h
    · cases hk
  · rename_i hop
    obtain ⟨d, hd, hk⟩ := hk
    split at hk <;> (try simp only [Option.bind_eq_some_iff, Option.some.injEq] at hk)
    · obtain ⟨kd, hkd, s1, h1, s2, h2, s3, h3, rfl⟩ := hk; exact mput_step R (.inr hop) hd hkd h1 h2 h3 h
    · cases hk
  · rename_i hop; obtain ⟨s, hs, rfl⟩ := hk
    cases take with
    | true => exact extract_step R hop hs h
    | false => exact pure h
  · rename_i c hop
    obtain ⟨callee, args, ats⟩ := c
    simp only at hk
    split at hk <;> (try simp only [Option.bind_eq_bind, Option.bind_eq_some_iff, Option.some.injEq] at hk)
    · split at hk
      · split at hk
        · simp only [Option.bind_eq_bind, Option.bind_eq_some_iff, Option.some.injEq] at hk
          obtain ⟨s1, h1, s2, h2, rfl⟩ := hk; exact pure h
        · cases hk
      · simp only [Option.bind_eq_bind, Option.bind_eq_some_iff, Option.some.injEq] at hk
        obtain ⟨_, _, _, _, rfl⟩ := hk; exact absurd rfl (hc1 _ _ _)
    · obtain ⟨_, _, rfl⟩ := hk; exact absurd rfl (hc2 _ _ _)
    · unfold cBuiltin at hk
      split at hk <;> (try simp only [Option.bind_eq_bind, Option.bind_eq_some_iff, Option.some.injEq] at hk)
      · obtain ⟨d, hd, hk⟩ := hk
        split at hk <;> (try simp only [Option.bind_eq_some_iff, Option.some.injEq] at hk)
        · obtain ⟨s1, h1, rfl⟩ := hk; exact pure h
        · obtain ⟨s1, h1, rfl⟩ := hk; exact pure h
        · subst hk; exact pure h
        · rename_i e1 e2 _ _ _
          obtain rfl := array_of_list e1
          obtain rfl := array_of_list e2
          obtain ⟨s1, h1, rfl⟩ := hk; exact lenM_step R hop hd h1 h
        · cases hk
      · rename_i e1 e2
        obtain rfl := array_of_list e1
        obtain rfl := array_of_list e2
        obtain ⟨d1, hd1, d2, hd2, hk⟩ := hk
        split at hk <;> (try simp only [Option.bind_eq_some_iff] at hk)
        · obtain ⟨sz, hsz, i, hi, z, hz, hk⟩ := hk
          split at hk
          · rename_i hcond
            obtain ⟨q1, q2, q3⟩ := hcond
            subst q3
            simp only [Option.bind_eq_some_iff, Option.some.injEq] at hk; obtain ⟨_, h1, _, h2, rfl⟩ := hk
            exact append_step R hop hd1 hsz hi hz q1 q2 h1 h2 h
          · cases hk
        · obtain ⟨sz, hsz, i, hi, z, hz, hk⟩ := hk
          split at hk
          · rename_i hcond
            simp only [Option.bind_eq_some_iff, Option.some.injEq] at hk; obtain ⟨_, h1, _, h2, rfl⟩ := hk
            exact appendZ_step R hop hd1 hd2 hsz hi hz hcond.1 hcond.2 h1 h2 h
          · cases hk
        · cases hk
      · rename_i e1 e2
        obtain rfl := array_of_list e1
        obtain rfl := array_of_list e2
        obtain ⟨d1, hd1, d2, hd2, hk⟩ := hk
        split at hk <;> (try simp only [Option.bind_eq_some_iff] at hk)
        · obtain ⟨sz, hsz, hk⟩ := hk
          split at hk
          · simp only [Option.bind_eq_some_iff, Option.some.injEq] at hk; obtain ⟨_, h1, _, h2, rfl⟩ := hk
            exact copy_step R hop hd1 hsz (by assumption) h1 h2 h
          · cases hk
        · cases hk
      · rename_i e1 e2
        obtain rfl := array_of_list e1
        obtain rfl := array_of_list e2
        obtain ⟨d1, hd1, hk⟩ := hk
        split at hk <;> (try simp only [Option.bind_eq_some_iff] at hk)
        · obtain ⟨sz, hsz, z, hz, hk⟩ := hk
          split at hk
          · rename_i hcond
            simp only [Option.bind_eq_some_iff, Option.some.injEq] at hk; obtain ⟨_, h1, rfl⟩ := hk
            exact clear_step R hop hd1 hsz hcond.1 hz hcond.2 h1 h
          · cases hk
        · cases hk
      · obtain ⟨s1, h1, s2, h2, rfl⟩ := hk; exact pure h
      · obtain ⟨s1, h1, s2, h2, rfl⟩ := hk; exact pure h
      · cases hk
    · cases hk
  · cases hk
end Go.Proofs.Ythplooifbkopgaa
