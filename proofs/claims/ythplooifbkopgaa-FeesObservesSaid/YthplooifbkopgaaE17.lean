/- Calls: what is handed to a function, and what comes back. -/
import Derived.Test.YthplooifbkopgaaE16
namespace Go.Proofs.Ythplooifbkopgaa
set_option linter.unusedVariables false
set_option linter.unusedSimpArgs false
variable {ren : Nat → Option Nat} {we : World} {ωe : Nat → Ow} {U : Nat → Nat → Prop} {O : Nat → Prop} {σ : St} {a : Act} {w : World} {ω : Nat → Ow} {μ : Nat → Nat} {P : Program}

def toB (x : B) : B := x
theorem map_toB (l : List B) : l.map toB = l := by induction l with | nil => rfl | cons x l ih => simp [toB, ih]
/-- a call of the model's function f, seen through the abstract machine -/
def PCall (P : Program) (ren : Nat → Option Nat) (f : FuncId) (args : List V) (bor : Bor) (r : V) (bor' : Bor) : Prop :=
  ∀ (w : World) (us : List Value) (U : Nat → Nat → Prop) (O : Nat → Prop) (ω : Nat → Ow) (μ : Nat → Nat), Rel ren w ω U O ⟨args, bor.map toB⟩ ⟨us.toArray, []⟩ w ω μ →
    Calls P f us.toArray w fun e w' => ∃ u ω' μ', e = .returned u ∧ Rel ren w ω U O ⟨[r], bor'.map toB⟩ ⟨#[u], []⟩ w' ω' μ' ∧ ∀ k, k < bor.length → μ' k = μ k
def callable (P : Program) (f : FuncId) : Bool := match P.funcs[f]? with | some fn => fn.body.isSome && fn.name != "runtime.NumGoroutine" | none => false
def CBok (P : Program) (ren : Nat → Option Nat) (cb : CB) : Prop := ∀ g args bor r bor', cb g args bor = some (r, bor') → ∀ f, ren f = some g → callable P f = true ∧ PCall P ren f args bor r bor'

/-! ### what is lent as a slice is written no more -/
theorem freeze_get (b : List B) (id k : Nat) : (freeze b id)[k]? = b[k]? ∨ (∃ cs, b[k]? = some (.live true cs) ∧ k = id ∧ cs ≠ [] ∧ (freeze b id)[k]? = some (.fz cs)) := by
  unfold freeze
  split
  · rename_i c cs hb
    by_cases hk : k = id
    · subst hk
      exact .inr ⟨c :: cs, hb, rfl, by simp, List.getElem?_set_self (List.getElem?_eq_some_iff.1 hb).1⟩
    · exact .inl (List.getElem?_set_ne (fun e => hk e.symm))
  · exact .inl rfl
theorem freeze_live {b : List B} {id : Nat} {cs : List V} (hb : b[id]? = some (.live true cs)) (hne : cs ≠ []) : freeze b id = b.set id (.fz cs) := by
  cases cs with
  | nil => exact absurd rfl hne
  | cons c cs => unfold freeze; rw [hb]
theorem Rel.freeze (R : Rel ren we ωe U O σ a w ω μ) (id : Nat) : ∃ ω', Rel ren we ωe U O { σ with b := freeze σ.b id } a w ω' μ ∧ Fr (env U σ w ω μ) (env U { σ with b := freeze σ.b id } w ω' μ) := by
  by_cases hl : ∃ cs, σ.b[id]? = some (.live true cs) ∧ cs ≠ []
  · obtain ⟨cs, hb, hcne⟩ := hl
    have hlt : id < σ.b.length := (List.getElem?_eq_some_iff.1 hb).1
    have hf : Go.Proofs.Ythplooifbkopgaa.freeze σ.b id = σ.b.set id (.fz cs) := freeze_live hb hcne
    obtain ⟨e0, arr, T, e1, e2, e3⟩ := R.live hb hcne
    have hnU : ∀ o, ¬ U (μ id) o := by
      intro o hu
      have h1 := R.ul _ _ hu
      rcases (R.ow (μ id) (by rw [e0]; simp)).1 with h | h
      · omega
      · exact h1.2 h
    have F : Fr (env U σ w ω μ) (env U { σ with b := Go.Proofs.Ythplooifbkopgaa.freeze σ.b id } w (upd ω (μ id) .no) μ) := by
      refine ⟨fun k o u h1 h2 => ⟨?_, h2⟩, fun id' L hL => ⟨?_, rfl, Nat.le_refl _⟩⟩
      · have h1 : ¬ wr U ω k o := h1
        show ¬ wr U (upd ω (μ id) .no) k o
        unfold wr at h1 ⊢
        by_cases hk : k = μ id
        · subst hk; rw [upd_same]; simp only [not_or] at h1 ⊢; exact ⟨h1.1, fun h => h⟩
        · rw [upd_other _ _ hk]; exact h1
      · have hL : blen σ.b id' = some L := hL
        show blen (Go.Proofs.Ythplooifbkopgaa.freeze σ.b id) id' = some L
        rw [hf]
        unfold blen at hL ⊢
        by_cases hne : id' = id
        · subst hne
          rw [List.getElem?_set_self hlt]
          rw [hb] at hL
          exact hL
        · rw [List.getElem?_set_ne (fun e => hne e.symm)]; exact hL
    have hgs : ∀ (l : Loc) β h, ω β = .gs l h → upd ω (μ id) .no β = .gs l h := by
      intro l β h e
      rw [upd_other]
      · exact e
      · rintro rfl; rw [e0] at e; cases e
    refine ⟨upd ω (μ id) .no, R.step F rfl (fun t j β h _ e => ⟨hgs _ β h e, rfl⟩) (fun id' p' cs' h' hne' => ?_) (fun id' cs' h' => ?_) (fun id' es' h' => ?_) (Kept.refl No w) (fun k _ h => no_of h) (fun k hk => ?_) (fun k => Nat.le_refl _), F⟩
    · simp only at h'
      rw [hf] at h'
      by_cases hne : id' = id
      · subst hne; rw [List.getElem?_set_self hlt] at h'; cases h'
      · rw [List.getElem?_set_ne (fun e => hne e.symm)] at h'
        obtain ⟨q0, _⟩ := R.live h' hne'
        refine .inl ⟨h', ?_, rfl, fun j β h e => ⟨hgs _ β h e, rfl⟩⟩
        rw [upd_other]
        · exact q0
        · intro e; rw [e, e0] at q0; cases q0; exact hne rfl
    · simp only at h'
      rw [hf] at h'
      by_cases hne : id' = id
      · subst hne
        rw [List.getElem?_set_self hlt] at h'; cases h'
        refine .inr ⟨fun o ho => ?_, arr, T, _, e1, e2, fun j c hc => ?_⟩
        · unfold wr at ho
          rw [upd_same] at ho
          rcases ho with ho | ho
          · exact hnU o ho
          · exact ho
        · obtain ⟨u, g1, g2, g3, _⟩ := e3 j c hc
          exact ⟨u, g1, g2, (g3 rfl).mono F.st⟩
      · rw [List.getElem?_set_ne (fun e => hne e.symm)] at h'
        obtain ⟨q0, _⟩ := R.fs id' cs' h'
        refine .inl ⟨h', fun o ho => q0 o ?_, rfl⟩
        unfold wr at ho ⊢
        by_cases hk : μ id' = μ id
        · rw [hk, upd_same] at ho
          rcases ho with ho | ho
          · exact .inl (by rw [hk]; exact ho)
          · exact ho.elim
        · rwa [upd_other _ _ hk] at ho
    · simp only at h'
      rw [hf] at h'
      by_cases hne : id' = id
      · subst hne; rw [List.getElem?_set_self hlt] at h'; cases h'
      · rw [List.getElem?_set_ne (fun e => hne e.symm)] at h'
        obtain ⟨q0, _⟩ := R.ms id' es' h'
        refine .inl ⟨h', ?_, rfl⟩
        rw [upd_other]
        · exact q0
        · intro e; rw [e, e0] at q0; cases q0; exact hne rfl
    · by_cases hkb : k = μ id
      · subst hkb; rw [upd_same] at hk; exact absurd rfl hk
      · rw [upd_other _ _ hkb] at hk; exact R.ow k hk
  · have hf : Go.Proofs.Ythplooifbkopgaa.freeze σ.b id = σ.b := by
      unfold Go.Proofs.Ythplooifbkopgaa.freeze
      split
      · rename_i c cs hb; exact absurd ⟨c :: cs, hb, by simp⟩ hl
      · rfl
    refine ⟨ω, ?_, ?_⟩
    · have : ({ σ with b := Go.Proofs.Ythplooifbkopgaa.freeze σ.b id } : St) = σ := by rw [hf]
      rw [this]; exact R
    · have : ({ σ with b := Go.Proofs.Ythplooifbkopgaa.freeze σ.b id } : St) = σ := by rw [hf]
      rw [this]
      exact ⟨fun k o u h1 h2 => ⟨h1, h2⟩, fun id L hL => ⟨hL, rfl, Nat.le_refl _⟩⟩
theorem Fr.trans {E E' E'' : En} (F : Fr E E') (G : Fr E' E'') : Fr E E'' :=
  ⟨fun k o u h1 h2 => G.st k o u (F.st k o u h1 h2).1 (F.st k o u h1 h2).2, fun id L hL => by
    obtain ⟨f1, f2, f3⟩ := F.id id L hL
    obtain ⟨g1, g2, g3⟩ := G.id id L f1
    refine ⟨g1, g2.trans f2, ?_⟩
    rw [f2] at g3
    exact Nat.le_trans f3 g3⟩
theorem Rel.frozenBy (s0 : St) : ∀ (srcs : List (Src × Nat)) {σ : St} {ω : Nat → Ow}, Rel ren we ωe U O σ a w ω μ → ∃ ω', Rel ren we ωe U O { σ with b := frozenBy s0 srcs σ.b } a w ω' μ ∧ Fr (env U σ w ω μ) (env U { σ with b := frozenBy s0 srcs σ.b } w ω' μ)
  | [], σ, ω, R => ⟨ω, R, ⟨fun k o u h1 h2 => ⟨h1, h2⟩, fun id L hL => ⟨hL, rfl, Nat.le_refl _⟩⟩⟩
  | s :: srcs, σ, ω, R => by
    unfold Go.Proofs.Ythplooifbkopgaa.frozenBy
    by_cases hm : 2 ≤ s.2
    · rw [if_pos hm]; exact Rel.frozenBy s0 srcs R
    rw [if_neg hm]
    cases hid : ownId (s.1.get s0) with
    | none => simp only; exact Rel.frozenBy s0 srcs R
    | some id =>
      simp only
      obtain ⟨ω1, R1, F1⟩ := R.freeze id
      obtain ⟨ω2, R2, F2⟩ := Rel.frozenBy s0 srcs R1
      exact ⟨ω2, R2, F1.trans F2⟩
theorem frozenBy_get (s0 : St) : ∀ (srcs : List (Src × Nat)) (b : List B) (k : Nat), (frozenBy s0 srcs b)[k]? = b[k]? ∨ (∃ cs, b[k]? = some (.live true cs) ∧ (frozenBy s0 srcs b)[k]? = some (.fz cs))
  | [], b, k => .inl rfl
  | s :: srcs, b, k => by
    unfold frozenBy
    by_cases hm : 2 ≤ s.2
    · rw [if_pos hm]; exact frozenBy_get s0 srcs b k
    rw [if_neg hm]
    cases hid : ownId (s.1.get s0) with
    | none => exact frozenBy_get s0 srcs b k
    | some id =>
      simp only
      rcases frozenBy_get s0 srcs (freeze b id) k with h | ⟨cs, h1, h2⟩
      · rcases freeze_get b id k with g | ⟨cs, g1, _, _, g2⟩
        · exact .inl (h.trans g)
        · exact .inr ⟨cs, g1, h.trans g2⟩
      · rcases freeze_get b id k with g | ⟨cs', g1, _, _, g2⟩
        · exact .inr ⟨cs, g.symm.trans h1, h2⟩
        · rw [g2] at h1; cases h1
theorem frozenBy_own (s0 : St) : ∀ (srcs : List (Src × Nat)) (b : List B) (s : Src × Nat), s ∈ srcs → ¬ 2 ≤ s.2 → ∀ id off len sz, s.1.get s0 = .own id off len sz → ∀ cs, ((b[id]?).getD .gone).cs? = some cs → cs ≠ [] → (frozenBy s0 srcs b)[id]? = some (.fz cs)
  | [], b, s, hs, hm, id, off, len, sz, h, cs, hc, hne => by cases hs
  | s' :: srcs, b, s, hs, hm, id, off, len, sz, h, cs, hc, hne => by
    unfold frozenBy
    have hb : b[id]? = some (.live true cs) ∨ b[id]? = some (.fz cs) := by
      cases hx : b[id]? with
      | none => simp [hx, B.cs?] at hc
      | some x =>
        cases x with
        | gone => simp [hx, B.cs?] at hc
        | live p cs' =>
          cases p with
          | false => simp [hx, B.cs?] at hc
          | true => simp [hx, B.cs?] at hc; subst hc; exact .inl rfl
        | fz cs' => simp [hx, B.cs?] at hc; subst hc; exact .inr rfl
        | mp es => simp [hx, B.cs?] at hc
        | dead n => simp [hx, B.cs?] at hc
    have done : ∀ b', b'[id]? = some (.fz cs) → (frozenBy s0 srcs b')[id]? = some (.fz cs) := by
      intro b' hb'
      rcases frozenBy_get s0 srcs b' id with h | ⟨cs', h1, _⟩
      · exact h.trans hb'
      · rw [hb'] at h1; cases h1
    rcases List.mem_cons.1 hs with rfl | hs'
    · rw [if_neg hm, h]
      simp only [ownId]
      refine done _ ?_
      rcases hb with hb | hb
      · rw [freeze_live hb hne]; exact List.getElem?_set_self (List.getElem?_eq_some_iff.1 hb).1
      · unfold freeze; rw [hb]; exact hb
    · by_cases hm' : 2 ≤ s'.2
      · rw [if_pos hm']; exact frozenBy_own s0 srcs b s hs' hm id off len sz h cs hc hne
      rw [if_neg hm']
      cases hid : ownId (s'.1.get s0) with
      | none => exact frozenBy_own s0 srcs b s hs' hm id off len sz h cs hc hne
      | some id' =>
        simp only
        refine frozenBy_own s0 srcs (freeze b id') s hs' hm id off len sz h cs ?_ hne
        rcases freeze_get b id' id with g | ⟨cs', g1, _, _, g2⟩
        · rw [g]; exact hc
        · rw [g2]
          rw [g1] at hc
          exact hc
/-- the forms of what is handed to a function besides plain values -/
def Form (v : V) : Prop := (∃ id off, v = .ptr id off) ∨ (∃ n cs, v = .fp n cs) ∨ (∃ f caps, v = .fn f caps) ∨ (∃ id, v = .mp id) ∨ (∃ id off len sz, v = .own id off len sz) ∨ (∃ cs, v = .st cs)
/-- an argument, behind the freezing -/
theorem argOf_rep (R : Rel ren we ωe U O σ a w ω μ) {srcs : List (Src × Nat)} {ω1 : Nat → Ow} (R1 : Rel ren we ωe U O { σ with b := frozenBy σ srcs σ.b } a w ω1 μ) (F1 : Fr (env U σ w ω μ) (env U { σ with b := frozenBy σ srcs σ.b } w ω1 μ)) {s : Src × Nat} (hs : s ∈ srcs) {x : Operand} {ty : TypeId} (hx : cSrc P ren ty x = some s.1) {v : V} (hv : argOf σ s = some v) :
    (RepP ren w (wr U ω1) v (a.eval x) ∨ (∀ l, Rep ren (env U { σ with b := frozenBy σ srcs σ.b } w ω1 μ) l v (a.eval x) ∧ Form v)) := by
  have hr := R.opnd hx
  unfold argOf at hv
  cases hlend : lendOf s.2 (s.1.get σ) with
  | some v' =>
    rw [hlend] at hv
    cases hv
    unfold lendOf at hlend
    split at hlend
    · split at hlend
      · rename_i id off len sz hg
        cases hlend
        rw [hg] at hr
        right
        intro l
        exact ⟨Rep.frame0 F1 (fun _ => hr.ownAt.rep _) (by simp) l, .inr (.inr (.inr (.inr (.inl ⟨id, off, len, sz, rfl⟩))))⟩
      · rename_i cs hg
        cases hlend
        rw [hg] at hr
        right
        intro l
        obtain ⟨us, eu, h1, h2, h3⟩ := hr.st_inv
        exact ⟨Rep.frame0 F1 (fun _ => by rw [eu]; exact .st cs us h1 h2 h3) (by simp) l, .inr (.inr (.inr (.inr (.inr ⟨cs, rfl⟩))))⟩
      · cases hlend
    · cases hlend
  | none =>
  have hmode : ∀ id off len sz, s.1.get σ = .own id off len sz → ¬ 2 ≤ s.2 := by
    intro id off len sz hg hm
    rw [hg] at hlend
    simp [lendOf, hm] at hlend
  rw [hlend] at hv
  simp only at hv
  cases hg : s.1.get σ with
  | own id off len sz =>
    rw [hg] at hr hv
    simp only [view, Option.bind_eq_bind] at hv
    cases hcs : ((σ.b[id]?).getD .gone).cs? with
    | none => simp [hcs] at hv
    | some cs =>
      simp only [hcs, Option.bind_some, Option.pure_def, V.plain, Option.some.injEq] at hv
      subst hv
      left
      obtain ⟨c, L, A, eu, hL, hl, hc, hA⟩ := hr.own_inv
      have hLc : L = cs.length := by
        have h1 : blen σ.b id = some L := hL
        have := (R.blk hcs).1
        rw [this] at h1; cases h1; rfl
      subst hLc
      rw [eu]
      by_cases hne : cs = []
      · subst hne
        have hnil : ∀ (i : Nat) (v : V), ¬ (chunks sz len (([] : List V).drop off)).flatten[i]? = some v := by
          intro i v hv
          rw [chunks_flatten, List.getElem?_take] at hv
          split at hv
          · simp at hv
          · cases hv
        have key := RepP.sl (ren := ren) (w := w) (Wr := wr U ω1) sz (chunks sz len (([] : List V).drop off)) A c (fun _ => undef) (by rw [chunks_length]; exact hc.1) (chunks_each _ _ _ (by simp at hl ⊢; omega)) (μ id) off
          (fun hne => by
            rcases hA with ⟨h1, _⟩ | ⟨h1, _⟩
            · exact h1
            · subst h1; simp [chunks] at hne)
          (fun i v hv => absurd hv (hnil i v)) (fun i v hv => absurd hv (hnil i v)) (fun i v hv => absurd hv (hnil i v))
        rw [chunks_length] at key
        exact key
      have hfz := frozenBy_own σ srcs σ.b s hs (hmode _ _ _ _ hg) id off len sz hg cs hcs hne
      obtain ⟨q0, arr, T, fr, q1, q2, q3⟩ := R1.fs id cs hfz
      have key := RepP.sl (ren := ren) (w := w) (Wr := wr U ω1) sz (chunks sz len (cs.drop off)) A c (fun i => arr.toList.getD (off + i) undef) (by rw [chunks_length]; exact hc.1) (chunks_each _ _ _ (by simp; omega)) (μ id) off
        (fun hne => by
          rcases hA with ⟨h1, _⟩ | ⟨h1, _⟩
          · exact h1
          · subst h1; simp [chunks] at hne)
      have seg : ∀ (i : Nat) (v : V), (chunks sz len (cs.drop off)).flatten[i]? = some v → ∃ u, arr.toList.getD (off + i) undef = u ∧ arr[off + i]? = some u ∧ u.oneCell' = true ∧ RepP ren w (wr U ω1) v u := by
        intro i v hv
        rw [chunks_flatten, List.getElem?_take] at hv
        split at hv
        · rw [List.getElem?_drop] at hv
          obtain ⟨u, g1, g2, g3⟩ := q3 _ _ hv
          have g1' : arr.toList[off + i]? = some u := by simpa using g1
          exact ⟨u, by rw [List.getD_eq_getElem?_getD, g1']; rfl, g1, g2, g3⟩
        · cases hv
      have key := key (fun i v hv => by obtain ⟨u, e, g1, g2, g3⟩ := seg i v hv; exact ⟨q0 _, by rw [cell_of_row _ _ _ _ _ _ q1, e]; exact g1⟩)
        (fun i v hv => by obtain ⟨u, e, g1, g2, g3⟩ := seg i v hv; rw [e]; exact g2) (fun i v hv => by obtain ⟨u, e, g1, g2, g3⟩ := seg i v hv; rw [e]; exact g3)
      rw [chunks_length] at key
      exact key
  | ptr id off =>
    rw [hg] at hr hv
    cases hv
    right
    intro l
    obtain ⟨L, hL, eu⟩ := hr.ptr_inv
    exact ⟨Rep.frame0 F1 (fun _ => by rw [eu]; exact .ptr id off L hL) (by simp) l, .inl ⟨id, off, rfl⟩⟩
  | fp n cs =>
    rw [hg] at hr hv
    cases hv
    right
    intro l
    obtain ⟨k, q, f, eu, g1, g2, g3, g4⟩ := hr.fp_inv
    exact ⟨Rep.frame0 F1 (fun _ => by rw [eu]; exact .fp n cs k q f g1 g2 g3 g4) (by simp) l, .inr (.inl ⟨n, cs, rfl⟩)⟩
  | fn g caps =>
    rw [hg] at hr hv
    cases hv
    right
    intro l
    obtain ⟨f, us, eu, g1, g2, g3⟩ := hr.fn_inv
    exact ⟨Rep.frame0 F1 (fun _ => by rw [eu]; exact .fn f g caps us g1 g2 g3) (by simp) l, .inr (.inr (.inl ⟨g, caps, rfl⟩))⟩
  | agg cs =>
    rw [hg] at hr hv
    simp only [view] at hv
    cases hv
    left
    have h0 := hr.agg_eq
    obtain ⟨us, eu, hcp⟩ := CellsP.of_agg h0
    have hcp1 := hcp.mono (w' := w) (Wr' := wr U ω1) F1.st
    rw [eu]
    split
    · exact (dem_cells hcp1).agg
    · exact hcp1.agg
  | sc x =>
    rw [hg] at hr hv
    simp only [view] at hv
    left
    exact (hr.plain R.hU hv).mono F1.st
  | sl sz es =>
    rw [hg] at hr hv
    simp only [view] at hv
    left
    exact (hr.plain R.hU hv).mono F1.st
  | gs sz es =>
    rw [hg] at hr hv
    simp only [view] at hv
    left
    have h0 := (hr.plain R.hU (v' := .sl sz es) rfl)
    cases hv
    exact h0.mono F1.st
  | mp id =>
    rw [hg] at hr hv
    cases hv
    right
    intro l
    obtain ⟨L, hL, eu⟩ := hr.mp_inv
    exact ⟨Rep.frame0 F1 (fun _ => by rw [eu]; exact .mp id L hL) (by simp) l, .inr (.inr (.inr (.inl ⟨id, rfl⟩)))⟩
  | tup vs => rw [hg] at hv; simp [view, V.plain] at hv
  | st cs => rw [hg] at hv; simp [view, V.plain] at hv
  | bx p cs => rw [hg] at hv; simp [view, V.plain] at hv
  | fr sz es => rw [hg] at hv; simp [view, V.plain] at hv
  | ub => rw [hg] at hv; simp [view, V.plain] at hv
  | junk => rw [hg] at hv; simp [view, V.plain] at hv
end Go.Proofs.Ythplooifbkopgaa
