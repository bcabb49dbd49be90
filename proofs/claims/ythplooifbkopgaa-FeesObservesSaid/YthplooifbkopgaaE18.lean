/- Calls: the state that a function begins with, and the state behind it. -/
import Derived.Test.YthplooifbkopgaaE17
namespace Go.Proofs.Ythplooifbkopgaa
set_option linter.unusedVariables false
set_option linter.unusedSimpArgs false
variable {ren : Nat → Option Nat} {we : World} {ωe : Nat → Ow} {U : Nat → Nat → Prop} {O : Nat → Prop} {σ : St} {a : Act} {w : World} {ω : Nat → Ow} {μ : Nat → Nat} {P : Program}

theorem closure_nodup (b : List B) : ∀ (n : Nat) (todo acc : List Nat), acc.Nodup → (closure b n todo acc).Nodup
  | 0, _, acc, h => by simpa [closure] using h
  | n + 1, [], acc, h => by simpa [closure] using h
  | n + 1, id :: todo, acc, h => by
    unfold closure
    split
    · exact closure_nodup b n todo acc h
    · rename_i hc
      refine closure_nodup b n _ _ ?_
      rw [List.nodup_append]
      refine ⟨h, by simp, fun x hx y hy => ?_⟩
      simp at hy; subst hy
      rintro rfl
      exact hc (by simpa using hx)
theorem idxIn_get {ids : List Nat} {id : Nat} (h : id ∈ ids) : idxIn ids id < ids.length ∧ ids[idxIn ids id]? = some id := by
  have h1 : idxIn ids id < ids.length := List.idxOf_lt_length_of_mem h
  exact ⟨h1, by rw [List.getElem?_eq_getElem h1]; exact congrArg some (List.getElem_idxOf h1)⟩
theorem idxIn_at {ids : List Nat} (hn : ids.Nodup) {i id : Nat} (h : ids[i]? = some id) : idxIn ids id = i := by
  have h1 := idxIn_get (List.mem_of_getElem? h)
  have hi : i < ids.length := (List.getElem?_eq_some_iff.1 h).1
  have e1 : ids[idxIn ids id]'h1.1 = id := by have := h1.2; rw [List.getElem?_eq_getElem h1.1] at this; exact Option.some.inj this
  have e2 : ids[i] = id := by rw [List.getElem?_eq_getElem hi] at h; exact Option.some.inj h
  exact (List.getElem_inj hn).1 (e1.trans e2.symm)
theorem lendAll_spec {b : List B} {ids : List Nat} : ∀ (l : List Nat) (bor : Bor), lendAll b ids l = some bor → bor.length = l.length ∧ ∀ (i id : Nat), l[i]? = some id → (∃ p cs, b[id]? = some (.live p cs) ∧ bor[i]? = some (.live p (if p then cs else cs.map (renV (idxIn ids)))) ∧ (p = false → ∀ c ∈ cs, lendable ids c = true)) ∨ (∃ es, b[id]? = some (.mp es) ∧ bor[i]? = some (.mp es))
  | [], bor, h => by cases h; exact ⟨rfl, by simp⟩
  | id0 :: l, bor, h => by
    simp only [lendAll] at h
    split at h
    · rename_i cs hb
      simp only [Option.bind_eq_bind, Option.bind_eq_some_iff, Option.pure_def, Option.some.injEq] at h
      obtain ⟨bor', h', rfl⟩ := h
      obtain ⟨e, ih⟩ := lendAll_spec l bor' h'
      refine ⟨by simp [e], fun i id hi => ?_⟩
      cases i with
      | zero => simp at hi; subst hi; exact .inl ⟨true, cs, hb, by simp, by simp⟩
      | succ i => simp at hi; simpa using ih i id hi
    · rename_i cs hb
      split at h
      · rename_i hall
        simp only [Option.bind_eq_bind, Option.bind_eq_some_iff, Option.pure_def, Option.some.injEq] at h
        obtain ⟨bor', h', rfl⟩ := h
        obtain ⟨e, ih⟩ := lendAll_spec l bor' h'
        refine ⟨by simp [e], fun i id hi => ?_⟩
        cases i with
        | zero => simp at hi; subst hi; exact .inl ⟨false, cs, hb, by simp, fun _ c hc => List.all_eq_true.1 hall c hc⟩
        | succ i => simp at hi; simpa using ih i id hi
      · cases h
    · rename_i es hb
      simp only [Option.bind_eq_bind, Option.bind_eq_some_iff, Option.pure_def, Option.some.injEq] at h
      obtain ⟨bor', h', rfl⟩ := h
      obtain ⟨e, ih⟩ := lendAll_spec l bor' h'
      refine ⟨by simp [e], fun i id hi => ?_⟩
      cases i with
      | zero => simp at hi; subst hi; exact .inr ⟨es, hb, by simp⟩
      | succ i => simp at hi; simpa using ih i id hi
    · cases h
theorem OwnAt.move {E E' : En} {v : V} {u : Value} (h : OwnAt E v u) (g : Nat → Nat) (hid : ∀ id, ownId v = some id → ∀ L, E.bl id = some L → E'.bl (g id) = some L ∧ E'.μ (g id) = E.μ id) (hrs : ∀ k, rsize E.w k ≤ rsize E'.w k) : OwnAt E' (renOwn g v) u := by
  obtain ⟨id, off, len, sz, c, L, A, rfl, rfl, hL, hl, hc, hz, hA⟩ := h
  obtain ⟨q1, q2⟩ := hid id rfl L hL
  refine ⟨g id, off, len, sz, c, L, A, rfl, rfl, q1, hl, hc, hz, ?_⟩
  rcases hA with ⟨e, he⟩ | h
  · exact .inl ⟨by rw [q2]; exact e, by rw [q2]; exact Nat.le_trans he (hrs _)⟩
  · exact .inr h
theorem RepP.renOwn_same {w : World} {Wr : Nat → Nat → Prop} {v : V} {u : Value} (h : RepP ren w Wr v u) (g : Nat → Nat) : renOwn g v = v := by
  cases h <;> rfl
theorem Rep.moveSt {E E' : En} {l l' : Loc} {cs : List V} {u : Value} (h : Rep ren E l (.st cs) u) (st : ∀ k o u, ¬ E.Wr k o → E.w.cell? ⟨k, o, none⟩ = some u → ¬ E'.Wr k o ∧ E'.w.cell? ⟨k, o, none⟩ = some u) (g : Nat → Nat)
    (hid : ∀ id ∈ refsOf (.st cs), ∀ L, E.bl id = some L → E'.bl (g id) = some L ∧ E'.μ (g id) = E.μ id) (hrs : ∀ k, rsize E.w k ≤ rsize E'.w k) : Rep ren E' l' (renV g (.st cs)) u := by
  obtain ⟨us, rfl, hl, h, h1⟩ := h.st_inv
  refine .st _ us (by simpa using hl) (fun i c u hc hu => ?_) h1
  rw [List.getElem?_map] at hc
  cases hci : cs[i]? with
  | none => simp [hci] at hc
  | some c0 =>
    simp [hci] at hc; subst hc
    rcases h i c0 u hci hu with q | q
    · left; rw [q.renOwn_same]; exact q.mono st
    · right
      exact q.move g (fun id e => hid id (by simp only [refsOf, List.mem_filterMap]; exact ⟨c0, List.mem_of_getElem? hci, e⟩)) hrs
/-- a value seen from another frame -/
theorem Rep.move {E E' : En} {l l' : Loc} {v : V} {u : Value} (h : Rep ren E l v u) (st : ∀ k o u, ¬ E.Wr k o → E.w.cell? ⟨k, o, none⟩ = some u → ¬ E'.Wr k o ∧ E'.w.cell? ⟨k, o, none⟩ = some u) (g : Nat → Nat)
    (hid : ∀ id ∈ refsOf v, ∀ L, E.bl id = some L → E'.bl (g id) = some L ∧ E'.μ (g id) = E.μ id) (hg : ∀ β h, E.ω β = .gs l h → E'.ω β = .gs l' h ∧ E'.w.heap[β]? = E.w.heap[β]?) (hrs : ∀ k, rsize E.w k ≤ rsize E'.w k) (htup : ∀ x xs, v ≠ .tup (x :: xs)) : Rep ren E' l' (renV g v) u := by
  cases h with
  | pure h =>
    have h' := h.mono (w' := E'.w) (Wr' := E'.Wr) st
    cases h with
    | fn f g' hr => exact .pure (.fn f g' hr)
    | sc _ _ => exact .pure h'
    | agg _ _ _ _ _ => exact .pure h'
    | sl _ _ _ _ _ _ _ _ _ _ _ _ _ => exact .pure h'
    | nil _ _ => exact .pure h'
  | gs sz es β c arr T f hω hb hc hn hsz hcell h1 h =>
    obtain ⟨g1, g2⟩ := hg _ _ hω
    exact .gs sz es β c arr T f g1 (by rw [g2]; exact hb) hc hn hsz hcell h1 (fun i v hv => (h i v hv).mono st)
  | fr sz es β c arr T f hω hb hc hn hsz hcell h1 h =>
    obtain ⟨g1, g2⟩ := hg _ _ hω
    exact .fr sz es β c arr T f g1 (by rw [g2]; exact hb) hc hn hsz hcell h1 (fun i v hv => (h i v hv).mono st)
  | fr0 sz A => exact .fr0 sz A
  | ub b => exact .ub b
  | mp id L hL =>
    obtain ⟨q1, q2⟩ := hid id (by simp [refsOf]) L hL
    rw [← q2]
    exact .mp (g id) L q1
  | bx p cs β arr T f hω hb hn hcell h1 h =>
    obtain ⟨g1, g2⟩ := hg _ _ hω
    exact .bx p cs β arr T f g1 (by rw [g2]; exact hb) hn hcell h1 (fun i v hv => (h i v hv).mono st)
  | own id off len sz c L A hL hl hc hA =>
    exact (OwnAt.move ⟨id, off, len, sz, c, L, A, rfl, rfl, hL, hl, hc.1, hc.2, hA⟩ g (fun id' e => by cases e; exact hid id (by simp [refsOf])) hrs).rep _
  | ptr id off L hL =>
    obtain ⟨q1, q2⟩ := hid id (by simp [refsOf]) L hL
    rw [← q2]
    exact .ptr (g id) off L q1
  | fp n cs k o f hl hcell h1 h => exact .fp n cs k o f hl (fun i v hv => st _ _ _ (hcell i v hv).1 (hcell i v hv).2) h1 (fun i v hv => (h i v hv).mono st)
  | fn f g' caps us hr hl h =>
    refine .fn f g' _ us hr (by simpa using hl) (fun i c hc => ?_)
    rw [List.getElem?_map] at hc
    cases hci : caps[i]? with
    | none => simp [hci] at hc
    | some c0 =>
      simp [hci] at hc; subst hc
      obtain ⟨id, off, L, rfl, e2, e3⟩ := h i c0 hci
      obtain ⟨q1, q2⟩ := hid id (by
        simp only [refsOf, List.mem_filterMap]
        exact ⟨.ptr id off, List.mem_of_getElem? hci, rfl⟩) L e2
      exact ⟨g id, off, L, rfl, q1, by rw [q2]; exact e3⟩
  | tup vs us hl h =>
    cases vs with
    | nil =>
      cases us with
      | nil => exact .tup [] [] rfl (by simp)
      | cons x xs => simp at hl
    | cons x xs => exact absurd rfl (htup x xs)
  | st cs us hl h h1 => exact (Rep.st (l := l) cs us hl h h1).moveSt st g hid hrs
  | junk => exact .junk
theorem noRef1_tup {v : V} (h : noRef1 v = true) : ∀ x xs, v ≠ .tup (x :: xs) := by
  rintro x xs rfl
  simp [noRef1] at h
theorem lendable_facts {ids : List Nat} {v : V} (h : lendable ids v = true) : (∀ id ∈ refsOf v, id ∈ ids) ∧ (∀ x xs, v ≠ .tup (x :: xs)) := by
  cases v with
  | ptr id off => simp [lendable] at h; exact ⟨by simpa [refsOf] using h, by simp⟩
  | own id off len sz => simp [lendable] at h; exact ⟨by simpa [refsOf] using h, by simp⟩
  | mp id => simp [lendable] at h; exact ⟨by simpa [refsOf] using h, by simp⟩
  | fn f caps =>
    refine ⟨fun id hid => ?_, by simp⟩
    simp only [refsOf, List.mem_filterMap] at hid
    obtain ⟨c, hc, e⟩ := hid
    simp only [lendable, List.all_eq_true] at h
    have := h c hc
    cases c <;> simp at e
    subst e
    simpa using this
  | tup _ => simp [lendable] at h
  | bx _ _ => simp [lendable] at h
  | fr _ _ => simp [lendable] at h
  | ub => simp [lendable] at h
  | agg _ => simp [lendable] at h
  | st _ => simp [lendable] at h
  | _ => exact ⟨by simp [refsOf], by simp⟩

theorem RepP.renV_same {w : World} {Wr : Nat → Nat → Prop} {v : V} {u : Value} (h : RepP ren w Wr v u) (g : Nat → Nat) : renV g v = v := by
  cases h <;> rfl
/-- who holds what, for the function that is called -/
def ωIn (ids : List Nat) (ω : Nat → Ow) (k : Nat) : Ow := match ω k with
  | .blk id => if ids.contains id then .blk (idxIn ids id) else .no
  | .gs (.cell id j) h => if ids.contains id then .gs (.cell (idxIn ids id) j) h else .no
  | _ => .no
def UIn (U : Nat → Nat → Prop) (ids : List Nat) (ω : Nat → Ow) (k o : Nat) : Prop := wr U ω k o ∧ ωIn ids ω k = .no
def OIn (ids : List Nat) (ω : Nat → Ow) (k : Nat) : Prop := ωIn ids ω k ≠ .no
theorem ωIn_no {ids : List Nat} {ω : Nat → Ow} {k : Nat} (h : ωIn ids ω k ≠ .no) : ω k ≠ .no := by
  intro e; apply h; simp [ωIn, e]
theorem Rel.noU (R : Rel ren we ωe U O σ a w ω μ) {k : Nat} (h : ω k ≠ .no) (o : Nat) : ¬ U k o := by
  intro hu
  have h1 := R.ul _ _ hu
  rcases (R.ow k h).1 with h | h
  · omega
  · exact h1.2 h
theorem Rel.wrIn (R : Rel ren we ωe U O σ a w ω μ) (ids : List Nat) (k o : Nat) : wr (UIn U ids ω) (ωIn ids ω) k o ↔ wr U ω k o := by
  have no : ωIn ids ω k = .no → (wr (UIn U ids ω) (ωIn ids ω) k o ↔ wr U ω k o) := by
    intro e
    constructor
    · intro h
      rcases h with h | h
      · exact h.1
      · rw [e] at h; exact h.elim
    · intro h; exact .inl ⟨h, e⟩
  cases hω : ω k with
  | no => exact no (by unfold ωIn; rw [hω])
  | blk id =>
    by_cases hc : ids.contains id = true
    · have e : ωIn ids ω k = .blk (idxIn ids id) := by unfold ωIn; rw [hω]; simp only [hc, if_true]
      exact ⟨fun _ => .inr (by rw [hω]; trivial), fun _ => .inr (by rw [e]; trivial)⟩
    · exact no (by unfold ωIn; rw [hω]; simp only [hc, if_false, Bool.false_eq_true])
  | gs l hh =>
    cases l with
    | slot t j => exact no (by unfold ωIn; rw [hω])
    | cell id j =>
      by_cases hc : ids.contains id = true
      · have e : ωIn ids ω k = .gs (.cell (idxIn ids id) j) hh := by unfold ωIn; rw [hω]; simp only [hc, if_true]
        have hu := R.noU (k := k) (by rw [hω]; simp) o
        constructor
        · intro h
          rcases h with h | h
          · exact h.1
          · rw [e] at h; exact .inr (by rw [hω]; exact h)
        · intro h
          rcases h with h | h
          · exact absurd h hu
          · rw [hω] at h; exact .inr (by rw [e]; exact h)
      · exact no (by unfold ωIn; rw [hω]; simp only [hc, if_false, Bool.false_eq_true])
theorem Rel.wrIn_eq (R : Rel ren we ωe U O σ a w ω μ) (ids : List Nat) : wr (UIn U ids ω) (ωIn ids ω) = wr U ω := by
  funext k o; exact propext (R.wrIn ids k o)

/-- the state that a function begins with -/
theorem Rel.enterRel (R : Rel ren we ωe U O σ a w ω μ) {ids : List Nat} (hn : ids.Nodup) {bor : Bor} (hl : lendAll σ.b ids ids = some bor) {args : List V} {us : List Value} (hlen : args.length = us.length)
    (hargs : ∀ (i : Nat) (v : V) (u : Value), args[i]? = some v → us[i]? = some u → RepP ren w (wr U ω) v u ∨ (∀ l, Rep ren (env U σ w ω μ) l v u ∧ Form v))
    (hrefs : args.all (fun a => (refsOf a).all ids.contains) = true) :
    Rel ren w (ωIn ids ω) (UIn U ids ω) (OIn ids ω) ⟨args.map (renV (idxIn ids)), bor.map toB⟩ ⟨us.toArray, []⟩ w (ωIn ids ω) (fun i => μ (ids.getD i 0)) := by
  obtain ⟨hbl, hbor⟩ := lendAll_spec ids bor hl
  have hw := R.wrIn_eq ids
  have hidT : ∀ id ∈ ids, ∀ L, blen σ.b id = some L → blen (bor.map toB) (idxIn ids id) = some L ∧ μ (ids.getD (idxIn ids id) 0) = μ id := by
    intro id hid L hL
    obtain ⟨h1, h2⟩ := idxIn_get hid
    refine ⟨?_, by rw [List.getD_eq_getElem?_getD, h2]; rfl⟩
    rcases hbor _ _ h2 with ⟨p, cs, g1, g2, _⟩ | ⟨es, g1, g2⟩
    · simp only [blen, g1, Option.some.injEq] at hL
      simp only [blen, List.getElem?_map, g2, Option.map_some, toB]
      cases p <;> simp [hL]
    · simp only [blen, g1, Option.some.injEq] at hL
      simp only [blen, List.getElem?_map, g2, Option.map_some, toB, hL]
  have hst : ∀ k o u, ¬ wr U ω k o → w.cell? ⟨k, o, none⟩ = some u → ¬ wr (UIn U ids ω) (ωIn ids ω) k o ∧ w.cell? ⟨k, o, none⟩ = some u := by
    intro k o u h1 h2; rw [hw]; exact ⟨h1, h2⟩
  refine ⟨rfl, by simp [hlen], fun i v hi => ?_, fun i p cs hb => ?_, fun i cs hb => ?_, fun i es hb => ?_, Kept.refl _ w, fun k hk => ⟨.inr hk, (R.ow k (ωIn_no hk)).2⟩, fun k o hu => ?_, fun k o u h1 h2 => ⟨h1, h2⟩, fun k => Nat.le_refl _⟩
  · simp only [List.getElem?_map] at hi
    cases hai : args[i]? with
    | none => simp [hai] at hi
    | some v0 =>
      simp [hai] at hi; subst hi
      have hlt : i < us.length := by rw [← hlen]; exact (List.getElem?_eq_some_iff.1 hai).1
      have hu : us[i]? = some us[i] := List.getElem?_eq_getElem hlt
      have hgd : us.toArray.getD i undef = us[i] := by simp [hlt]
      show Rep ren _ _ _ (us.toArray.getD i undef)
      rw [hgd]
      have hr0 := List.all_eq_true.1 hrefs v0 (List.mem_of_getElem? hai)
      have hrf : ∀ id ∈ refsOf v0, id ∈ ids := fun id hid => by have := List.all_eq_true.1 hr0 id hid; simpa using this
      rcases hargs i v0 us[i] hai hu with h | h
      · rw [h.renV_same]
        exact .pure (h.mono hst)
      · have h0 := h (.slot i 0)
        rcases h0.2 with ⟨id, off, rfl⟩ | ⟨n, cs, rfl⟩ | ⟨f, caps, rfl⟩ | ⟨id, rfl⟩ | hform
        · obtain ⟨L, hL, e⟩ := h0.1.ptr_inv
          obtain ⟨q1, q2⟩ := hidT id (hrf id (by simp [refsOf])) L hL
          have : Rep ren (env (UIn U ids ω) ⟨args.map (renV (idxIn ids)), bor.map toB⟩ w (ωIn ids ω) (fun i => μ (ids.getD i 0))) (.slot i 0) (.ptr (idxIn ids id) off) (.pointer (some ⟨μ (ids.getD (idxIn ids id) 0), off, none⟩)) := .ptr _ off L q1
          rw [q2] at this
          rw [e]; exact this
        · obtain ⟨k, q, f, e, g1, g2, g3, g4⟩ := h0.1.fp_inv
          rw [e]
          exact .fp n cs k q f g1 (fun i v hv => hst _ _ _ (g2 i v hv).1 (g2 i v hv).2) g3 (fun i v hv => (g4 i v hv).mono hst)
        · obtain ⟨f', us', e, g1, g2, g3⟩ := h0.1.fn_inv
          rw [e]
          refine .fn f' f _ us' g1 (by simpa using g2) (fun j c hc => ?_)
          rw [List.getElem?_map] at hc
          cases hcj : caps[j]? with
          | none => simp [hcj] at hc
          | some c0 =>
            simp [hcj] at hc; subst hc
            obtain ⟨id, off, L, rfl, e2, e3⟩ := g3 j c0 hcj
            obtain ⟨q1, q2⟩ := hidT id (hrf id (by simp only [refsOf, List.mem_filterMap]; exact ⟨.ptr id off, List.mem_of_getElem? hcj, rfl⟩)) L e2
            refine ⟨idxIn ids id, off, L, rfl, q1, ?_⟩
            show us'[j]? = some (.pointer (some ⟨μ (ids.getD (idxIn ids id) 0), off, none⟩))
            rw [q2]; exact e3
        · obtain ⟨L, hL, e⟩ := h0.1.mp_inv
          obtain ⟨q1, q2⟩ := hidT id (hrf id (by simp [refsOf])) L hL
          have : Rep ren (env (UIn U ids ω) ⟨args.map (renV (idxIn ids)), bor.map toB⟩ w (ωIn ids ω) (fun i => μ (ids.getD i 0))) (.slot i 0) (.mp (idxIn ids id)) (.map (some (μ (ids.getD (idxIn ids id) 0)))) := .mp _ L q1
          rw [q2] at this
          rw [e]; exact this
        · have hst' : ∀ k o u, ¬ (env U σ w ω μ).Wr k o → (env U σ w ω μ).w.cell? ⟨k, o, none⟩ = some u → ¬ (env (UIn U ids ω) ⟨args.map (renV (idxIn ids)), bor.map toB⟩ w (ωIn ids ω) (fun i => μ (ids.getD i 0))).Wr k o ∧ (env (UIn U ids ω) ⟨args.map (renV (idxIn ids)), bor.map toB⟩ w (ωIn ids ω) (fun i => μ (ids.getD i 0))).w.cell? ⟨k, o, none⟩ = some u := hst
          rcases hform with ⟨id, off, len, sz, rfl⟩ | ⟨cs, rfl⟩
          · exact (h0.1.ownAt.move (E' := env (UIn U ids ω) ⟨args.map (renV (idxIn ids)), bor.map toB⟩ w (ωIn ids ω) (fun i => μ (ids.getD i 0))) (idxIn ids) (fun id' e L hL => by cases e; exact hidT id (hrf id (by simp [refsOf])) L hL) (fun k => Nat.le_refl _)).rep _
          · exact h0.1.moveSt hst' (idxIn ids) (fun id hid L hL => hidT id (hrf id hid) L hL) (fun k => Nat.le_refl _)
  · simp only [List.getElem?_map] at hb
    cases hbi : bor[i]? with
    | none => simp [hbi] at hb
    | some x =>
      have hi : i < ids.length := by rw [← hbl]; exact (List.getElem?_eq_some_iff.1 hbi).1
      have hii : ids[i]? = some ids[i] := List.getElem?_eq_getElem hi
      simp [hbi, toB] at hb
      subst hb
      obtain ⟨p', cs', g1, g2, g3⟩ : ∃ p' cs', σ.b[ids[i]]? = some (.live p' cs') ∧ bor[i]? = some (.live p' (if p' then cs' else cs'.map (renV (idxIn ids)))) ∧ (p' = false → ∀ c ∈ cs', lendable ids c = true) := by
        rcases hbor i _ hii with h | ⟨es, g1, g2⟩
        · exact h
        · rw [hbi] at g2; cases g2
      rw [hbi] at g2; cases g2
      have hmu : μ (ids.getD i 0) = μ ids[i] := by rw [List.getD_eq_getElem?_getD, hii]; rfl
      refine orNe fun hne => ?_
      have hne' : cs' ≠ [] := by rintro rfl; cases p <;> simp at hne
      obtain ⟨e0, arr, T, e1, e2, e3⟩ := R.live g1 hne'
      have hmem : ids.contains ids[i] = true := by simp
      refine ⟨?_, arr, T, by rw [hmu]; exact e1, by cases p <;> simp [e2], fun j c hc => ?_⟩
      · rw [hmu]; unfold ωIn; rw [e0]; simp only [hmem, if_true]; rw [idxIn_at hn hii]
      · cases p with
        | true =>
          simp at hc
          obtain ⟨u, q1, q2, q3, q4⟩ := e3 j c hc
          exact ⟨u, q1, q2, fun _ => (q3 rfl).mono hst, .pure ((q3 rfl).mono hst)⟩
        | false =>
          simp only [Bool.false_eq_true, if_false, List.getElem?_map] at hc
          cases hcj : cs'[j]? with
          | none => simp [hcj] at hc
          | some c0 =>
            simp [hcj] at hc; subst hc
            obtain ⟨u, q1, q2, q3, q4⟩ := e3 j c0 hcj
            obtain ⟨f1, f3⟩ := lendable_facts (g3 rfl c0 (List.mem_of_getElem? hcj))
            refine ⟨u, q1, q2, by simp, q4.move (E' := env (UIn U ids ω) ⟨args.map (renV (idxIn ids)), bor.map toB⟩ w (ωIn ids ω) (fun i => μ (ids.getD i 0))) (l' := .cell i j) hst (idxIn ids) (fun id hid L hL => hidT id (f1 id hid) L hL) (fun β hh e => ⟨?_, rfl⟩) (fun k => Nat.le_refl _) f3⟩
            have e : ω β = .gs (.cell ids[i] j) hh := e
            show ωIn ids ω β = _
            unfold ωIn
            rw [e]
            simp only [hmem, if_true]
            rw [idxIn_at hn hii]
  · simp only [List.getElem?_map] at hb
    cases hbi : bor[i]? with
    | none => simp [hbi] at hb
    | some x =>
      have hi : i < ids.length := by rw [← hbl]; exact (List.getElem?_eq_some_iff.1 hbi).1
      have hii : ids[i]? = some ids[i] := List.getElem?_eq_getElem hi
      simp [hbi, toB] at hb
      subst hb
      rcases hbor i _ hii with ⟨_, _, _, g2, _⟩ | ⟨_, _, g2⟩ <;> (rw [hbi] at g2; cases g2)
  · simp only [List.getElem?_map] at hb
    cases hbi : bor[i]? with
    | none => simp [hbi] at hb
    | some x =>
      have hi : i < ids.length := by rw [← hbl]; exact (List.getElem?_eq_some_iff.1 hbi).1
      have hii : ids[i]? = some ids[i] := List.getElem?_eq_getElem hi
      simp [hbi, toB] at hb
      subst hb
      obtain ⟨es', g1, g2⟩ : ∃ es', σ.b[ids[i]]? = some (.mp es') ∧ bor[i]? = some (.mp es') := by
        rcases hbor i _ hii with ⟨_, _, _, g2, _⟩ | h
        · rw [hbi] at g2; cases g2
        · exact h
      rw [hbi] at g2; cases g2
      have hmu : μ (ids.getD i 0) = μ ids[i] := by rw [List.getD_eq_getElem?_getD, hii]; rfl
      obtain ⟨e0, arr, clock, e1, e2⟩ := R.ms ids[i] _ g1
      have hmem : ids.contains ids[i] = true := by simp
      refine ⟨?_, arr, clock, by rw [hmu]; exact e1, e2.mono hst⟩
      rw [hmu]; unfold ωIn; rw [e0]; simp only [hmem, if_true]; rw [idxIn_at hn hii]
  · refine ⟨?_, fun ho => ho hu.2⟩
    rcases hu.1 with h | h
    · exact Nat.lt_of_lt_of_le (R.ul _ _ h).1 R.kp.size
    · exact (R.ow k (by intro e; rw [e] at h; exact h)).2
end Go.Proofs.Ythplooifbkopgaa
