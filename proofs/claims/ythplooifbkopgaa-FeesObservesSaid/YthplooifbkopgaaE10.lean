/- How the state of the abstract machine stays true of the model's: slots, new blocks, writes, what is forgotten. -/
import Derived.Test.YthplooifbkopgaaE9
namespace Go.Proofs.Ythplooifbkopgaa
set_option linter.unusedVariables false
set_option linter.unusedSimpArgs false
variable {ren : Nat → Option Nat} {we : World} {ωe : Nat → Ow} {U : Nat → Nat → Prop} {O : Nat → Prop} {σ : St} {a : Act} {w : World} {ω : Nat → Ow} {μ : Nat → Nat} {P : Program}

def upd {α : Type} (f : Nat → α) (k : Nat) (v : α) : Nat → α := fun x => if x = k then v else f x
theorem upd_same {α : Type} (f : Nat → α) (k : Nat) (v : α) : upd f k v k = v := by simp [upd]
theorem upd_other {α : Type} (f : Nat → α) {k j : Nat} (v : α) (h : j ≠ k) : upd f k v j = f j := by simp [upd, h]

theorem Rel.put (R : Rel ren we ωe U O σ a w ω μ) (d : Option Nat) {v : V} {u : Value} (h : ∀ i, d = some i → Rep ren (env U σ w ω μ) (.slot i 0) v u) : Rel ren we ωe U O (σ.put d v) (a.put d u) w ω μ := by
  cases d with
  | none => exact R
  | some i =>
    refine ⟨R.df, by simpa [Act.put, St.put] using R.tl, fun j v' hj => ?_, R.bs, R.fs, R.ms, R.kp, R.ow, R.ul, R.fr, R.rs⟩
    show Rep ren (env U σ w ω μ) _ _ _
    simp only [St.put, Act.put] at hj ⊢
    by_cases hji : j = i
    · subst hji
      have hlt : j < σ.t.length := by
        have := (List.getElem?_eq_some_iff.1 hj).1
        simpa using this
      rw [List.getElem?_set_self hlt] at hj
      cases hj
      have : (a.tmps.setIfInBounds j u).getD j undef = u := by
        have h' : j < a.tmps.size := by rw [R.tl]; exact hlt
        simp [h']
      rw [this]
      exact h j rfl
    · rw [List.getElem?_set_ne (fun e => hji e.symm)] at hj
      have : (a.tmps.setIfInBounds i u).getD j undef = a.tmps.getD j undef := by
        simp [Array.getElem?_setIfInBounds_ne (fun e => hji e.symm)]
      rw [this]
      exact R.ts j v' hj
theorem Rel.demote (R : Rel ren we ωe U O σ a w ω μ) (s : Src) : Rel ren we ωe U O (σ.demote s) a w ω μ := by
  cases s with
  | const v => exact R
  | tmp t =>
    refine ⟨R.df, by simpa [St.demote] using R.tl, fun j v' hj => ?_, R.bs, R.fs, R.ms, R.kp, R.ow, R.ul, R.fr, R.rs⟩
    show Rep ren (env U σ w ω μ) _ _ _
    simp only [St.demote] at hj
    rw [List.getElem?_modify] at hj
    cases hv : σ.t[j]? with
    | none => simp [hv] at hj
    | some v =>
      by_cases hjt : t = j
      · subst hjt; simp [hv] at hj; subst hj; exact (R.ts t v hv).dem R.hU _
      · simp [hv, hjt] at hj; subst hj; exact R.ts j v hv

theorem Rel.step (R : Rel ren we ωe U O σ a w ω μ) {σ' : St} {w' : World} {ω' : Nat → Ow} {μ' : Nat → Nat} (F : Fr (env U σ w ω μ) (env U σ' w' ω' μ')) (ht : σ'.t = σ.t)
    (hg : ∀ t j β h, t < σ.t.length → ω β = .gs (.slot t j) h → ω' β = .gs (.slot t j) h ∧ w'.heap[β]? = w.heap[β]?)
    (hb : ∀ (id : Nat) (p : Bool) (cs : List V), σ'.b[id]? = some (.live p cs) → cs ≠ [] → (σ.b[id]? = some (.live p cs) ∧ ω' (μ id) = .blk id ∧ w'.heap[μ id]? = w.heap[μ id]? ∧ ∀ j β h, ω β = .gs (.cell id j) h → ω' β = .gs (.cell id j) h ∧ w'.heap[β]? = w.heap[β]?) ∨
      (ω' (μ' id) = .blk id ∧ ∃ arr T, w'.heap[μ' id]? = some (.cells arr T (0, 0)) ∧ cs.length ≤ arr.size ∧
        ∀ (j : Nat) (c : V), cs[j]? = some c → ∃ u, arr[j]? = some u ∧ u.oneCell' = true ∧ (p = true → RepP ren w' (wr U ω') c u) ∧ Rep ren (env U σ' w' ω' μ') (.cell id j) c u))
    (hf : ∀ (id : Nat) (cs : List V), σ'.b[id]? = some (.fz cs) → (σ.b[id]? = some (.fz cs) ∧ (∀ o, ¬ wr U ω' (μ id) o) ∧ w'.heap[μ id]? = w.heap[μ id]?) ∨
      ((∀ o, ¬ wr U ω' (μ' id) o) ∧ ∃ arr T fr, w'.heap[μ' id]? = some (.cells arr T fr) ∧ cs.length ≤ arr.size ∧
        ∀ (j : Nat) (c : V), cs[j]? = some c → ∃ u, arr[j]? = some u ∧ u.oneCell' = true ∧ RepP ren w' (wr U ω') c u))
    (hm : ∀ (id : Nat) (es : List (V × V)), σ'.b[id]? = some (.mp es) → (σ.b[id]? = some (.mp es) ∧ ω' (μ id) = .blk id ∧ w'.heap[μ id]? = w.heap[μ id]?) ∨
      (ω' (μ' id) = .blk id ∧ ∃ arr clock, w'.heap[μ' id]? = some (.map arr clock) ∧ MapRep ren w' (wr U ω') es arr))
    {O' : Nat → Prop} (hk : Kept O' w w') (hO : ∀ k, k < we.heap.size → O' k → O k) (how : ∀ k, ω' k ≠ .no → (we.heap.size ≤ k ∨ O k) ∧ k < w'.heap.size) (hrs : ∀ k, rsize w k ≤ rsize w' k) : Rel ren we ωe U O σ' a w' ω' μ' := by
  refine ⟨R.df, by rw [ht]; exact R.tl, fun j v hj => ?_, fun id p cs h => ?_, fun id cs h => ?_, fun id es h => ?_, R.kp.trans hk hO, how, R.ul, fun k o u h1 h2 => F.st k o u (R.fr k o u h1 h2).1 (R.fr k o u h1 h2).2, fun k => Nat.le_trans (R.rs k) (hrs k)⟩
  · rw [ht] at hj
    refine (R.ts j v hj).frame F (fun l β h e0 e => ?_)
    cases l with
    | slot t i => cases e0; exact hg _ i β h (List.getElem?_eq_some_iff.1 hj).1 e
    | cell id i => cases e0
  · refine orNe fun hne => ?_
    rcases hb id p cs h hne with ⟨h1, h2, h3, h4⟩ | h
    · obtain ⟨e0, arr, T, e1, e2, e3⟩ := R.live h1 hne
      have hm : μ' id = μ id := (F.id id cs.length (by simp [env, blen, h1])).2.1
      rw [hm]
      refine ⟨h2, arr, T, by rw [h3]; exact e1, e2, fun j c hc => ?_⟩
      obtain ⟨u, g1, g2, g3, g4⟩ := e3 j c hc
      exact ⟨u, g1, g2, fun hp => (g3 hp).mono F.st, g4.frame F (fun l β h e0 e => by cases l with | slot t i => cases e0 | cell id i => cases e0; exact h4 _ β h e)⟩
    · exact h
  · rcases hf id cs h with ⟨h1, h2, h3⟩ | h
    · obtain ⟨e0, arr, T, fr, e1, e2, e3⟩ := R.fs id cs h1
      have hm : μ' id = μ id := (F.id id cs.length (by simp [env, blen, h1])).2.1
      rw [hm]
      refine ⟨h2, arr, T, fr, by rw [h3]; exact e1, e2, fun j c hc => ?_⟩
      obtain ⟨u, g1, g2, g3⟩ := e3 j c hc
      exact ⟨u, g1, g2, g3.mono F.st⟩
    · exact h
  · rcases hm id es h with ⟨h1, h2, h3⟩ | h
    · obtain ⟨e0, arr, clock, e1, e2⟩ := R.ms id es h1
      have hm' : μ' id = μ id := (F.id id 0 (by simp [env, blen, h1])).2.1
      rw [hm']
      exact ⟨h2, arr, clock, by rw [h3]; exact e1, e2.mono F.st⟩
    · exact h

theorem wr_relabel (U : Nat → Nat → Prop) {ω : Nat → Ow} {β h : Nat} {l : Loc} (hβ : ω β = .gs l h) (l' : Loc) : wr U (upd ω β (.gs l' h)) = wr U ω := by
  funext k o
  unfold wr
  by_cases hk : k = β
  · subst hk; rw [upd_same, hβ]
  · rw [upd_other _ _ hk]
theorem Rep.frame1 {E E' : En} (F : Fr E E') {l : Loc} {v : V} {u : Value} (h : Rep ren E l v u) (hv : ∀ x xs, v ≠ .tup (x :: xs))
    (hg : ∀ (β h : Nat), E.ω β = .gs l h → E'.ω β = .gs l h ∧ E'.w.heap[β]? = E.w.heap[β]?) : Rep ren E' l v u := by
  cases h with
  | pure h => exact .pure (h.mono F.st)
  | gs sz es β c arr T f hω hb hc hn hsz hcell h1 h =>
    obtain ⟨g1, g2⟩ := hg _ _ hω
    exact .gs sz es β c arr T f g1 (by rw [g2]; exact hb) hc hn hsz hcell h1 (fun i v hv => (h i v hv).mono F.st)
  | fr sz es β c arr T f hω hb hc hn hsz hcell h1 h =>
    obtain ⟨g1, g2⟩ := hg _ _ hω
    exact .fr sz es β c arr T f g1 (by rw [g2]; exact hb) hc hn hsz hcell h1 (fun i v hv => (h i v hv).mono F.st)
  | fr0 sz A => exact .fr0 sz A
  | ub b => exact .ub b
  | mp id L hL => exact Rep.frame0 F (fun _ => .mp id L hL) (by simp) _
  | bx p cs β arr T f hω hb hn hcell h1 h =>
    obtain ⟨g1, g2⟩ := hg _ _ hω
    exact .bx p cs β arr T f g1 (by rw [g2]; exact hb) hn hcell h1 (fun i v hv => (h i v hv).mono F.st)
  | own id off len sz c L A hL hl hc hA => exact Rep.frame0 F (fun _ => .own id off len sz c L A hL hl hc hA) (by simp) _
  | ptr id off L hL => exact Rep.frame0 F (fun _ => .ptr id off L hL) (by simp) _
  | fp n cs k o f hl hcell h1 h => exact Rep.frame0 F (fun _ => .fp n cs k o f hl hcell h1 h) (by simp) _
  | fn f g caps us hr hl h => exact Rep.frame0 F (fun _ => .fn f g caps us hr hl h) (by simp) _
  | tup vs us hl h =>
    cases vs with
    | nil =>
      cases us with
      | nil => exact .tup [] [] rfl (by simp)
      | cons x xs => simp at hl
    | cons x xs => exact absurd rfl (hv x xs)
  | st cs us hl h h1 => exact Rep.frame0 F (fun _ => .st cs us hl h h1) (by simp) _
  | junk => exact .junk
theorem relabel_fr (U : Nat → Nat → Prop) (σ : St) (w : World) (μ : Nat → Nat) {ω : Nat → Ow} {β h : Nat} {l : Loc} (hβ : ω β = .gs l h) (l' : Loc) : Fr (env U σ w ω μ) (env U σ w (upd ω β (.gs l' h)) μ) := by
  have hw := wr_relabel U hβ l'
  refine ⟨fun k o u h1 h2 => ⟨?_, h2⟩, fun id L hL => ⟨hL, rfl, Nat.le_refl _⟩⟩
  show ¬ wr U (upd ω β (.gs l' h)) k o
  rw [hw]; exact h1
/-- a growing slice changes its holder -/
theorem Rel.relabel (R : Rel ren we ωe U O σ a w ω μ) {l : Loc} {β h : Nat} (hβ : ω β = .gs l h) (l' : Loc)
    (hs : ∀ (t : Nat) (v : V), σ.t[t]? = some v → l.hd = .slot t 0 → Rep ren (env U σ w (upd ω β (.gs l' h)) μ) (.slot t 0) v (a.tmps.getD t undef))
    (hc : ∀ (id j : Nat) (p : Bool) (cs : List V) (v : V), σ.b[id]? = some (.live p cs) → cs[j]? = some v → l = .cell id j → ∀ u, Rep ren (env U σ w ω μ) (.cell id j) v u → Rep ren (env U σ w (upd ω β (.gs l' h)) μ) (.cell id j) v u) :
    Rel ren we ωe U O σ a w (upd ω β (.gs l' h)) μ := by
  have hw := wr_relabel U hβ l'
  have F := relabel_fr U σ w μ hβ l'
  refine ⟨R.df, R.tl, fun j v hj => ?_, fun id p cs hb => ?_, fun id cs hb => ?_, fun id es hb => ?_, R.kp, fun k hk => ?_, R.ul, fun k o u h1 h2 => F.st k o u (R.fr k o u h1 h2).1 (R.fr k o u h1 h2).2, R.rs⟩
  · by_cases hl : l.hd = .slot j 0
    · exact hs j v hj hl
    · refine (R.ts j v hj).frame F (fun l2 β2 h2 e1 e2 => ⟨?_, rfl⟩)
      have e2 : ω β2 = .gs l2 h2 := e2
      show upd ω β (.gs l' h) β2 = .gs l2 h2
      rw [upd_other]
      · exact e2
      · rintro rfl
        rw [hβ] at e2; cases e2
        exact hl e1
  · refine orNe fun hne => ?_
    obtain ⟨e0, arr, T, e1, e2, e3⟩ := R.live hb hne
    refine ⟨?_, arr, T, e1, e2, fun j c hcj => ?_⟩
    · rw [upd_other]
      · exact e0
      · intro e; rw [e, hβ] at e0; cases e0
    · obtain ⟨u, g1, g2, g3, g4⟩ := e3 j c hcj
      refine ⟨u, g1, g2, fun hp => (g3 hp).mono F.st, ?_⟩
      by_cases hl : l = .cell id j
      · exact hc id j p cs c hb hcj hl u g4
      · refine g4.frame F (fun l2 β2 h2 e1 e2 => ⟨?_, rfl⟩)
        have e2 : ω β2 = .gs l2 h2 := e2
        show upd ω β (.gs l' h) β2 = .gs l2 h2
        rw [upd_other]
        · exact e2
        · rintro rfl
          rw [hβ] at e2; cases e2
          cases l with
          | slot t j' => cases e1
          | cell i' j' => exact hl e1
  · obtain ⟨e0, arr, T, fr, e1, e2, e3⟩ := R.fs id cs hb
    refine ⟨by rw [hw]; exact e0, arr, T, fr, e1, e2, fun j c hcj => ?_⟩
    obtain ⟨u, g1, g2, g3⟩ := e3 j c hcj
    exact ⟨u, g1, g2, g3.mono F.st⟩
  · obtain ⟨e0, arr, clock, e1, e2⟩ := R.ms id es hb
    refine ⟨?_, arr, clock, e1, e2.mono F.st⟩
    rw [upd_other]
    · exact e0
    · intro e; rw [e, hβ] at e0; cases e0
  · by_cases hkb : k = β
    · subst hkb; exact R.ow k (by rw [hβ]; simp)
    · rw [upd_other _ _ hkb] at hk; exact R.ow k hk

theorem Rel.opndC (R : Rel ren we ωe U O σ a w ω μ) {ty : TypeId} {x : Operand} {s : Src} (h : cSrc P ren ty x = some s) : (∀ t, s = .tmp t → a.eval x = a.tmps.getD t undef) ∧ (∀ v, s = .const v → ∀ l, Rep ren (env U σ w ω μ) l v (a.eval x)) := by
  cases x with
  | tmp t => cases h; exact ⟨fun t' e => by cases e; rfl, fun v e => by cases e⟩
  | const v =>
    cases hc : constV P ty v with
    | none => simp [cSrc, hc] at h
    | some v' => simp [cSrc, hc] at h; subst h; exact ⟨fun t e => (by cases e), fun v e l => by cases e; exact constV_rep hc _ _⟩
  | global g => cases h
  | func f =>
    cases hr : ren f with
    | none => simp [cSrc, hr] at h
    | some g => simp [cSrc, hr] at h; subst h; exact ⟨fun t e => (by cases e), fun v e l => by cases e; exact .pure (.fn f g hr)⟩
/-- a value is taken out of a slot; a growing slice is held at 'l'' from now on -/
theorem Rel.taken (R : Rel ren we ωe U O σ a w ω μ) (s : Src) {u : Value} (hr : Rep ren (env U σ w ω μ) s.loc (s.get σ) u) (hu : ∀ t, s = .tmp t → u = a.tmps.getD t undef) (hC : ∀ v, s = .const v → ∀ l, Rep ren (env U σ w ω μ) l v u) (l' : Loc) :
    ∃ ω', Fr (env U σ w ω μ) (env U σ w ω' μ) ∧ Rel ren we ωe U O (σ.demote s) a w ω' μ ∧ Rep ren (env U σ w ω' μ) l' (s.get σ).tk u ∧ wr U ω' = wr U ω := by
  have plain : (∀ sz es, s.get σ ≠ .gs sz es) → ∃ ω', Fr (env U σ w ω μ) (env U σ w ω' μ) ∧ Rel ren we ωe U O (σ.demote s) a w ω' μ ∧ Rep ren (env U σ w ω' μ) l' (s.get σ).tk u ∧ wr U ω' = wr U ω := by
    intro hne
    refine ⟨ω, ⟨fun k o u h1 h2 => ⟨h1, h2⟩, fun id L hL => ⟨hL, rfl, Nat.le_refl _⟩⟩, R.demote s, ?_, rfl⟩
    have e : (s.get σ).tk = (s.get σ).dem := by
      cases h : s.get σ <;> first | rfl | exact absurd h (hne _ _)
    rw [e]
    exact hr.dem R.hU l'
  cases hv : s.get σ with
  | gs sz es =>
    rw [hv] at hr
    cases hr with
    | pure h =>
      cases h with
      | nil _ A => exact ⟨ω, ⟨fun k o u h1 h2 => ⟨h1, h2⟩, fun id L hL => ⟨hL, rfl, Nat.le_refl _⟩⟩, R.demote s, .pure (.nil _ _), rfl⟩
    | gs _ _ β c arr T f hω hb hc hn hsz hcell h1 h =>
      have hβ : ω β = .gs s.loc (es.length * sz) := hω
      cases s with
      | const x =>
        have hx : x = .gs sz es := hv
        subst hx
        have q := hC _ rfl (.slot 1 0)
        cases q with
        | pure h => cases h with
          | nil _ A => exact ⟨ω, ⟨fun k o u h1 h2 => ⟨h1, h2⟩, fun id L hL => ⟨hL, rfl, Nat.le_refl _⟩⟩, R.demote _, .pure (.nil _ _), rfl⟩
        | gs _ _ _ _ _ _ _ hω' => rw [hω] at hω'; cases hω'
      | tmp t =>
        have R1 := R.demote (.tmp t)
        have F := relabel_fr U σ w μ hβ l'
        have R' := R1.relabel (l := .slot t 0) hβ l' (fun t' v hj hl => by
            cases hl
            simp only [St.demote] at hj
            rw [List.getElem?_modify] at hj
            cases hv' : σ.t[t]? with
            | none => simp [hv'] at hj
            | some v' =>
              simp [hv'] at hj; subst hj
              refine Rep.frame0 F (fun l => (R.ts t v' hv').dem R.hU l) (fun x xs => ?_) _
              cases v' with
              | tup vs => cases vs <;> simp [V.dem]
              | _ => simp [V.dem]) (fun id j p cs v _ _ hl => by cases hl)
        exact ⟨_, F, R', .gs sz es β c arr T f (upd_same _ _ _) hb hc hn hsz hcell h1 (fun i v hv => (h i v hv).mono F.st), wr_relabel U hβ l'⟩
  | _ => rw [← hv]; exact plain (by rw [hv]; simp)

/-- a new block -/
theorem Rel.newBlockG (R : Rel ren we ωe U O σ a w ω μ) {id : Nat} (hid : σ.b[id]? = some .gone) (p : Bool) (cs : List V) (arr : Array Value) (T : TypeId) (hl : cs.length ≤ arr.size)
    (hc : ∀ (j : Nat) (c : V), cs[j]? = some c → ∃ u, arr[j]? = some u ∧ u.oneCell' = true ∧ (RepP ren w (wr U ω) c u ∨ (p = false ∧ OwnAt (env U σ w ω μ) c u))) :
    Fr (env U σ w ω μ) (env U (σ.setB id (.live p cs)) (w.alloc (.cells arr T)) (upd ω w.heap.size (.blk id)) (upd μ id w.heap.size)) ∧
    Rel ren we ωe U O (σ.setB id (.live p cs)) a (w.alloc (.cells arr T)) (upd ω w.heap.size (.blk id)) (upd μ id w.heap.size) := by
  have hlt : id < σ.b.length := (List.getElem?_eq_some_iff.1 hid).1
  have hnew : (w.alloc (.cells arr T)).heap[w.heap.size]? = some (.cells arr T (0, 0)) := heap_alloc_new w _
  have hwsz : ∀ k, ω k ≠ .no → k < w.heap.size := fun k h => (R.ow k h).2
  have hgs : ∀ (l : Loc) β h, ω β = .gs l h → upd ω w.heap.size (.blk id) β = .gs l h ∧ (w.alloc (.cells arr T)).heap[β]? = w.heap[β]? := by
    intro l β h e
    have hβ := hwsz β (by rw [e]; simp)
    exact ⟨by rw [upd_other _ _ (by omega)]; exact e, heap_alloc_old w _ hβ⟩
  have F : Fr (env U σ w ω μ) (env U (σ.setB id (.live p cs)) (w.alloc (.cells arr T)) (upd ω w.heap.size (.blk id)) (upd μ id w.heap.size)) := by
    refine ⟨fun k o u h1 h2 => ?_, fun id' L hL => ?_⟩
    · have hk : k < w.heap.size := World.block_lt_of_cell? w ⟨k, o, none⟩ h2
      refine ⟨?_, (World.cell?_alloc_lt w _ ⟨k, o, none⟩ hk).trans h2⟩
      show ¬ wr U (upd ω w.heap.size (.blk id)) k o
      unfold wr
      rw [upd_other _ _ (by omega)]
      exact h1
    · have hL : blen σ.b id' = some L := hL
      have hne : id' ≠ id := by rintro rfl; simp [blen, hid] at hL
      refine ⟨?_, upd_other _ _ hne, ?_⟩
      · show blen (σ.b.set id _) id' = some L
        unfold blen at hL ⊢
        rw [List.getElem?_set_ne (fun e => hne e.symm)]
        exact hL
      · show rsize w (μ id') ≤ rsize (w.alloc (.cells arr T)) (μ id')
        by_cases hm : μ id' < w.heap.size
        · unfold rsize; rw [heap_alloc_old w _ hm]; exact Nat.le_refl _
        · unfold rsize; rw [Array.getElem?_eq_none (by omega)]; exact Nat.zero_le _
  refine ⟨F, R.step F rfl (fun t j β h _ e => hgs _ β h e) (fun id' p' cs' h' hne' => ?_) (fun id' cs' h' => ?_) (fun id' es' h' => ?_) (Kept.alloc No w _) (fun k _ h => no_of h) (fun k hk => ?_) (fun k => ?_)⟩
  · by_cases hne : id' = id
    · subst hne
      simp only [St.setB] at h'
      rw [List.getElem?_set_self hlt] at h'
      cases h'
      refine .inr ⟨by rw [upd_same, upd_same], arr, T, by rw [upd_same]; exact hnew, hl, fun j c hj => ?_⟩
      obtain ⟨u, g1, g2, g3⟩ := hc j c hj
      rcases g3 with g3 | ⟨hp, g3⟩
      · exact ⟨u, g1, g2, fun _ => g3.mono F.st, .pure (g3.mono F.st)⟩
      · exact ⟨u, g1, g2, fun h => (by rw [hp] at h; cases h), (g3.frame F).rep _⟩
    · simp only [St.setB] at h'
      rw [List.getElem?_set_ne (fun e => hne e.symm)] at h'
      obtain ⟨e0, arr', T', e1, _⟩ := R.live h' hne'
      have hβ := hwsz (μ id') (by rw [e0]; simp)
      exact .inl ⟨h', by rw [upd_other _ _ (by omega)]; exact e0, heap_alloc_old w _ hβ, fun j β h e => hgs _ β h e⟩
  · by_cases hne : id' = id
    · subst hne
      simp only [St.setB] at h'
      rw [List.getElem?_set_self hlt] at h'
      cases h'
    · simp only [St.setB] at h'
      rw [List.getElem?_set_ne (fun e => hne e.symm)] at h'
      obtain ⟨e0, arr', T', fr', e1, _⟩ := R.fs id' cs' h'
      have hβ : μ id' < w.heap.size := (Array.getElem?_eq_some_iff.1 e1).1
      refine .inl ⟨h', fun o hw => e0 o ?_, heap_alloc_old w _ hβ⟩
      unfold wr at hw ⊢
      rwa [upd_other _ _ (by omega)] at hw
  · by_cases hne : id' = id
    · subst hne
      simp only [St.setB] at h'
      rw [List.getElem?_set_self hlt] at h'
      cases h'
    · simp only [St.setB] at h'
      rw [List.getElem?_set_ne (fun e => hne e.symm)] at h'
      obtain ⟨e0, arr', clock', e1, _⟩ := R.ms id' es' h'
      have hβ := hwsz (μ id') (by rw [e0]; simp)
      exact .inl ⟨h', by rw [upd_other _ _ (by omega)]; exact e0, heap_alloc_old w _ hβ⟩
  · by_cases hk' : k = w.heap.size
    · subst hk'; exact ⟨.inl R.kp.size, by simp⟩
    · rw [upd_other _ _ hk'] at hk
      exact ⟨(R.ow k hk).1, by have := (R.ow k hk).2; simp; omega⟩
  · by_cases hm : k < w.heap.size
    · unfold rsize; rw [heap_alloc_old w _ hm]; exact Nat.le_refl _
    · unfold rsize; rw [Array.getElem?_eq_none (xs := w.heap) (by omega)]; exact Nat.zero_le _

theorem Rel.newBlock (R : Rel ren we ωe U O σ a w ω μ) {id : Nat} (hid : σ.b[id]? = some .gone) (p : Bool) (cs : List V) (arr : Array Value) (T : TypeId) (hl : cs.length ≤ arr.size)
    (hc : ∀ (j : Nat) (c : V), cs[j]? = some c → ∃ u, arr[j]? = some u ∧ u.oneCell' = true ∧ RepP ren w (wr U ω) c u) :
    Fr (env U σ w ω μ) (env U (σ.setB id (.live p cs)) (w.alloc (.cells arr T)) (upd ω w.heap.size (.blk id)) (upd μ id w.heap.size)) ∧
    Rel ren we ωe U O (σ.setB id (.live p cs)) a (w.alloc (.cells arr T)) (upd ω w.heap.size (.blk id)) (upd μ id w.heap.size) :=
  R.newBlockG hid p cs arr T hl (fun j c h => by obtain ⟨u, g1, g2, g3⟩ := hc j c h; exact ⟨u, g1, g2, .inl g3⟩)

/-- cells of a block of local memory are written -/
theorem Rel.write (R : Rel ren we ωe U O σ a w ω μ) {id : Nat} {p : Bool} {cs cs' : List V} (hid : σ.b[id]? = some (.live p cs)) (hne : cs ≠ []) (hl : cs'.length = cs.length) {arr arr' : Array Value} {T : TypeId} (ha : w.heap[μ id]? = some (.cells arr T (0, 0))) (hs : arr'.size = arr.size) {w' : World}
    (hw1 : w'.heap[μ id]? = some (.cells arr' T (0, 0))) (hw2 : ∀ k, k ≠ μ id → w'.heap[k]? = w.heap[k]?) (hk : Kept (fun k => k = μ id) w w') :
    Fr (env U σ w ω μ) (env U (σ.setB id (.live p cs')) w' ω μ) ∧
    ((∀ (j : Nat) (c : V), cs'[j]? = some c → ∃ u, arr'[j]? = some u ∧ u.oneCell' = true ∧ (p = true → RepP ren w' (wr U ω) c u) ∧ Rep ren (env U (σ.setB id (.live p cs')) w' ω μ) (.cell id j) c u) →
      Rel ren we ωe U O (σ.setB id (.live p cs')) a w' ω μ) := by
  have hlt : id < σ.b.length := (List.getElem?_eq_some_iff.1 hid).1
  obtain ⟨e0, _⟩ := R.live hid hne
  have hcell : ∀ k o, k ≠ μ id → w'.cell? ⟨k, o, none⟩ = w.cell? ⟨k, o, none⟩ := fun k o h => World.cell?_of_block (hw2 k h)
  have hwr : ∀ o, wr U ω (μ id) o := fun o => .inr (by rw [e0]; trivial)
  have hgs : ∀ (l : Loc) β h, ω β = .gs l h → ω β = .gs l h ∧ w'.heap[β]? = w.heap[β]? := by
    intro l β h e
    exact ⟨e, hw2 β (by rintro rfl; rw [e0] at e; cases e)⟩
  have F : Fr (env U σ w ω μ) (env U (σ.setB id (.live p cs')) w' ω μ) := by
    refine ⟨fun k o u h1 h2 => ⟨h1, ?_⟩, fun id' L hL => ⟨?_, rfl, ?_⟩⟩
    · have : k ≠ μ id := by rintro rfl; exact h1 (hwr o)
      exact (hcell k o this).trans h2
    · have hL : blen σ.b id' = some L := hL
      show blen (σ.b.set id _) id' = some L
      unfold blen at hL ⊢
      by_cases hne : id' = id
      · subst hne
        rw [List.getElem?_set_self hlt]
        rw [hid] at hL
        simpa [hl] using hL
      · rw [List.getElem?_set_ne (fun e => hne e.symm)]; exact hL
    · show rsize w (μ id') ≤ rsize w' (μ id')
      by_cases hm : μ id' = μ id
      · rw [hm]; unfold rsize; rw [ha, hw1]; simp [hs]
      · unfold rsize; rw [hw2 _ hm]; exact Nat.le_refl _
  refine ⟨F, fun hc => R.step F rfl (fun t j β h _ e => hgs _ β h e) (fun id' p' cs'' h' hne' => ?_) (fun id' cs'' h' => ?_) (fun id' es' h' => ?_) hk (fun k hk1 hk2 => ?_) (fun k hk1 => ?_) (fun k => ?_)⟩
  · by_cases hne : id' = id
    · subst hne
      simp only [St.setB] at h'
      rw [List.getElem?_set_self hlt] at h'
      cases h'
      exact .inr ⟨e0, arr', T, hw1, by obtain ⟨_, arr0, T0, g1, g2, _⟩ := R.live hid hne; rw [ha] at g1; cases g1; omega, hc⟩
    · simp only [St.setB] at h'
      rw [List.getElem?_set_ne (fun e => hne e.symm)] at h'
      obtain ⟨e1, _⟩ := R.live h' hne'
      exact .inl ⟨h', e1, hw2 _ (by intro e; rw [e, e0] at e1; cases e1; exact hne rfl), fun j β h e => hgs _ β h e⟩
  · by_cases hne : id' = id
    · subst hne
      simp only [St.setB] at h'
      rw [List.getElem?_set_self hlt] at h'
      cases h'
    · simp only [St.setB] at h'
      rw [List.getElem?_set_ne (fun e => hne e.symm)] at h'
      obtain ⟨e1, _⟩ := R.fs id' cs'' h'
      exact .inl ⟨h', e1, hw2 _ (by intro e; rw [e] at e1; exact e1 0 (hwr 0))⟩
  · by_cases hne : id' = id
    · subst hne
      simp only [St.setB] at h'
      rw [List.getElem?_set_self hlt] at h'
      cases h'
    · simp only [St.setB] at h'
      rw [List.getElem?_set_ne (fun e => hne e.symm)] at h'
      obtain ⟨e1, _⟩ := R.ms id' es' h'
      exact .inl ⟨h', e1, hw2 _ (by intro e; rw [e, e0] at e1; cases e1; exact hne rfl)⟩
  · subst hk2
    rcases (R.ow (μ id) (by rw [e0]; simp)).1 with h | h
    · omega
    · exact h
  · exact ⟨(R.ow k hk1).1, Nat.lt_of_lt_of_le (R.ow k hk1).2 hk.size⟩
  · by_cases hm : k = μ id
    · rw [hm]; unfold rsize; rw [ha, hw1]; simp [hs]
    · unfold rsize; rw [hw2 _ hm]; exact Nat.le_refl _
end Go.Proofs.Ythplooifbkopgaa
