/- Who holds a block: new ones, ones that are handed over, results put into slots. -/
import Derived.Test.YthplooifbkopgaaE10
namespace Go.Proofs.Ythplooifbkopgaa
set_option linter.unusedVariables false
set_option linter.unusedSimpArgs false
variable {ren : Nat → Option Nat} {we : World} {ωe : Nat → Ow} {U : Nat → Nat → Prop} {O : Nat → Prop} {σ : St} {a : Act} {w : World} {ω : Nat → Ow} {μ : Nat → Nat} {P : Program}

/-- a new block that a slice holds -/
theorem Rel.newGs (R : Rel ren we ωe U O σ a w ω μ) (l : Loc) (h : Nat) (arr : Array Value) (T : TypeId) :
    Fr (env U σ w ω μ) (env U σ (w.alloc (.cells arr T)) (upd ω w.heap.size (.gs l h)) μ) ∧ Rel ren we ωe U O σ a (w.alloc (.cells arr T)) (upd ω w.heap.size (.gs l h)) μ := by
  have hwsz : ∀ k, ω k ≠ .no → k < w.heap.size := fun k h => (R.ow k h).2
  have hgs : ∀ (l' : Loc) β h', ω β = .gs l' h' → upd ω w.heap.size (.gs l h) β = .gs l' h' ∧ (w.alloc (.cells arr T)).heap[β]? = w.heap[β]? := by
    intro l' β h' e
    have hβ := hwsz β (by rw [e]; simp)
    exact ⟨by rw [upd_other _ _ (by omega)]; exact e, heap_alloc_old w _ hβ⟩
  have F : Fr (env U σ w ω μ) (env U σ (w.alloc (.cells arr T)) (upd ω w.heap.size (.gs l h)) μ) := by
    refine ⟨fun k o u h1 h2 => ?_, fun id' L hL => ⟨hL, rfl, ?_⟩⟩
    · have hk : k < w.heap.size := World.block_lt_of_cell? w ⟨k, o, none⟩ h2
      refine ⟨?_, (World.cell?_alloc_lt w _ ⟨k, o, none⟩ hk).trans h2⟩
      show ¬ wr U (upd ω w.heap.size (.gs l h)) k o
      unfold wr
      rw [upd_other _ _ (by omega)]
      exact h1
    · show rsize w (μ id') ≤ rsize (w.alloc (.cells arr T)) (μ id')
      by_cases hm : μ id' < w.heap.size
      · unfold rsize; rw [heap_alloc_old w _ hm]; exact Nat.le_refl _
      · unfold rsize; rw [Array.getElem?_eq_none (by omega)]; exact Nat.zero_le _
  refine ⟨F, R.step F rfl (fun t j β h _ e => hgs _ β h e) (fun id' p' cs' h' hne' => ?_) (fun id' cs' h' => ?_) (fun id' es' h' => ?_) (Kept.alloc No w _) (fun k _ h => no_of h) (fun k hk => ?_) (fun k => ?_)⟩
  · obtain ⟨e0, arr', T', e1, _⟩ := R.live h' hne'
    have hβ := hwsz (μ id') (by rw [e0]; simp)
    exact .inl ⟨h', by rw [upd_other _ _ (by omega)]; exact e0, heap_alloc_old w _ hβ, fun j β h e => hgs _ β h e⟩
  · obtain ⟨e0, arr', T', fr', e1, _⟩ := R.fs id' cs' h'
    have hβ : μ id' < w.heap.size := (Array.getElem?_eq_some_iff.1 e1).1
    refine .inl ⟨h', fun o hw => e0 o ?_, heap_alloc_old w _ hβ⟩
    unfold wr at hw ⊢
    rwa [upd_other _ _ (by omega)] at hw
  · obtain ⟨e0, arr', clock', e1, _⟩ := R.ms id' es' h'
    have hβ := hwsz (μ id') (by rw [e0]; simp)
    exact .inl ⟨h', by rw [upd_other _ _ (by omega)]; exact e0, heap_alloc_old w _ hβ⟩
  · by_cases hk' : k = w.heap.size
    · subst hk'; exact ⟨.inl R.kp.size, by simp⟩
    · rw [upd_other _ _ hk'] at hk
      exact ⟨(R.ow k hk).1, by have := (R.ow k hk).2; simp; omega⟩
  · by_cases hm : k < w.heap.size
    · unfold rsize; rw [heap_alloc_old w _ hm]; exact Nat.le_refl _
    · unfold rsize; rw [Array.getElem?_eq_none (xs := w.heap) (by omega)]; exact Nat.zero_le _

/-! ### a slot gets another number -/
def Loc.rn (T d : Nat) : Loc → Loc
  | .slot t j => if t = T then .slot d j else .slot t j
  | l => l
def renO (T d : Nat) (ω : Nat → Ow) (k : Nat) : Ow := match ω k with | .gs l h => .gs (l.rn T d) h | x => x
theorem wr_renO (U : Nat → Nat → Prop) (T d : Nat) (ω : Nat → Ow) : wr U (renO T d ω) = wr U ω := by
  funext k o
  unfold wr renO
  cases ω k <;> rfl
theorem Loc.rn_sub (T d : Nat) (l : Loc) (j : Nat) : (l.sub j).rn T d = (l.rn T d).sub j := by
  cases l with
  | slot t i => simp only [Loc.sub, Loc.rn]; split <;> rfl
  | cell id i => rfl
theorem renO_fr (U : Nat → Nat → Prop) (σ : St) (w : World) (μ : Nat → Nat) (ω : Nat → Ow) (T d : Nat) : Fr (env U σ w ω μ) (env U σ w (renO T d ω) μ) := by
  refine ⟨fun k o u h1 h2 => ⟨?_, h2⟩, fun id L hL => ⟨hL, rfl, Nat.le_refl _⟩⟩
  show ¬ wr U (renO T d ω) k o
  rw [wr_renO]; exact h1
theorem Rep.renSlot {U : Nat → Nat → Prop} {σ : St} {w : World} {μ : Nat → Nat} {ω : Nat → Ow} {T d : Nat} {l : Loc} {v : V} {u : Value} (h : Rep ren (env U σ w ω μ) l v u) : Rep ren (env U σ w (renO T d ω) μ) (l.rn T d) v u := by
  have F := renO_fr U σ w μ ω T d
  induction h with
  | pure h => exact .pure (h.mono F.st)
  | @gs l sz es β c arr T' f hω hb hc hn hsz hcell h1 h =>
    have hω : ω β = .gs l (es.length * sz) := hω
    exact .gs sz es β c arr T' f (by show renO T d ω β = _; simp [renO, hω]) hb hc hn hsz hcell h1 (fun i v hv => (h i v hv).mono F.st)
  | @fr l sz es β c arr T' f hω hb hc hn hsz hcell h1 h =>
    have hω : ω β = .gs l 0 := hω
    exact .fr sz es β c arr T' f (by show renO T d ω β = _; simp [renO, hω]) hb hc hn hsz hcell h1 (fun i v hv => (h i v hv).mono F.st)
  | fr0 sz A => exact .fr0 sz A
  | ub b => exact .ub b
  | mp id L hL => exact Rep.frame0 F (fun _ => .mp id L hL) (by simp) _
  | @bx l p cs β arr T' f hω hb hn hcell h1 h =>
    have hω : ω β = .gs l 0 := hω
    exact .bx p cs β arr T' f (by show renO T d ω β = _; simp [renO, hω]) hb hn hcell h1 (fun i v hv => (h i v hv).mono F.st)
  | own id off len sz c L A hL hl hc hA => exact Rep.frame0 F (fun _ => .own id off len sz c L A hL hl hc hA) (by simp) _
  | ptr id off L hL => exact Rep.frame0 F (fun _ => .ptr id off L hL) (by simp) _
  | fp n cs k o f hl hcell h1 h => exact Rep.frame0 F (fun _ => .fp n cs k o f hl hcell h1 h) (by simp) _
  | fn f g caps us hr hl h => exact Rep.frame0 F (fun _ => .fn f g caps us hr hl h) (by simp) _
  | tup vs us hl h ih => exact .tup vs us hl (fun j v u hv hu => by rw [← Loc.rn_sub]; exact ih j v u hv hu)
  | st cs us hl h h1 => exact Rep.frame0 F (fun _ => .st cs us hl h h1) (by simp) _
  | junk => exact .junk
/-- what slot T held, slot d holds; nothing else is held by T -/
theorem Rel.renSlot' (R : Rel ren we ωe U O σ a w ω μ) {T : Nat} (hT : ∀ v, σ.t[T]? = some v → v = .junk) (d : Nat) : Rel ren we ωe U O σ a w (renO T d ω) μ := by
  have F := renO_fr U σ w μ ω T d
  have key : ∀ l : Loc, l.hd ≠ .slot T 0 → ∀ (l' : Loc) (β h : Nat), l'.hd = l.hd → ω β = .gs l' h → renO T d ω β = .gs l' h := by
    intro l hl l' β h e1 e2
    unfold renO
    rw [e2]
    cases l' with
    | slot t j =>
      have : t ≠ T := by rintro rfl; exact hl (by rw [← e1]; rfl)
      simp [Loc.rn, this]
    | cell id j => rfl
  refine ⟨R.df, R.tl, fun j v hj => ?_, fun id p cs hb => ?_, fun id cs hb => ?_, fun id es hb => ?_, R.kp, fun k hk => ?_, R.ul, fun k o u h1 h2 => F.st k o u (R.fr k o u h1 h2).1 (R.fr k o u h1 h2).2, R.rs⟩
  · by_cases hjT : j = T
    · subst hjT; rw [hT v hj]; exact .junk
    · exact (R.ts j v hj).frame F (fun l' β h e1 e2 => ⟨key (.slot j 0) (by intro e; cases e; exact hjT rfl) l' β h e1 e2, rfl⟩)
  · refine orNe fun hne => ?_
    obtain ⟨e0, arr, T', e1, e2, e3⟩ := R.live hb hne
    refine ⟨by simp [renO, e0], arr, T', e1, e2, fun j c hc => ?_⟩
    obtain ⟨u, g1, g2, g3, g4⟩ := e3 j c hc
    exact ⟨u, g1, g2, fun hp => (g3 hp).mono F.st, g4.frame F (fun l' β h e1 e2 => ⟨key (.cell id j) (by intro e; cases e) l' β h e1 e2, rfl⟩)⟩
  · obtain ⟨e0, arr, T', fr, e1, e2, e3⟩ := R.fs id cs hb
    refine ⟨by rw [wr_renO]; exact e0, arr, T', fr, e1, e2, fun j c hc => ?_⟩
    obtain ⟨u, g1, g2, g3⟩ := e3 j c hc
    exact ⟨u, g1, g2, g3.mono F.st⟩
  · obtain ⟨e0, arr, clock, e1, e2⟩ := R.ms id es hb
    exact ⟨by simp [renO, e0], arr, clock, e1, e2.mono F.st⟩
  · refine R.ow k (fun e => hk ?_)
    simp [renO, e]

theorem Rel.renSlot (R : Rel ren we ωe U O σ a w ω μ) {T : Nat} (hT : σ.t.length ≤ T) (d : Nat) : Rel ren we ωe U O σ a w (renO T d ω) μ :=
  R.renSlot' (fun v hv => by have := (List.getElem?_eq_some_iff.1 hv).1; omega) d
/-- what slot T held altogether is from now on held as 'x' -/
theorem Rel.reown (R : Rel ren we ωe U O σ a w ω μ) {T j0 : Nat} (hT : σ.t.length ≤ T) {β h : Nat} (hβ : ω β = .gs (.slot T j0) h) (l' : Loc) (h' : Nat) (hh : h ≤ h') :
    Fr (env U σ w ω μ) (env U σ w (upd ω β (.gs l' h')) μ) ∧ Rel ren we ωe U O σ a w (upd ω β (.gs l' h')) μ := by
  have F : Fr (env U σ w ω μ) (env U σ w (upd ω β (.gs l' h')) μ) := by
    refine ⟨fun k o u h1 h2 => ⟨?_, h2⟩, fun id L hL => ⟨hL, rfl, Nat.le_refl _⟩⟩
    show ¬ wr U (upd ω β (.gs l' h')) k o
    have h1 : ¬ wr U ω k o := h1
    unfold wr at h1 ⊢
    by_cases hk : k = β
    · subst hk
      rw [upd_same]
      rw [hβ] at h1
      simp only [not_or] at h1 ⊢
      exact ⟨h1.1, by omega⟩
    · rw [upd_other _ _ hk]; exact h1
  have key : ∀ l : Loc, l.hd ≠ .slot T 0 → ∀ (l2 : Loc) (β2 h2 : Nat), l2.hd = l.hd → ω β2 = .gs l2 h2 → upd ω β (.gs l' h') β2 = .gs l2 h2 := by
    intro l hl l2 β2 h2 e1 e2
    rw [upd_other]
    · exact e2
    · rintro rfl
      rw [hβ] at e2; cases e2
      exact hl e1.symm
  refine ⟨F, R.df, R.tl, fun j v hj => ?_, fun id p cs hb => ?_, fun id cs hb => ?_, fun id es hb => ?_, R.kp, fun k hk => ?_, R.ul, fun k o u h1 h2 => F.st k o u (R.fr k o u h1 h2).1 (R.fr k o u h1 h2).2, R.rs⟩
  · refine (R.ts j v hj).frame F (fun l' β h e1 e2 => ⟨key (.slot j 0) ?_ l' β h e1 e2, rfl⟩)
    have : j < σ.t.length := (List.getElem?_eq_some_iff.1 hj).1
    intro e; cases e; omega
  · refine orNe fun hne => ?_
    obtain ⟨e0, arr, T', e1, e2, e3⟩ := R.live hb hne
    refine ⟨?_, arr, T', e1, e2, fun j c hc => ?_⟩
    · rw [upd_other]
      · exact e0
      · intro e; rw [e, hβ] at e0; cases e0
    obtain ⟨u, g1, g2, g3, g4⟩ := e3 j c hc
    exact ⟨u, g1, g2, fun hp => (g3 hp).mono F.st, g4.frame F (fun l' β h e1 e2 => ⟨key (.cell id j) (by intro e; cases e) l' β h e1 e2, rfl⟩)⟩
  · obtain ⟨e0, arr, T', fr, e1, e2, e3⟩ := R.fs id cs hb
    refine ⟨fun o ho => ?_, arr, T', fr, e1, e2, fun j c hc => ?_⟩
    · by_cases hk : μ id = β
      · unfold wr at ho
        rw [hk, upd_same] at ho
        rcases ho with ho | ho
        · exact e0 o (.inl (by rw [hk]; exact ho))
        · have ho : h' ≤ o := ho
          exact e0 o (.inr (by rw [hk, hβ]; show h ≤ o; omega))
      · unfold wr at ho
        rw [upd_other _ _ hk] at ho
        exact e0 o ho
    · obtain ⟨u, g1, g2, g3⟩ := e3 j c hc
      exact ⟨u, g1, g2, g3.mono F.st⟩
  · obtain ⟨e0, arr, clock, e1, e2⟩ := R.ms id es hb
    refine ⟨?_, arr, clock, e1, e2.mono F.st⟩
    rw [upd_other]
    · exact e0
    · intro e; rw [e, hβ] at e0; cases e0
  · by_cases hkb : k = β
    · subst hkb; exact R.ow k (by rw [hβ]; simp)
    · rw [upd_other _ _ hkb] at hk; exact R.ow k hk
/-- a block that a result held altogether becomes a block of local memory -/
theorem Rel.adopt (R : Rel ren we ωe U O σ a w ω μ) {T j0 : Nat} (hT : σ.t.length ≤ T) {β : Nat} (hβ : ω β = .gs (.slot T j0) 0) {id : Nat} (hid : σ.b[id]? = some .gone) (p : Bool) (cs : List V) (arr : Array Value) (Ty : TypeId)
    (hb : w.heap[β]? = some (.cells arr Ty (0, 0))) (hl : cs.length ≤ arr.size) (hc : ∀ (j : Nat) (c : V), cs[j]? = some c → ∃ u, arr[j]? = some u ∧ u.oneCell' = true ∧ RepP ren w (wr U ω) c u) :
    Fr (env U σ w ω μ) (env U (σ.setB id (.live p cs)) w (upd ω β (.blk id)) (upd μ id β)) ∧ Rel ren we ωe U O (σ.setB id (.live p cs)) a w (upd ω β (.blk id)) (upd μ id β) := by
  have hlt : id < σ.b.length := (List.getElem?_eq_some_iff.1 hid).1
  have hw : wr U (upd ω β (.blk id)) = wr U ω := by
    funext k o
    unfold wr
    by_cases hk : k = β
    · subst hk; rw [upd_same, hβ]; simp
    · rw [upd_other _ _ hk]
  have F : Fr (env U σ w ω μ) (env U (σ.setB id (.live p cs)) w (upd ω β (.blk id)) (upd μ id β)) := by
    refine ⟨fun k o u h1 h2 => ⟨?_, h2⟩, fun id' L hL => ?_⟩
    · show ¬ wr U (upd ω β (.blk id)) k o
      rw [hw]; exact h1
    · have hL : blen σ.b id' = some L := hL
      have hne : id' ≠ id := by rintro rfl; simp [blen, hid] at hL
      refine ⟨?_, upd_other _ _ hne, Nat.le_refl _⟩
      show blen (σ.b.set id _) id' = some L
      unfold blen at hL ⊢
      rw [List.getElem?_set_ne (fun e => hne e.symm)]
      exact hL
  have key : ∀ l : Loc, l.hd ≠ .slot T 0 → ∀ (l2 : Loc) (β2 h2 : Nat), l2.hd = l.hd → ω β2 = .gs l2 h2 → upd ω β (.blk id) β2 = .gs l2 h2 := by
    intro l hl l2 β2 h2 e1 e2
    rw [upd_other]
    · exact e2
    · rintro rfl
      rw [hβ] at e2; cases e2
      exact hl e1.symm
  refine ⟨F, R.df, R.tl, fun j v hj => ?_, fun id' p' cs' hb' => ?_, fun id' cs' hb' => ?_, fun id' es' hb' => ?_, R.kp, fun k hk => ?_, R.ul, fun k o u h1 h2 => F.st k o u (R.fr k o u h1 h2).1 (R.fr k o u h1 h2).2, R.rs⟩
  · refine (R.ts j v hj).frame F (fun l' β h e1 e2 => ⟨key (.slot j 0) ?_ l' β h e1 e2, rfl⟩)
    have : j < σ.t.length := (List.getElem?_eq_some_iff.1 hj).1
    intro e; cases e; omega
  · by_cases hne : id' = id
    · subst hne
      simp only [St.setB] at hb'
      rw [List.getElem?_set_self hlt] at hb'
      cases hb'
      refine .inr ⟨by rw [upd_same, upd_same], arr, Ty, by rw [upd_same]; exact hb, hl, fun j c hj => ?_⟩
      obtain ⟨u, g1, g2, g3⟩ := hc j c hj
      exact ⟨u, g1, g2, fun _ => g3.mono F.st, .pure (g3.mono F.st)⟩
    · simp only [St.setB] at hb'
      rw [List.getElem?_set_ne (fun e => hne e.symm)] at hb'
      refine orNe fun hne' => ?_
      obtain ⟨e0, arr', T', e1, e2, e3⟩ := R.live hb' hne'
      rw [upd_other _ _ hne]
      refine ⟨?_, arr', T', e1, e2, fun j c hj => ?_⟩
      · rw [upd_other]
        · exact e0
        · intro e; rw [e, hβ] at e0; cases e0
      · obtain ⟨u, g1, g2, g3, g4⟩ := e3 j c hj
        exact ⟨u, g1, g2, fun hp => (g3 hp).mono F.st, g4.frame F (fun l' β h e1 e2 => ⟨key (.cell id' j) (by intro e; cases e) l' β h e1 e2, rfl⟩)⟩
  · by_cases hne : id' = id
    · subst hne
      simp only [St.setB] at hb'
      rw [List.getElem?_set_self hlt] at hb'
      cases hb'
    · simp only [St.setB] at hb'
      rw [List.getElem?_set_ne (fun e => hne e.symm)] at hb'
      obtain ⟨e0, arr', T', fr', e1, e2, e3⟩ := R.fs id' cs' hb'
      rw [upd_other _ _ hne]
      refine ⟨by rw [hw]; exact e0, arr', T', fr', e1, e2, fun j c hj => ?_⟩
      obtain ⟨u, g1, g2, g3⟩ := e3 j c hj
      exact ⟨u, g1, g2, g3.mono F.st⟩
  · by_cases hne : id' = id
    · subst hne
      simp only [St.setB] at hb'
      rw [List.getElem?_set_self hlt] at hb'
      cases hb'
    · simp only [St.setB] at hb'
      rw [List.getElem?_set_ne (fun e => hne e.symm)] at hb'
      obtain ⟨e0, arr', clock', e1, e2⟩ := R.ms id' es' hb'
      rw [upd_other _ _ hne]
      refine ⟨?_, arr', clock', e1, e2.mono F.st⟩
      rw [upd_other]
      · exact e0
      · intro e; rw [e, hβ] at e0; cases e0
  · by_cases hkb : k = β
    · subst hkb; exact R.ow k (by rw [hβ]; simp)
    · rw [upd_other _ _ hkb] at hk; exact R.ow k hk

/-- an empty block: no memory stands behind it -/
theorem Rel.empty (R : Rel ren we ωe U O σ a w ω μ) {id : Nat} (hid : σ.b[id]? = some .gone) (p : Bool) :
    Fr (env U σ w ω μ) (env U (σ.setB id (.live p [])) w ω μ) ∧ Rel ren we ωe U O (σ.setB id (.live p [])) a w ω μ := by
  have hlt : id < σ.b.length := (List.getElem?_eq_some_iff.1 hid).1
  have F : Fr (env U σ w ω μ) (env U (σ.setB id (.live p [])) w ω μ) := by
    refine ⟨fun k o u h1 h2 => ⟨h1, h2⟩, fun id' L hL => ⟨?_, rfl, Nat.le_refl _⟩⟩
    have hL : blen σ.b id' = some L := hL
    have hne : id' ≠ id := by rintro rfl; simp [blen, hid] at hL
    show blen (σ.b.set id _) id' = some L
    unfold blen at hL ⊢
    rw [List.getElem?_set_ne (fun e => hne e.symm)]
    exact hL
  refine ⟨F, R.step F rfl (fun t j β h _ e => ⟨e, rfl⟩) (fun id' p' cs' h' hne' => ?_) (fun id' cs' h' => ?_) (fun id' es' h' => ?_) (Kept.refl No w) (fun k _ h => no_of h) R.ow (fun k => Nat.le_refl _)⟩
  · simp only [St.setB] at h'
    by_cases hne : id' = id
    · subst hne; rw [List.getElem?_set_self hlt] at h'; cases h'; exact absurd rfl hne'
    · rw [List.getElem?_set_ne (fun e => hne e.symm)] at h'
      exact .inl ⟨h', (R.live h' hne').1, rfl, fun j β h e => ⟨e, rfl⟩⟩
  · simp only [St.setB] at h'
    by_cases hne : id' = id
    · subst hne; rw [List.getElem?_set_self hlt] at h'; cases h'
    · rw [List.getElem?_set_ne (fun e => hne e.symm)] at h'
      exact .inl ⟨h', (R.fs id' cs' h').1, rfl⟩
  · simp only [St.setB] at h'
    by_cases hne : id' = id
    · subst hne; rw [List.getElem?_set_self hlt] at h'; cases h'
    · rw [List.getElem?_set_ne (fun e => hne e.symm)] at h'
      exact .inl ⟨h', (R.ms id' es' h').1, rfl⟩
theorem flat_zero {sz c : Nat} {es : List (List V)} (hsz : ∀ e ∈ es, e.length = sz) (h0 : es.flatten.length = 0) (h : es = [] → sz = 0 ∨ c = 0) : sz = 0 ∨ c = 0 := by
  rw [flatten_len hsz] at h0
  rcases Nat.mul_eq_zero.1 h0 with q | q
  · exact h (List.length_eq_zero_iff.1 q)
  · exact .inl q
theorem newB_inv {nb : Nat} {dst : Option Nat} {x : B} {f : Nat → V} {σ' : St} (h : σ.newB nb dst x f = some σ') : ∃ d, dst = some d ∧ σ.b[nb + d]? = some .gone ∧ σ' = (σ.setB (nb + d) x).put dst (f (nb + d)) := by
  unfold St.newB at h
  split at h
  · rename_i d
    split at h
    · rename_i hg; cases h; exact ⟨d, rfl, hg, rfl⟩
    · cases h
  · cases h
theorem blen_set {b : List B} {id : Nat} (hid : id < b.length) (p : Bool) (cs : List V) : blen (b.set id (.live p cs)) id = some cs.length := by
  unfold blen; rw [List.getElem?_set_self hid]
theorem rsize_of {w : World} {k : Nat} {arr : Array Value} {T : TypeId} {fr : Nat × Nat} (h : w.heap[k]? = some (.cells arr T fr)) : rsize w k = arr.size := by simp [rsize, h]

theorem mu_new {μ : Nat → Nat} {nb d β k : Nat} (hk : k < nb) : upd μ (nb + d) β k = μ k := upd_other _ _ (by omega)
/-- what a call gives, held by slot T until now, is put into its slot -/
theorem Rel.putR (R : Rel ren we ωe U O σ a w ω μ) {T : Nat} (hT : σ.t.length ≤ T) {v : V} {u : Value} (hr : Rep ren (env U σ w ω μ) (.slot T 0) v u) {nb : Nat} {dst : Option Nat} {pin : Bool} {σ' : St} (hp : σ.putR nb dst pin v = some σ') :
    ∃ ω' μ', Rel ren we ωe U O σ' (a.put dst u) w ω' μ' ∧ ∀ k, k < nb → μ' k = μ k := by
  have plain : σ' = σ.put dst v → ∃ ω' μ', Rel ren we ωe U O σ' (a.put dst u) w ω' μ' ∧ ∀ k, k < nb → μ' k = μ k := by
    intro e
    subst e
    cases dst with
    | none => exact ⟨ω, μ, R, fun _ _ => rfl⟩
    | some d =>
      refine ⟨renO T d ω, μ, (R.renSlot hT d).put (some d) (fun i hi => ?_), fun _ _ => rfl⟩
      cases hi
      have := hr.renSlot (T := T) (d := d)
      simpa [Loc.rn] using this
  cases v with
  | gs sz es =>
    simp only [St.putR] at hp
    split at hp
    · cases hp
    · cases hp; exact plain rfl
  | fr sz es =>
    simp only [St.putR, St.putG] at hp
    split at hp
    · rename_i hpin
      obtain ⟨d, rfl, hg, rfl⟩ := newB_inv hp
      have hlt : nb + d < σ.b.length := (List.getElem?_eq_some_iff.1 hg).1
      cases hr with
      | pure h => cases h
      | fr0 _ A =>
        obtain ⟨F, R'⟩ := R.empty hg true
        exact ⟨_, _, R'.put (some d) (fun i hi => .own (nb + d) 0 0 sz 0 0 A (blen_set hlt _ _) (by omega) ⟨by omega, fun _ => .inr rfl⟩ (.inr ⟨rfl, rfl⟩)), fun _ _ => rfl⟩
      | fr _ _ β c arr Ty f hω hb hc hn hsz hcell h1 h =>
        have hfl := flatten_len hsz
        have hle : es.length * sz ≤ c * sz := Nat.mul_le_mul_right sz hn.1
        obtain ⟨F, R'⟩ := R.adopt hT (β := β) hω hg true es.flatten arr Ty hb (by omega) (fun j cc hj => ⟨f j, hcell j cc hj, h1 j cc hj, h j cc hj⟩)
        refine ⟨_, _, R'.put (some d) (fun i hi => ?_), fun k hk => mu_new hk⟩
        refine .own (nb + d) 0 es.length sz c es.flatten.length _ (blen_set hlt _ _) (by omega) ⟨hn.1, fun h0 => flat_zero hsz h0 hn.2⟩ (.inl ⟨by show some (Addr.mk β 0 none) = some ⟨upd μ (nb + d) β (nb + d), 0, none⟩; rw [upd_same], ?_⟩)
        show 0 + c * sz ≤ rsize w (upd μ (nb + d) β (nb + d))
        have hb' : w.heap[β]? = some (.cells arr Ty (0, 0)) := hb
        rw [upd_same, rsize_of hb']; omega
    · cases hp
      cases hr with
      | pure h => cases h
      | fr0 _ A =>
        cases dst with
        | none => exact ⟨ω, μ, R, fun _ _ => rfl⟩
        | some d => exact ⟨ω, μ, R.put (some d) (fun i hi => .pure (.nil _ _)), fun _ _ => rfl⟩
      | fr _ _ β c arr Ty f hω hb hc hn hsz hcell h1 h =>
        cases dst with
        | none => exact ⟨ω, μ, R, fun _ _ => rfl⟩
        | some d =>
          obtain ⟨F, R'⟩ := R.reown hT (β := β) hω (.slot d 0) (es.length * sz) (Nat.zero_le _)
          refine ⟨_, _, R'.put (some d) (fun i hi => ?_), fun _ _ => rfl⟩
          cases hi
          exact .gs sz es β c arr Ty f (upd_same _ _ _) hb hc hn.1 hsz hcell h1 (fun i v hv => (h i v hv).mono F.st)
  | bx p cs =>
    simp only [St.putR] at hp
    obtain ⟨d, rfl, hg, rfl⟩ := newB_inv hp
    have hlt : nb + d < σ.b.length := (List.getElem?_eq_some_iff.1 hg).1
    cases hr with
    | pure h => cases h
    | bx _ _ β arr Ty f hω hb hn hcell h1 h =>
      obtain ⟨F, R'⟩ := R.adopt hT (β := β) hω hg p cs arr Ty hb hn (fun j cc hj => ⟨f j, hcell j cc hj, h1 j cc hj, h j cc hj⟩)
      refine ⟨_, _, R'.put (some d) (fun i hi => ?_), fun k hk => mu_new hk⟩
      have := Rep.ptr (ren := ren) (E := env U (σ.setB (nb + d) (.live p cs)) w (upd ω β (.blk (nb + d))) (upd μ (nb + d) β)) (l := .slot i 0) (nb + d) 0 cs.length (blen_set hlt _ _)
      simpa [env, upd_same] using this
  | _ => cases hp; exact plain rfl
end Go.Proofs.Ythplooifbkopgaa
