/- What abstract values say of memory. Nothing of the program is in here. -/
import Derived.Test.YthplooifbkopgaaBase
import Derived.Test.YthplooifbkopgaaE2
namespace Go.Proofs.Ythplooifbkopgaa
set_option linter.unusedVariables false

theorem add_mk (k o i : Nat) : (⟨k, o, none⟩ : Addr).add i = ⟨k, o + i, none⟩ := by
  unfold Addr.add; split <;> simp_all

/-- a plain value -/
inductive RepP (ren : Nat → Option Nat) (w : World) (Wr : Nat → Nat → Prop) : V → Value → Prop
  | sc (v : Value) (h : v.oneCell' = true) : RepP ren w Wr (.sc v) v
  | agg (cs : List V) (us : List Value) (hl : cs.length = us.length) (h : ∀ (i : Nat) (c : V) (u : Value), cs[i]? = some c → us[i]? = some u → RepP ren w Wr c u)
      (h1 : ∀ u ∈ us, u.oneCell' = true) : RepP ren w Wr (.agg cs) (.agg us.toArray)
  | sl (sz : Nat) (es : List (List V)) (A : Option Addr) (c : Nat) (f : Nat → Value) (hc : es.length ≤ c) (hsz : ∀ e ∈ es, e.length = sz) (k o : Nat)
      (hA : es ≠ [] → A = some ⟨k, o, none⟩) (hcell : ∀ (i : Nat) (v : V), es.flatten[i]? = some v → ¬ Wr k (o + i) ∧ w.cell? ⟨k, o + i, none⟩ = some (f i))
      (h1 : ∀ (i : Nat) (v : V), es.flatten[i]? = some v → (f i).oneCell' = true)
      (h : ∀ (i : Nat) (v : V), es.flatten[i]? = some v → RepP ren w Wr v (f i)) : RepP ren w Wr (.sl sz es) (.slice A es.length c)
  | nil (sz : Nat) (A : Option Addr) : RepP ren w Wr (.gs sz []) (.slice A 0 0)
  | fn (f : FuncId) (g : Nat) (h : ren f = some g) : RepP ren w Wr (.fn g []) (.func (.func f) #[] #[])

theorem RepP.mono {ren : Nat → Option Nat} {w w' : World} {Wr Wr' : Nat → Nat → Prop}
    (H : ∀ k o u, ¬ Wr k o → w.cell? ⟨k, o, none⟩ = some u → ¬ Wr' k o ∧ w'.cell? ⟨k, o, none⟩ = some u) {v : V} {u : Value} (h : RepP ren w Wr v u) : RepP ren w' Wr' v u := by
  induction h with
  | sc v h => exact .sc v h
  | agg cs us hl _ h1 ih => exact .agg cs us hl ih h1
  | sl sz es A c f hc hsz k o hA hcell h1 _ ih => exact .sl sz es A c f hc hsz k o hA (fun i v hv => H _ _ _ (hcell i v hv).1 (hcell i v hv).2) h1 ih
  | nil sz A => exact .nil sz A
  | fn f g h => exact .fn f g h

/-- where a growing slice is held -/
inductive Loc where
  | slot (t j : Nat)
  | cell (id j : Nat)
inductive Ow where
  | no
  | gs (l : Loc) (h : Nat)
  | blk (id : Nat)
def wr (U : Nat → Nat → Prop) (ω : Nat → Ow) (k o : Nat) : Prop :=
  U k o ∨ match ω k with | .no => False | .gs _ h => h ≤ o | .blk _ => True
structure En where
  w : World
  Wr : Nat → Nat → Prop
  ω : Nat → Ow
  μ : Nat → Nat
  bl : Nat → Option Nat
def rsize (w : World) (k : Nat) : Nat := match w.heap[k]? with | some (.cells arr _ _) => arr.size | _ => 0
def blen (b : List B) (id : Nat) : Option Nat := match b[id]? with | some (.live _ cs) => some cs.length | some (.fz cs) => some cs.length | some (.mp _) => some 0 | some (.dead n) => some n | _ => none
def Loc.sub : Loc → Nat → Loc
  | .slot t _, j => .slot t (j + 1)
  | .cell id j, _ => .cell id j
def Loc.hd : Loc → Loc
  | .slot t _ => .slot t 0
  | l => l
theorem Loc.hd_sub (l : Loc) (j : Nat) : (l.sub j).hd = l.hd := by cases l <;> rfl

/-- a slice of local memory -/
def OwnAt (E : En) (v : V) (u : Value) : Prop :=
  ∃ (id off len sz c L : Nat) (A : Option Addr), v = .own id off len sz ∧ u = .slice A len c ∧ E.bl id = some L ∧ off + len * sz ≤ L ∧ len ≤ c ∧ (L = 0 → sz = 0 ∨ c = 0) ∧
    ((A = some ⟨E.μ id, off, none⟩ ∧ off + c * sz ≤ rsize E.w (E.μ id)) ∨ (len = 0 ∧ c = 0))
inductive Rep (ren : Nat → Option Nat) (E : En) : Loc → V → Value → Prop
  | pure {l : Loc} {v : V} {u : Value} (h : RepP ren E.w E.Wr v u) : Rep ren E l v u
  | gs {l : Loc} (sz : Nat) (es : List (List V)) (β c : Nat) (arr : Array Value) (T : TypeId) (f : Nat → Value) (hω : E.ω β = .gs l (es.length * sz))
      (hb : E.w.heap[β]? = some (.cells arr T (0, 0))) (hc : c * sz ≤ arr.size) (hn : es.length ≤ c) (hsz : ∀ e ∈ es, e.length = sz)
      (hcell : ∀ (i : Nat) (v : V), es.flatten[i]? = some v → arr[i]? = some (f i)) (h1 : ∀ (i : Nat) (v : V), es.flatten[i]? = some v → (f i).oneCell' = true)
      (h : ∀ (i : Nat) (v : V), es.flatten[i]? = some v → RepP ren E.w E.Wr v (f i)) : Rep ren E l (.gs sz es) (.slice (some ⟨β, 0, none⟩) es.length c)
  | fr {l : Loc} (sz : Nat) (es : List (List V)) (β c : Nat) (arr : Array Value) (T : TypeId) (f : Nat → Value) (hω : E.ω β = .gs l 0)
      (hb : E.w.heap[β]? = some (.cells arr T (0, 0))) (hc : c * sz ≤ arr.size) (hn : es.length ≤ c ∧ (es = [] → sz = 0 ∨ c = 0)) (hsz : ∀ e ∈ es, e.length = sz)
      (hcell : ∀ (i : Nat) (v : V), es.flatten[i]? = some v → arr[i]? = some (f i)) (h1 : ∀ (i : Nat) (v : V), es.flatten[i]? = some v → (f i).oneCell' = true)
      (h : ∀ (i : Nat) (v : V), es.flatten[i]? = some v → RepP ren E.w E.Wr v (f i)) : Rep ren E l (.fr sz es) (.slice (some ⟨β, 0, none⟩) es.length c)
  | fr0 {l : Loc} (sz : Nat) (A : Option Addr) : Rep ren E l (.fr sz []) (.slice A 0 0)
  | bx {l : Loc} (p : Bool) (cs : List V) (β : Nat) (arr : Array Value) (T : TypeId) (f : Nat → Value) (hω : E.ω β = .gs l 0)
      (hb : E.w.heap[β]? = some (.cells arr T (0, 0))) (hn : cs.length ≤ arr.size)
      (hcell : ∀ (i : Nat) (v : V), cs[i]? = some v → arr[i]? = some (f i)) (h1 : ∀ (i : Nat) (v : V), cs[i]? = some v → (f i).oneCell' = true)
      (h : ∀ (i : Nat) (v : V), cs[i]? = some v → RepP ren E.w E.Wr v (f i)) : Rep ren E l (.bx p cs) (.pointer (some ⟨β, 0, none⟩))
  | own {l : Loc} (id off len sz c L : Nat) (A : Option Addr) (hL : E.bl id = some L) (hl : off + len * sz ≤ L) (hc : len ≤ c ∧ (L = 0 → sz = 0 ∨ c = 0))
      (hA : (A = some ⟨E.μ id, off, none⟩ ∧ off + c * sz ≤ rsize E.w (E.μ id)) ∨ (len = 0 ∧ c = 0)) : Rep ren E l (.own id off len sz) (.slice A len c)
  | ptr {l : Loc} (id off L : Nat) (hL : E.bl id = some L) : Rep ren E l (.ptr id off) (.pointer (some ⟨E.μ id, off, none⟩))
  | fp {l : Loc} (n : Nat) (cs : List V) (k o : Nat) (f : Nat → Value) (hl : cs.length = n)
      (hcell : ∀ (i : Nat) (v : V), cs[i]? = some v → ¬ E.Wr k (o + i) ∧ E.w.cell? ⟨k, o + i, none⟩ = some (f i))
      (h1 : ∀ (i : Nat) (v : V), cs[i]? = some v → (f i).oneCell' = true)
      (h : ∀ (i : Nat) (v : V), cs[i]? = some v → RepP ren E.w E.Wr v (f i)) : Rep ren E l (.fp n cs) (.pointer (some ⟨k, o, none⟩))
  | fn {l : Loc} (f : FuncId) (g : Nat) (caps : List V) (us : List Value) (hr : ren f = some g) (hl : caps.length = us.length)
      (h : ∀ (i : Nat) (c : V), caps[i]? = some c → ∃ id off L, c = .ptr id off ∧ E.bl id = some L ∧ us[i]? = some (.pointer (some ⟨E.μ id, off, none⟩))) : Rep ren E l (.fn g caps) (.func (.func f) #[] us.toArray)
  | tup {l : Loc} (vs : List V) (us : List Value) (hl : vs.length = us.length)
      (h : ∀ (j : Nat) (v : V) (u : Value), vs[j]? = some v → us[j]? = some u → Rep ren E (l.sub j) v u) : Rep ren E l (.tup vs) (.tuple us.toArray)
  | ub {l : Loc} (b : Bool) : Rep ren E l .ub (.bool b)
  | mp {l : Loc} (id L : Nat) (hL : E.bl id = some L) : Rep ren E l (.mp id) (.map (some (E.μ id)))
  | st {l : Loc} (cs : List V) (us : List Value) (hl : cs.length = us.length) (h : ∀ (i : Nat) (c : V) (u : Value), cs[i]? = some c → us[i]? = some u → RepP ren E.w E.Wr c u ∨ OwnAt E c u)
      (h1 : ∀ u ∈ us, u.oneCell' = true) : Rep ren E l (.st cs) (.agg us.toArray)
  | junk {l : Loc} {u : Value} : Rep ren E l .junk u

structure Fr (E E' : En) : Prop where
  st : ∀ k o u, ¬ E.Wr k o → E.w.cell? ⟨k, o, none⟩ = some u → ¬ E'.Wr k o ∧ E'.w.cell? ⟨k, o, none⟩ = some u
  id : ∀ id L, E.bl id = some L → E'.bl id = some L ∧ E'.μ id = E.μ id ∧ rsize E.w (E.μ id) ≤ rsize E'.w (E.μ id)

theorem OwnAt.frame {E E' : En} (F : Fr E E') {v : V} {u : Value} (h : OwnAt E v u) : OwnAt E' v u := by
  obtain ⟨id, off, len, sz, c, L, A, e1, e2, hL, hl, hc, hz, hA⟩ := h
  obtain ⟨f1, f2, f3⟩ := F.id id L hL
  refine ⟨id, off, len, sz, c, L, A, e1, e2, f1, hl, hc, hz, ?_⟩
  rcases hA with ⟨e, he⟩ | h
  · exact .inl ⟨by rw [f2]; exact e, by rw [f2]; omega⟩
  · exact .inr h
theorem OwnAt.rep {ren : Nat → Option Nat} {E : En} {v : V} {u : Value} (h : OwnAt E v u) (l : Loc) : Rep ren E l v u := by
  obtain ⟨id, off, len, sz, c, L, A, rfl, rfl, hL, hl, hc, hz, hA⟩ := h
  exact .own id off len sz c L A hL hl ⟨hc, hz⟩ hA
theorem Rep.ownAt {ren : Nat → Option Nat} {E : En} {l : Loc} {id off len sz : Nat} {u : Value} (h : Rep ren E l (.own id off len sz) u) : OwnAt E (.own id off len sz) u := by
  cases h with
  | pure h => cases h
  | own _ _ _ _ c L A hL hl hc hA => exact ⟨id, off, len, sz, c, L, A, rfl, rfl, hL, hl, hc.1, hc.2, hA⟩
theorem Rep.frame {ren : Nat → Option Nat} {E E' : En} (F : Fr E E') {l : Loc} {v : V} {u : Value} (h : Rep ren E l v u)
    (hg : ∀ (l' : Loc) (β h : Nat), l'.hd = l.hd → E.ω β = .gs l' h → E'.ω β = .gs l' h ∧ E'.w.heap[β]? = E.w.heap[β]?) : Rep ren E' l v u := by
  induction h with
  | pure h => exact .pure (h.mono F.st)
  | @gs l sz es β c arr T f hω hb hc hn hsz hcell h1 h =>
    obtain ⟨g1, g2⟩ := hg _ _ _ rfl hω
    exact .gs sz es β c arr T f g1 (by rw [g2]; exact hb) hc hn hsz hcell h1 (fun i v hv => (h i v hv).mono F.st)
  | @fr l sz es β c arr T f hω hb hc hn hsz hcell h1 h =>
    obtain ⟨g1, g2⟩ := hg _ _ _ rfl hω
    exact .fr sz es β c arr T f g1 (by rw [g2]; exact hb) hc hn hsz hcell h1 (fun i v hv => (h i v hv).mono F.st)
  | fr0 sz A => exact .fr0 sz A
  | ub b => exact .ub b
  | mp id L hL =>
    obtain ⟨f1, f2, f3⟩ := F.id id L hL
    rw [← f2]
    exact .mp id L f1
  | @bx l p cs β arr T f hω hb hn hcell h1 h =>
    obtain ⟨g1, g2⟩ := hg _ _ _ rfl hω
    exact .bx p cs β arr T f g1 (by rw [g2]; exact hb) hn hcell h1 (fun i v hv => (h i v hv).mono F.st)
  | own id off len sz c L A hL hl hc hA =>
    obtain ⟨f1, f2, f3⟩ := F.id id L hL
    refine .own id off len sz c L A f1 hl hc ?_
    rcases hA with ⟨e, he⟩ | h
    · exact .inl ⟨by rw [f2]; exact e, by rw [f2]; omega⟩
    · exact .inr h
  | ptr id off L hL =>
    obtain ⟨f1, f2, f3⟩ := F.id id L hL
    rw [← f2]
    exact .ptr id off L f1
  | fp n cs k o f hl hcell h1 h => exact .fp n cs k o f hl (fun i v hv => F.st _ _ _ (hcell i v hv).1 (hcell i v hv).2) h1 (fun i v hv => (h i v hv).mono F.st)
  | fn f g caps us hr hl h =>
    refine .fn f g caps us hr hl (fun i c hc => ?_)
    obtain ⟨id, off, L, e1, e2, e3⟩ := h i c hc
    obtain ⟨f1, f2, f3⟩ := F.id id L e2
    exact ⟨id, off, L, e1, f1, by rw [f2]; exact e3⟩
  | @tup l vs us hl h ih =>
    refine .tup vs us hl (fun j v u hv hu => ih j v u hv hu (fun l' β h he hω => hg l' β h (by rw [he, Loc.hd_sub]) hω))
  | st cs us hl h h1 => exact .st cs us hl (fun i c u hc hu => (h i c u hc hu).imp (fun q => q.mono F.st) (fun q => q.frame F)) h1
  | junk => exact .junk

theorem flatten_len {es : List (List V)} {sz : Nat} (h : ∀ e ∈ es, e.length = sz) : es.flatten.length = es.length * sz := by
  induction es with
  | nil => simp
  | cons e es ih =>
    have h1 := h e (by simp)
    have h2 := ih (fun x hx => h x (by simp [hx]))
    simp only [List.flatten_cons, List.length_append, h1, h2, List.length_cons]
    rw [Nat.add_mul]; omega

/-- a value that is held nowhere in particular -/
theorem Rep.frame0 {ren : Nat → Option Nat} {E E' : En} (F : Fr E E') {v : V} {u : Value} (H0 : ∀ l, Rep ren E l v u) (hv : ∀ x xs, v ≠ .tup (x :: xs)) (l : Loc) : Rep ren E' l v u := by
  have h1 := H0 (.slot 0 0)
  have h2 := H0 (.slot 1 0)
  clear H0
  cases h1 with
  | pure h => exact .pure (h.mono F.st)
  | gs sz es β c arr T f hω hb hc hn hsz hcell hh h =>
    cases h2 with
    | pure h => exact .pure (h.mono F.st)
    | gs _ _ _ _ arr' T' f' hω' => rw [hω] at hω'; cases hω'
  | fr sz es β c arr T f hω hb hc hn hsz hcell hh h =>
    cases h2 with
    | pure h => exact .pure (h.mono F.st)
    | fr _ _ _ _ arr' T' f' hω' => rw [hω] at hω'; cases hω'
    | fr0 _ _ => exact .fr0 _ _
  | fr0 sz A => exact .fr0 sz A
  | ub b => exact .ub b
  | mp id L hL =>
    obtain ⟨f1, f2, f3⟩ := F.id id L hL
    rw [← f2]
    exact .mp id L f1
  | bx p cs β arr T f hω hb hn hcell hh h =>
    cases h2 with
    | pure h => exact .pure (h.mono F.st)
    | bx _ _ _ arr' T' f' hω' => rw [hω] at hω'; cases hω'
  | own id off len sz c L A hL hl hc hA =>
    obtain ⟨f1, f2, f3⟩ := F.id id L hL
    refine .own id off len sz c L A f1 hl hc ?_
    rcases hA with ⟨e, he⟩ | h
    · exact .inl ⟨by rw [f2]; exact e, by rw [f2]; omega⟩
    · exact .inr h
  | ptr id off L hL =>
    obtain ⟨f1, f2, f3⟩ := F.id id L hL
    rw [← f2]
    exact .ptr id off L f1
  | fp n cs k o f hl hcell q1 q2 => exact .fp n cs k o f hl (fun i v hv => F.st _ _ _ (hcell i v hv).1 (hcell i v hv).2) q1 (fun i v hv => (q2 i v hv).mono F.st)
  | fn f g caps us hr hl q2 =>
    refine .fn f g caps us hr hl (fun i c hc => ?_)
    obtain ⟨id, off, L, e1, e2, e3⟩ := q2 i c hc
    obtain ⟨f1, f2, f3⟩ := F.id id L e2
    exact ⟨id, off, L, e1, f1, by rw [f2]; exact e3⟩
  | tup vs us hl h =>
    cases vs with
    | nil =>
      cases us with
      | nil => exact .tup [] [] rfl (by simp)
      | cons x xs => simp at hl
    | cons x xs => exact absurd rfl (hv x xs)
  | st cs us hl h _h1 => exact .st cs us hl (fun i c u hc hu => (h i c u hc hu).imp (fun q => q.mono F.st) (fun q => q.frame F)) _h1
  | junk => exact .junk

/-- a value that is copied -/
theorem Rep.dem {ren : Nat → Option Nat} {E : En} (hU : ∀ β l h i, E.ω β = .gs l h → i < h → ¬ E.Wr β i) {l : Loc} {v : V} {u : Value} (h : Rep ren E l v u) (l' : Loc) : Rep ren E l' v.dem u := by
  cases h with
  | pure h =>
    cases h with
    | sc _ h => exact .pure (.sc _ h)
    | agg cs us hl h h1 => exact .pure (.agg cs us hl h h1)
    | sl sz es A c f hc hsz k o hA hcell h1 h => exact .pure (.sl sz es A c f hc hsz k o hA hcell h1 h)
    | nil sz A => exact .pure (.sl sz [] A 0 (fun _ => undef) (Nat.le_refl _) (by simp) 0 0 (by simp) (by simp) (by simp) (by simp))
    | fn f g h => exact .pure (.fn f g h)
  | gs sz es β c arr T f hω hb hc hn hsz hcell h1 h =>
    refine .pure (.sl sz es _ c f hn hsz β 0 (fun _ => rfl) (fun i v hv => ⟨?_, ?_⟩) h1 h)
    · have hi : i < es.flatten.length := (List.getElem?_eq_some_iff.1 hv).1
      rw [flatten_len hsz] at hi
      rw [Nat.zero_add]
      exact hU β _ _ i hω hi
    · rw [Nat.zero_add, cell_of_row _ _ _ _ _ _ hb]; exact hcell i v hv
  | fr sz es β c arr T f hω hb hc hn hsz hcell h1 h => exact .junk
  | fr0 sz A => exact .junk
  | ub b => exact .ub b
  | mp id L hL => exact .mp id L hL
  | bx p cs β arr T f hω hb hn hcell h1 h => exact .junk
  | own id off len sz c L A hL hl hc hA => exact .own id off len sz c L A hL hl hc hA
  | ptr id off L hL => exact .ptr id off L hL
  | fp n cs k o f hl hcell h1 h => exact .fp n cs k o f hl hcell h1 h
  | fn f g caps us hr hl h => exact .fn f g caps us hr hl h
  | tup vs us hl h =>
    cases vs with
    | nil =>
      cases us with
      | nil => exact .tup [] [] rfl (by simp)
      | cons x xs => simp at hl
    | cons x xs => exact .junk
  | st cs us hl h h1 => exact .st cs us hl h h1
  | junk => exact .junk

theorem RepP.cells {ren : Nat → Option Nat} {w : World} {Wr : Nat → Nat → Prop} {v : V} {u : Value} (h : RepP ren w Wr v u) :
    v.cells.length = u.cells.size ∧ (∀ (i : Nat) (c : V), v.cells[i]? = some c → ∃ x, u.cells[i]? = some x ∧ x.oneCell' = true ∧ RepP ren w Wr c x) := by
  have one : ∀ (v : V) (u : Value), v.cells = [v] → u.cells = #[u] → u.oneCell' = true → RepP ren w Wr v u →
      v.cells.length = u.cells.size ∧ (∀ (i : Nat) (c : V), v.cells[i]? = some c → ∃ x, u.cells[i]? = some x ∧ x.oneCell' = true ∧ RepP ren w Wr c x) := by
    intro v u e1 e2 e3 e4
    rw [e1, e2]
    refine ⟨rfl, fun i c hc => ?_⟩
    cases i with
    | zero => simp at hc; subst hc; exact ⟨u, by simp, e3, e4⟩
    | succ i => simp at hc
  cases h with
  | sc _ h => exact one (.sc u) u rfl (by cases u <;> first | rfl | exact absurd h (by simp [Value.oneCell'])) h (.sc u h)
  | agg cs us hl h h1 =>
    refine ⟨by simpa [V.cells, Value.cells] using hl, fun i c hc => ?_⟩
    have hi : i < us.length := by rw [← hl]; exact (List.getElem?_eq_some_iff.1 hc).1
    exact ⟨us[i], by simp [Value.cells, hi], h1 _ (List.getElem_mem hi), h i c _ hc (List.getElem?_eq_getElem hi)⟩
  | sl sz es A c f hc hsz k o hA hcell h1 h => exact one _ _ rfl rfl rfl (.sl sz es A c f hc hsz k o hA hcell h1 h)
  | nil sz A => exact one _ _ rfl rfl rfl (.nil sz A)
  | fn f g h => exact one _ _ rfl rfl rfl (.fn f g h)

/-- a copy of a plain value that goes out -/
theorem Rep.plain {ren : Nat → Option Nat} {E : En} (hU : ∀ β l h i, E.ω β = .gs l h → i < h → ¬ E.Wr β i) {l : Loc} {v v' : V} {u : Value} (h : Rep ren E l v u) (hp : v.plain = some v') : RepP ren E.w E.Wr v' u := by
  cases h with
  | pure h =>
    cases h with
    | sc _ h => cases hp; exact .sc _ h
    | agg cs us hl h h1 => cases hp; exact .agg cs us hl h h1
    | sl sz es A c f hc hsz k o hA hcell h1 h => cases hp; exact .sl sz es A c f hc hsz k o hA hcell h1 h
    | nil sz A => cases hp; exact .sl sz [] A 0 (fun _ => undef) (Nat.le_refl _) (by simp) 0 0 (by simp) (by simp) (by simp) (by simp)
    | fn f g h => cases hp; exact .fn f g h
  | gs sz es β c arr T f hω hb hc hn hsz hcell h1 h =>
    cases hp
    have := Rep.dem hU (Rep.gs (l := l) sz es β c arr T f hω hb hc hn hsz hcell h1 h) l
    cases this with
    | pure h => exact h
  | fr sz es β c arr T f hω hb hc hn hsz hcell h1 h => cases hp
  | fr0 sz A => cases hp
  | ub b => cases hp
  | mp id L hL => cases hp
  | bx p cs β arr T f hω hb hn hcell h1 h => cases hp
  | own id off len sz c L A hL hl hc hA => cases hp
  | ptr id off L hL => cases hp
  | fp n cs k o f hl hcell h1 h => cases hp
  | fn f g caps us hr hl h =>
    cases caps with
    | nil =>
      cases hp
      cases us with
      | nil => exact .fn f g hr
      | cons x xs => simp at hl
    | cons x xs => cases hp
  | tup vs us hl h => cases hp
  | st cs us hl h h1 => cases hp
  | junk => cases hp
end Go.Proofs.Ythplooifbkopgaa
