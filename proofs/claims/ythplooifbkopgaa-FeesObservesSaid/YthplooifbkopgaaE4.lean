/- The state of the abstract machine and the state of the model; operations that only compute. -/
import Derived.Test.YthplooifbkopgaaE3
namespace Go.Proofs.Ythplooifbkopgaa
set_option linter.unusedVariables false
set_option linter.unusedSimpArgs false

def env (U : Nat → Nat → Prop) (σ : St) (w : World) (ω : Nat → Ow) (μ : Nat → Nat) : En := ⟨w, wr U ω, ω, μ, blen σ.b⟩

/-- the entries of a map -/
def MapRep (ren : Nat → Option Nat) (w : World) (Wr : Nat → Nat → Prop) (es : List (V × V)) (arr : Array MapEntry) : Prop :=
  arr.size = es.length ∧ ∀ (j : Nat) (k v : V), es[j]? = some (k, v) → ∃ e, arr[j]? = some e ∧ RepP ren w Wr k e.key ∧ RepP ren w Wr v e.val
theorem MapRep.mono {ren : Nat → Option Nat} {w w' : World} {Wr Wr' : Nat → Nat → Prop} (H : ∀ k o u, ¬ Wr k o → w.cell? ⟨k, o, none⟩ = some u → ¬ Wr' k o ∧ w'.cell? ⟨k, o, none⟩ = some u) {es : List (V × V)} {arr : Array MapEntry} (h : MapRep ren w Wr es arr) : MapRep ren w' Wr' es arr :=
  ⟨h.1, fun j k v hj => by obtain ⟨e, h1, h2, h3⟩ := h.2 j k v hj; exact ⟨e, h1, h2.mono H, h3.mono H⟩⟩
structure Rel (ren : Nat → Option Nat) (we : World) (ωe : Nat → Ow) (U : Nat → Nat → Prop) (O : Nat → Prop) (σ : St) (a : Act) (w : World) (ω : Nat → Ow) (μ : Nat → Nat) : Prop where
  df : a.defers = []
  tl : a.tmps.size = σ.t.length
  ts : ∀ (i : Nat) (v : V), σ.t[i]? = some v → Rep ren (env U σ w ω μ) (.slot i 0) v (a.tmps.getD i undef)
  bs : ∀ (id : Nat) (p : Bool) (cs : List V), σ.b[id]? = some (.live p cs) → cs = [] ∨ (ω (μ id) = .blk id ∧ ∃ arr T, w.heap[μ id]? = some (.cells arr T (0, 0)) ∧ cs.length ≤ arr.size ∧
    ∀ (j : Nat) (c : V), cs[j]? = some c → ∃ u, arr[j]? = some u ∧ u.oneCell' = true ∧ (p = true → RepP ren w (wr U ω) c u) ∧ Rep ren (env U σ w ω μ) (.cell id j) c u)
  fs : ∀ (id : Nat) (cs : List V), σ.b[id]? = some (.fz cs) → (∀ o, ¬ wr U ω (μ id) o) ∧ ∃ arr T fr, w.heap[μ id]? = some (.cells arr T fr) ∧ cs.length ≤ arr.size ∧
    ∀ (j : Nat) (c : V), cs[j]? = some c → ∃ u, arr[j]? = some u ∧ u.oneCell' = true ∧ RepP ren w (wr U ω) c u
  ms : ∀ (id : Nat) (es : List (V × V)), σ.b[id]? = some (.mp es) → ω (μ id) = .blk id ∧ ∃ arr clock, w.heap[μ id]? = some (.map arr clock) ∧ MapRep ren w (wr U ω) es arr
  kp : Kept O we w
  ow : ∀ k, ω k ≠ .no → (we.heap.size ≤ k ∨ O k) ∧ k < w.heap.size
  ul : ∀ k o, U k o → k < we.heap.size ∧ ¬ O k
  fr : ∀ k o u, ¬ wr U ωe k o → we.cell? ⟨k, o, none⟩ = some u → ¬ wr U ω k o ∧ w.cell? ⟨k, o, none⟩ = some u
  rs : ∀ k, rsize we k ≤ rsize w k

variable {ren : Nat → Option Nat} {we : World} {ωe : Nat → Ow} {U : Nat → Nat → Prop} {O : Nat → Prop} {σ : St} {a : Act} {w : World} {ω : Nat → Ow} {μ : Nat → Nat} {P : Program}

theorem Rel.hU (R : Rel ren we ωe U O σ a w ω μ) : ∀ β l h i, (env U σ w ω μ).ω β = .gs l h → i < h → ¬ (env U σ w ω μ).Wr β i := by
  intro β l h i hω hi hw
  have hω : ω β = .gs l h := hω
  have hw : wr U ω β i := hw
  rcases hw with h' | h'
  · have h1 := R.ul _ _ h'
    have h2 := (R.ow β (by rw [hω]; simp)).1
    rcases h2 with h2 | h2
    · omega
    · exact h1.2 h2
  · rw [hω] at h'
    simp only at h'
    omega

def Src.loc : Src → Loc
  | .tmp t => .slot t 0
  | .const _ => .slot 0 0

theorem Rel.slot (R : Rel ren we ωe U O σ a w ω μ) (t : Nat) : Rep ren (env U σ w ω μ) (.slot t 0) (σ.t.getD t .junk) (a.tmps.getD t undef) := by
  cases h : σ.t[t]? with
  | none => rw [List.getD_eq_getElem?_getD, h]; exact .junk
  | some v => rw [List.getD_eq_getElem?_getD, h]; exact R.ts t v h

theorem constV_rep {ty : TypeId} {x : Value} {v : V} (h : constV P ty x = some v) (E : En) (l : Loc) : Rep ren E l v x := by
  unfold constV at h
  split at h
  · cases h; exact .pure (.sc _ rfl)
  · cases h; exact .pure (.sc _ rfl)
  · cases h; exact .pure (.sc _ rfl)
  · split at h
    · cases hs : sizeT P ‹_› with
      | none => simp [hs] at h
      | some n => simp [hs] at h; subst h; exact .pure (.nil _ _)
    · cases h
  · cases h; exact .pure (.sc _ rfl)
  · cases h; exact .pure (.sc _ rfl)
  · cases h

/-- an operand -/
theorem Rel.opnd (R : Rel ren we ωe U O σ a w ω μ) {ty : TypeId} {x : Operand} {s : Src} (h : cSrc P ren ty x = some s) : Rep ren (env U σ w ω μ) s.loc (s.get σ) (a.eval x) := by
  cases x with
  | tmp t => cases h; exact R.slot t
  | const v =>
    cases hc : constV P ty v with
    | none => simp [cSrc, hc] at h
    | some v' => simp [cSrc, hc] at h; subst h; exact constV_rep hc _ _
  | global g => cases h
  | func f =>
    cases hr : ren f with
    | none => simp [cSrc, hr] at h
    | some g => simp [cSrc, hr] at h; subst h; exact .pure (.fn f g hr)

theorem Rep.sc_eq {E : En} {l : Loc} {v u : Value} (h : Rep ren E l (.sc v) u) : u = v ∧ v.oneCell' = true := by
  cases h with
  | pure h => cases h with | sc _ h => exact ⟨rfl, h⟩
theorem Rep.int {E : En} {l : Loc} {v : V} {u : Value} {n : Int} (h : Rep ren E l v u) (hn : v.int? = some n) : ∃ k, u = .int k n := by
  cases v <;> simp [V.int?] at hn
  rename_i v
  cases v <;> simp at hn
  subst hn
  exact ⟨_, h.sc_eq.1⟩
theorem Rep.bool {E : En} {l : Loc} {v : V} {u : Value} {n : Bool} (h : Rep ren E l v u) (hn : v.bool? = some n) : u = .bool n := by
  cases v <;> simp [V.bool?] at hn
  rename_i v
  cases v <;> simp at hn
  subst hn
  exact h.sc_eq.1
theorem Rep.agg_eq {E : En} {l : Loc} {cs : List V} {u : Value} (h : Rep ren E l (.agg cs) u) : RepP ren E.w E.Wr (.agg cs) u := by
  cases h with
  | pure h => exact h
theorem Rep.ptr_inv {E : En} {l : Loc} {id off : Nat} {u : Value} (h : Rep ren E l (.ptr id off) u) : ∃ L, E.bl id = some L ∧ u = .pointer (some ⟨E.μ id, off, none⟩) := by
  cases h with
  | pure h => cases h
  | ptr _ _ L hL => exact ⟨L, hL, rfl⟩
theorem Rep.fp_inv {E : En} {l : Loc} {n : Nat} {cs : List V} {u : Value} (h : Rep ren E l (.fp n cs) u) : ∃ (k o : Nat) (f : Nat → Value), u = .pointer (some ⟨k, o, none⟩) ∧ cs.length = n ∧
    (∀ (i : Nat) (v : V), cs[i]? = some v → ¬ E.Wr k (o + i) ∧ E.w.cell? ⟨k, o + i, none⟩ = some (f i)) ∧ (∀ (i : Nat) (v : V), cs[i]? = some v → (f i).oneCell' = true) ∧ (∀ (i : Nat) (v : V), cs[i]? = some v → RepP ren E.w E.Wr v (f i)) := by
  cases h with
  | pure h => cases h
  | fp _ _ k o f hl hcell h1 h => exact ⟨k, o, f, rfl, hl, hcell, h1, h⟩
theorem RepP.sl_inv {w : World} {Wr : Nat → Nat → Prop} {sz : Nat} {es : List (List V)} {u : Value} (h : RepP ren w Wr (.sl sz es) u) : ∃ (A : Option Addr) (c : Nat) (f : Nat → Value) (k o : Nat), u = .slice A es.length c ∧ es.length ≤ c ∧ (∀ e ∈ es, e.length = sz) ∧ (es ≠ [] → A = some ⟨k, o, none⟩) ∧
    (∀ (i : Nat) (v : V), es.flatten[i]? = some v → ¬ Wr k (o + i) ∧ w.cell? ⟨k, o + i, none⟩ = some (f i)) ∧ (∀ (i : Nat) (v : V), es.flatten[i]? = some v → (f i).oneCell' = true) ∧ (∀ (i : Nat) (v : V), es.flatten[i]? = some v → RepP ren w Wr v (f i)) := by
  cases h with
  | sl _ _ A c f hc hsz k o hA hcell h1 h => exact ⟨A, c, f, k, o, rfl, hc, hsz, hA, hcell, h1, h⟩
theorem Rep.sl_pure {E : En} {l : Loc} {sz : Nat} {es : List (List V)} {u : Value} (h : Rep ren E l (.sl sz es) u) : RepP ren E.w E.Wr (.sl sz es) u := by
  cases h with
  | pure h => exact h
theorem Rep.own_inv {E : En} {l : Loc} {id off len sz : Nat} {u : Value} (h : Rep ren E l (.own id off len sz) u) : ∃ c L A, u = .slice A len c ∧ E.bl id = some L ∧ off + len * sz ≤ L ∧ (len ≤ c ∧ (L = 0 → sz = 0 ∨ c = 0)) ∧
    ((A = some ⟨E.μ id, off, none⟩ ∧ off + c * sz ≤ rsize E.w (E.μ id)) ∨ (len = 0 ∧ c = 0)) := by
  cases h with
  | pure h => cases h
  | own _ _ _ _ c L A hL hl hc hA => exact ⟨c, L, A, rfl, hL, hl, hc, hA⟩
theorem Rep.mp_inv {E : En} {l : Loc} {id : Nat} {u : Value} (h : Rep ren E l (.mp id) u) : ∃ L, E.bl id = some L ∧ u = .map (some (E.μ id)) := by
  cases h with
  | pure h => cases h
  | mp _ L hL => exact ⟨L, hL, rfl⟩
theorem Rep.fn_inv {E : En} {l : Loc} {g : Nat} {caps : List V} {u : Value} (h : Rep ren E l (.fn g caps) u) : ∃ f us, u = .func (.func f) #[] (List.toArray us) ∧ ren f = some g ∧ caps.length = us.length ∧
    (∀ (i : Nat) (c : V), caps[i]? = some c → ∃ id off L, c = .ptr id off ∧ E.bl id = some L ∧ us[i]? = some (.pointer (some ⟨E.μ id, off, none⟩))) := by
  cases h with
  | pure h => cases h with | fn f _ h => exact ⟨f, [], rfl, h, rfl, by simp⟩
  | fn f _ _ us hr hl h => exact ⟨f, us, rfl, hr, hl, h⟩
theorem Rep.tup_inv {E : En} {l : Loc} {vs : List V} {u : Value} (h : Rep ren E l (.tup vs) u) : ∃ us, u = .tuple (List.toArray us) ∧ vs.length = us.length ∧ (∀ (j : Nat) (v : V) (u : Value), vs[j]? = some v → us[j]? = some u → Rep ren E (l.sub j) v u) := by
  cases h with
  | pure h => cases h
  | tup _ us hl h => exact ⟨us, rfl, hl, h⟩
theorem Rep.st_inv {E : En} {l : Loc} {cs : List V} {u : Value} (h : Rep ren E l (.st cs) u) : ∃ us, u = .agg (List.toArray us) ∧ cs.length = us.length ∧ (∀ (i : Nat) (c : V) (u : Value), cs[i]? = some c → us[i]? = some u → RepP ren E.w E.Wr c u ∨ OwnAt E c u) ∧ (∀ u ∈ us, u.oneCell' = true) := by
  cases h with
  | pure h => cases h
  | st _ us hl h h1 => exact ⟨us, rfl, hl, h, h1⟩
theorem orNe {a b : Prop} (h : ¬ a → b) : a ∨ b := (Classical.em a).elim .inl (fun n => .inr (h n))
theorem Rel.live (R : Rel ren we ωe U O σ a w ω μ) {id : Nat} {p : Bool} {cs : List V} (h : σ.b[id]? = some (.live p cs)) (hne : cs ≠ []) : ω (μ id) = .blk id ∧ ∃ arr T, w.heap[μ id]? = some (.cells arr T (0, 0)) ∧ cs.length ≤ arr.size ∧
    ∀ (j : Nat) (c : V), cs[j]? = some c → ∃ u, arr[j]? = some u ∧ u.oneCell' = true ∧ (p = true → RepP ren w (wr U ω) c u) ∧ Rep ren (env U σ w ω μ) (.cell id j) c u :=
  (R.bs id p cs h).resolve_left hne
theorem RepP.loc {E : En} {v : V} {u : Value} (h : RepP ren E.w E.Wr v u) (l : Loc) : Rep ren E l v u := .pure h

theorem binSc_run {op : BinOp} {x y r : Value} (t : TypeId) (ox oy : Operand) (h : binSc op x y = some r) :
    (eqGuard op t ox oy x y).run P w = .ok () w ∧ (binOp op t x y).run P w = .ok r w ∧ r.oneCell' = true := by
  unfold binSc at h
  split at h
  · split at h
    · cases h
    · rename_i hb; cases h
      refine ⟨?_, ?_, rfl⟩
      · simp [eqGuard]
      · simp [binOp, Op.shift, hb]
  · split at h
    · cases h
    · rename_i hb; cases h
      refine ⟨?_, ?_, rfl⟩
      · simp [eqGuard]
      · simp [binOp, Op.shift, hb]
  · split at h
    · cases h
    · rename_i hk
      simp only [ne_eq, Decidable.not_not] at hk
      subst hk
      split at h <;> first
        | (cases h; refine ⟨by simp [eqGuard], by simp [binOp, Op.intArith, Op.intBits, Op.intCmp], rfl⟩; done)
        | (split at h; cases h; rename_i hb; cases h; exact ⟨by simp [eqGuard], by simp [binOp, Op.intDiv, hb], rfl⟩)
        | cases h
  · cases h; exact ⟨by simp [eqGuard], by simp [binOp, Op.stringOp], rfl⟩
  · cases h; exact ⟨by simp [eqGuard], by simp [binOp, Op.stringOp], rfl⟩
  · cases h

theorem unSc_run {op : UnOp} {x r : Value} (h : unSc op x = some r) : (Op.unary op x).run P w = .ok r w ∧ r.oneCell' = true := by
  unfold unSc at h
  split at h
  · cases h; exact ⟨by simp [Op.unary, Op.intArith], rfl⟩
  · cases h; exact ⟨by simp [Op.unary], rfl⟩
  · cases h; exact ⟨by simp [Op.unary, Op.intBits], rfl⟩
  · cases h
end Go.Proofs.Ythplooifbkopgaa
