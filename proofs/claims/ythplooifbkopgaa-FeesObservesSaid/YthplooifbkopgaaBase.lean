/- General words for memory, used by all walks of this seat: what is kept, what a slice reads as. Nothing of the program is in here. -/
import Derived.WalkKit
import Derived.WalkSpells
import Derived.WalkLawsBesides
import Derived.Deep.QuietTactic
import Derived.BigQuiet
import Derived.Lib.Hide
import Derived.Deep.AppendLies
import Derived.Deep.Draws
import Derived.Deep.MidRow
namespace Go.Proofs.Ythplooifbkopgaa
open Go.RowKit

theorem ret_int {k : IntKind} {a b : Int} (h : a = b) : Ending.returned (.int k a) = .returned (.int k b) := by rw [h]
theorem ret_bool {a b : Bool} (h : a = b) : Ending.returned (.bool a) = .returned (.bool b) := by rw [h]
theorem block_of_add (a : Addr) (n : Nat) : (a.add n).block = a.block := by unfold Addr.add; split <;> rfl
theorem add_of_add (a : Addr) (i j : Nat) : (a.add i).add j = a.add (i + j) := by
  unfold Addr.add
  by_cases hi : i = 0 <;> by_cases hj : j = 0 <;> simp [hi, hj, Nat.add_assoc]

theorem cell_far (w : World) (p a : Addr) (v : Value) (h : p.block ≠ a.block) : (w.setCell p v).cell? a = w.cell? a := World.cell?_setCell_other w p a v (fun e => h (by rw [e]))
theorem cell_old (w : World) (o : Obj) (a : Addr) (h : a.block < w.heap.size) : (w.alloc o).cell? a = w.cell? a := World.cell?_alloc_lt w o a h
attribute [go_sem] cell_far cell_old block_of_add
/-! ### What is kept -/
/-- Of what was there nothing has changed but blocks of O. -/
structure Kept (O : Nat → Prop) (w w' : World) : Prop where
  os : w'.os = w.os
  tape : w'.tape = w.tape
  output : w'.output = w.output
  size : w.heap.size ≤ w'.heap.size
  block : ∀ k, k < w.heap.size → ¬ O k → w'.heap[k]? = w.heap[k]?
def No : Nat → Prop := fun _ => False
theorem no_of {P : Prop} {k : Nat} (h : No k) : P := False.elim h

theorem Kept.refl (O : Nat → Prop) (w : World) : Kept O w w := ⟨rfl, rfl, rfl, Nat.le_refl _, fun _ _ _ => rfl⟩
theorem Kept.trans {O O' : Nat → Prop} {a b c : World} (h : Kept O a b) (h' : Kept O' b c) (hO : ∀ k, k < a.heap.size → O' k → O k) : Kept O a c :=
  ⟨h'.os.trans h.os, h'.tape.trans h.tape, h'.output.trans h.output, Nat.le_trans h.size h'.size,
    fun k hk hn => (h'.block k (Nat.lt_of_lt_of_le hk h.size) (fun h => hn (hO k hk h))).trans (h.block k hk hn)⟩
theorem Kept.then_ {O : Nat → Prop} {a b c : World} (h : Kept O a b) (h' : Kept No b c) : Kept O a c := h.trans h' (fun _ _ h => no_of h)
theorem Kept.mono {O O' : Nat → Prop} {a b : World} (h : Kept O a b) (hO : ∀ k, k < a.heap.size → O k → O' k) : Kept O' a b :=
  ⟨h.os, h.tape, h.output, h.size, fun k hk hn => h.block k hk (fun h => hn (hO k hk h))⟩
theorem Kept.of_no {O : Nat → Prop} {a b : World} (h : Kept No a b) : Kept O a b := h.mono (fun _ _ h => no_of h)
theorem Kept.drew (O : Nat → Prop) (w : World) : Kept O w w.drew := ⟨rfl, rfl, rfl, Nat.le_refl _, fun _ _ _ => rfl⟩
theorem Kept.drewN (O : Nat → Prop) (w : World) (n : Nat) : Kept O w (w.drewN n) := ⟨rfl, rfl, rfl, Nat.le_refl _, fun _ _ _ => rfl⟩
theorem Kept.alloc (O : Nat → Prop) (w : World) (o : Obj) : Kept O w (w.alloc o) := ⟨rfl, rfl, rfl, by simp, fun k hk _ => Below.heap_alloc w o k hk⟩
theorem Kept.setCell {O : Nat → Prop} (w : World) {p : Addr} (hp : O p.block ∨ w.heap.size ≤ p.block) (u : Value) : Kept O w (w.setCell p u) :=
  ⟨rfl, rfl, rfl, by simp [World.setCell], fun k hk hn => Below.heap_setCell w p u k (by rintro rfl; rcases hp with h | h; exact hn h; omega)⟩
theorem Kept.grown {w w' : World} {row : Option Nat} (h : w.grownBy w' row) : Kept (fun k => row = some k) w w' :=
  ⟨h.os, h.tape, h.output, h.size, fun k hk hn => h.block k hk (fun e => hn e.symm)⟩
theorem Kept.below {w w' : World} (h : Kept No w w') : Below w.heap.size w w' := ⟨h.os, h.tape, h.output, h.size, fun k hk => h.block k hk id⟩
theorem Kept.of_below {w w' : World} (h : Below w.heap.size w w') : Kept No w w' := ⟨h.os, h.tape, h.output, h.size, fun k hk _ => h.block k hk⟩
theorem Kept.cell {O : Nat → Prop} {w w' : World} (h : Kept O w w') {p : Addr} {u : Value} (hp : w.cell? p = some u) (hn : ¬ O p.block) : w'.cell? p = some u :=
  (World.cell?_of_block (h.block p.block (World.block_lt_of_cell? w p hp) hn)).trans hp
theorem Kept.cellN {w w' : World} (h : Kept No w w') {p : Addr} {u : Value} (hp : w.cell? p = some u) : w'.cell? p = some u := h.cell hp id

/-! ### A block that is known whole -/
def Blk (w : World) (g : Nat) (t : TypeId) (cs : Array Value) : Prop := w.heap[g]? = some (.cells cs t (0, 0))
section
variable {w w' : World} {g : Nat} {t : TypeId} {cs : Array Value}
theorem Blk.lt (h : Blk w g t cs) : g < w.heap.size := by
  rcases Nat.lt_or_ge g w.heap.size with hlt | hge
  · exact hlt
  · unfold Blk at h; rw [Array.getElem?_eq_none hge] at h; cases h
theorem Blk.cell (h : Blk w g t cs) (i : Nat) : w.cell? ⟨g, i, none⟩ = cs[i]? := cell_of_row w g i cs t (0, 0) h
theorem Blk.frozen (h : Blk w g t cs) (i : Nat) : w.frozen? ⟨g, i, none⟩ = false := by
  unfold Blk at h
  simp [World.frozen?, h]
theorem Blk.new (w : World) (t : TypeId) (cs : Array Value) : Blk (w.alloc (.cells cs t)) w.heap.size t cs := heap_alloc_new w _
theorem sz_set (w : World) (p : Addr) (u : Value) : (w.setCell p u).heap.size = w.heap.size := by simp [World.setCell]
theorem Blk.new' {w : World} {n : Nat} (t : TypeId) (cs : Array Value) (h : w.heap.size = n) : Blk (w.alloc (.cells cs t)) n t cs := by subst h; exact heap_alloc_new w _
theorem Blk.news (h : Blk w g t cs) : ∀ (j : Nat) (u : Value), cs.toList[j]? = some u → w.cell? ((⟨g, 0, none⟩ : Addr).add j) = some u := World.news_of_block h
theorem Blk.keep {O : Nat → Prop} (h : Blk w g t cs) (hk : Kept O w w') (hn : ¬ O g) : Blk w' g t cs := (hk.block g h.lt hn).trans h
theorem Blk.keepN (h : Blk w g t cs) (hk : Kept No w w') : Blk w' g t cs := h.keep hk id
theorem Blk.set_ (h : Blk w g t cs) (i : Nat) (u : Value) : Blk (w.setCell ⟨g, i, none⟩ u) g t (cs.setIfInBounds i u) := by
  unfold Blk at h ⊢
  simp [World.setCell, Array.getElem?_modify, h]
theorem Blk.drewN (h : Blk w g t cs) (n : Nat) : Blk (w.drewN n) g t cs := h
end

/-! ### A slice that reads as a list of cells; its block is none of O -/
def Rd (w : World) (O : Nat → Prop) (size : Nat) (A : Option Addr) (n : Nat) (xs : List Value) : Prop :=
  xs.length = n * size ∧ (0 < n → ∃ ad, A = some ad ∧ ¬ O ad.block ∧ ∀ j u, xs[j]? = some u → w.cell? (ad.add j) = some u)
section
variable {w w' : World} {O O' : Nat → Prop} {size n : Nat} {A : Option Addr} {xs : List Value}
theorem Rd.nil (w : World) (O : Nat → Prop) (size : Nat) (A : Option Addr) : Rd w O size A 0 [] := ⟨by simp, fun h => absurd h (by omega)⟩
theorem Rd.keep (h : Rd w O size A n xs) (hk : Kept O' w w') (hO : ∀ k, O' k → O k) : Rd w' O size A n xs :=
  ⟨h.1, fun hn => by
    obtain ⟨ad, e, hb, hc⟩ := h.2 hn
    exact ⟨ad, e, hb, fun j u hu => hk.cell (hc j u hu) (by rw [block_of_add]; exact fun h => hb (hO _ h))⟩⟩
theorem Rd.keepN (h : Rd w O size A n xs) (hk : Kept No w w') : Rd w' O size A n xs := h.keep hk (fun _ h => no_of h)
theorem Rd.keepO (h : Rd w O size A n xs) (hk : Kept O w w') : Rd w' O size A n xs := h.keep hk (fun _ h => h)
theorem Rd.drewN (h : Rd w O size A n xs) (k : Nat) : Rd (w.drewN k) O size A n xs := h.keepN (Kept.drewN _ _ _)
theorem Rd.sub (h : Rd w O size A n xs) (hO : ∀ k, O' k → O k) : Rd w O' size A n xs :=
  ⟨h.1, fun hn => by obtain ⟨ad, e, hb, hc⟩ := h.2 hn; exact ⟨ad, e, fun h => hb (hO _ h), hc⟩⟩
/-- a block that is not there yet may be added to O -/
theorem Rd.more (h : Rd w O size A n xs) (hs : 0 < size) (hO : ∀ k, k < w.heap.size → O' k → O k) : Rd w O' size A n xs :=
  ⟨h.1, fun hn => by
    obtain ⟨ad, e, hb, hc⟩ := h.2 hn
    refine ⟨ad, e, fun h' => hb (hO _ ?_ h'), hc⟩
    have hl : 0 < xs.length := by rw [h.1]; exact Nat.mul_pos hn hs
    have := World.block_lt_of_cell? w _ (hc 0 _ (List.getElem?_eq_getElem hl))
    rwa [block_of_add] at this⟩
theorem Rd.at_ {k : Nat} (h : Rd w O 1 A n xs) (hk : k < n) : ∃ ad u, A = some ad ∧ ¬ O ad.block ∧ xs[k]? = some u ∧ w.cell? (ad.add k) = some u := by
  obtain ⟨ad, e, hb, hc⟩ := h.2 (by omega)
  have hl : k < xs.length := by have := h.1; omega
  exact ⟨ad, xs[k], e, hb, List.getElem?_eq_getElem hl, hc k _ (List.getElem?_eq_getElem hl)⟩
theorem Rd.of_blk {g : Nat} {t : TypeId} {cs : Array Value} (hb : Blk w g t cs) (hO : ¬ O g) (hl : xs.length = n * size) (hx : ∀ (j : Nat) (u : Value), xs[j]? = some u → cs[j]? = some u) : Rd w O size (some ⟨g, 0, none⟩) n xs :=
  ⟨hl, fun _ => ⟨_, rfl, hO, fun j u hu => by
    have hadd : (⟨g, 0, none⟩ : Addr).add j = ⟨g, j, none⟩ := by unfold Addr.add; split <;> simp_all
    rw [hadd, hb.cell]; exact hx j u hu⟩⟩
theorem Rd.of_lit {g : Nat} {t : TypeId} {ys : List Value} (hb : Blk w g t ys.toArray) (hO : ¬ O g) : Rd w O 1 (some ⟨g, 0, none⟩) ys.length ys :=
  Rd.of_blk hb hO (by simp) (fun j u h => by simpa using h)
theorem Rd.of_own {base : Nat} {e : TypeId} {c : Nat} (h : w.ownsRow base e size (.slice A n c) n xs) (hO : ∀ g, A = some ⟨g, 0, none⟩ → ¬ O g) : Rd w O size A n xs := by
  refine ⟨h.1, fun hn => ?_⟩
  obtain ⟨g, cap, hv, _, hlt⟩ := h.form hn
  have hA : A = some ⟨g, 0, none⟩ := by injection hv
  subst hA
  exact ⟨_, rfl, hO g rfl, h.cells (g := g) rfl⟩
end

/-- a slice of one-cell elements, each encoded by f, read as a list -/
theorem Rd.elem {α : Type} {f : α → Value} {w : World} {O : Nat → Prop} {A : Option Addr} {xs : List α} {k : Nat} (h : Rd w O 1 A xs.length (xs.map f)) (hk : k < xs.length) :
    ∃ ad, A = some ad ∧ ¬ O ad.block ∧ w.cell? (ad.add k) = some (f xs[k]) := by
  obtain ⟨ad, u, e, hb, hu, hc⟩ := h.at_ hk
  rw [List.getElem?_map, List.getElem?_eq_getElem hk] at hu
  injection hu with hu
  exact ⟨ad, e, hb, by rw [hc, ← hu]⟩

/-- a slice comes back that reads as xs, each element encoded by f, outside of O; nothing that was there has changed -/
def RetL {α : Type} (f : α → Value) (O : Nat → Prop) (w : World) (xs : List α) (e : Ending) (w' : World) : Prop := ∃ (A : Option Addr) (c : Nat), e = .returned (.slice A xs.length c) ∧ Rd w' O 1 A xs.length (xs.map f) ∧ Kept No w w'
theorem quiet_left {P : Program} {f : FuncId} {args : Array Value} {w : World} {n : Nat} {v : Value}
    (h : Calls P f args (w.drewN n) fun e w' => e = .returned v ∧ w.drewN n = w') : Calls P f args (w.drewN n) fun e w'' => e = .returned v ∧ ∃ m, w'' = w.drewN m :=
  h.mono fun _ _ ⟨he, hm⟩ => ⟨he, n, hm.symm⟩
theorem quiet_add {P : Program} {f : FuncId} {args : Array Value} {w : World} {a n : Nat} {v : Value}
    (h : Calls P f args (w.drewN (a + n)) fun e w' => e = .returned v ∧ ∃ m, w' = (w.drewN (a + n)).drewN m) :
    Calls P f args (w.drewN (a + n)) fun e w'' => e = .returned v ∧ ∃ m, w'' = w.drewN (a + m) :=
  h.mono fun _ _ ⟨he, m, hm⟩ => ⟨he, n + m, by rw [hm, World.drewN_drewN, Nat.add_assoc]⟩
theorem quiet_add_left {P : Program} {f : FuncId} {args : Array Value} {w : World} {a n : Nat} {v : Value}
    (h : Calls P f args (w.drewN (a + n)) fun e w' => e = .returned v ∧ w.drewN (a + n) = w') :
    Calls P f args (w.drewN (a + n)) fun e w'' => e = .returned v ∧ ∃ m, w'' = w.drewN (a + m) :=
  h.mono fun _ _ ⟨he, hm⟩ => ⟨he, n, hm.symm⟩

/-! ### append and make, for a row of the call's own -/
theorem wpList_app {P : Program} (W : World) {ops : Array Oper} {rest : List Oper} {o : Oper} {a : Act} {Q : Exit → Act → World → Prop} (hgd : o.guard = none) (s x : Operand) (t : TypeId)
    (ho : o.op = .call { callee := .builtin .append, args := #[s, x], argTypes := #[t, t] })
    (base : Nat) (e : TypeId) (z : Value) (size bytes : Nat) (ht : P.underlying t = some (.slice e)) (hinfo : (P.info? e).map (fun i => (i.zero, i.size, i.bytes)) = some (some z, size, bytes)) (hzs : z.cells.size = size) (hsz : 0 < size)
    (v : Value) (n : Nat) (xs : List Value) (hs : a.eval s = v) (hown : W.ownsRow base e size v n xs)
    (ad : Addr) (m c : Nat) (news : List Value) (hx : a.eval x = .slice (some ad) m c) (hl : news.length = m * size) (hnews : ∀ j u, news[j]? = some u → W.cell? (ad.add j) = some u) (h1 : ∀ u ∈ news, u.oneCell' = true)
    (hm : 0 < m) (h63 : n + m ≤ 1099511627776) (hbytes : (n + m) * bytes ≤ 140737488355328) (hbase : base ≤ W.heap.size)
    (h : ∀ g cap w', w'.ownsRow base e size (.slice (some ⟨g, 0, none⟩) (n + m) cap) (n + m) (xs ++ news) → Kept (fun k => v.ownBlock = some k) W w' → (v.ownBlock = some g ∨ g = W.heap.size) → g < w'.heap.size → wpList P ops Q rest (a.put o.dst (.slice (some ⟨g, 0, none⟩) (n + m) cap)) w') : wpList P ops Q (o :: rest) a W := by
  obtain ⟨i, hi, hz0, hz1, hz2⟩ := info_parts hinfo
  exact wpList_append_lies W hgd s x t ho base e i z size bytes ht hi hz0 hz1 hz2 hzs hsz v n xs hs hown ad m c news hx hl hnews h1 hm (by unfold maxLen; omega) hbytes hbase W.heap.size rfl
    (fun g cap w' h2 h3 h4 h5 => h g cap w' h2 (Kept.grown h3) h4 h5)

theorem wpList_mk {P : Program} (W : World) {ops : Array Oper} {rest : List Oper} {o : Oper} {a : Act} {Q : Exit → Act → World → Prop}
    (hg : o.guard = none) (l c : Operand) (t : TypeId) (hop : o.op = Op.makeSlice t l c)
    (e : TypeId) (z : Value) (bytes : Nat) (ht : P.underlying t = some (.slice e)) (hinfo : (P.info? e).map (fun i => (i.zero, i.size, i.bytes)) = some (some z, 1, bytes)) (hz : z.cells = #[z])
    (kl kc : IntKind) (n : Nat) (hl : a.eval l = .int kl (n : Int)) (hc : a.eval c = .int kc (n : Int)) (hn : n ≤ 1099511627776) (hb : bytes * n ≤ 281474976710656)
    (h : ∀ w', Blk w' W.heap.size e (Array.replicate n z) → Kept No W w' → w'.heap.size = W.heap.size + 1 → wpList P ops Q rest (a.put o.dst (.slice (some ⟨W.heap.size, 0, none⟩) n n)) w') :
    wpList P ops Q (o :: rest) a W := by
  obtain ⟨i, hi, hz0, hz1, hz2⟩ := info_parts hinfo
  refine wpList_plain hg fun K hK' => ?_
  have hb' : (i.bytes : Int) * (n : Int) ≤ 281474976710656 := by
    have h : ((i.bytes * n : Nat) : Int) ≤ 281474976710656 := by rw [hz2]; omega
    rwa [Int.natCast_mul] at h
  have hr := run_make (P := P) W t e i z ht hi hz0 kl kc n n (by omega) (by omega) hb' (by omega)
  have hmc : madeCells z.cells (n * 1) = Array.replicate n z := by
    rw [hz]
    apply Array.ext
    · simp [madeCells]
    · intro j h1 h2
      simp [madeCells, Nat.mod_one]
  rw [hz1] at hr
  simp only [Int.toNat_natCast] at hr
  rw [hmc] at hr
  unfold Oper.wp
  simp [execOp, hop, hl, hc, hr, Result.andThen]
  exact hK' _ _ (h _ (Blk.new W e _) (Kept.alloc _ _ _) (by simp))
theorem rep_cell {w : World} {g n j : Nat} {e : TypeId} {z : Value} (h : Blk w g e (Array.replicate n z)) (hj : j < n) : w.cell? ⟨g, j, none⟩ = some z := by rw [h.cell]; simp [hj]
theorem own_of_blk {w : World} {g base : Nat} {e : TypeId} {cs : Array Value} {n size : Nat} (h : Blk w g e cs) (hb : base ≤ g) (hc : cs.size = n * size) (hn : n ≤ maxLen) : w.ownsRow base e size (.slice (some ⟨g, 0, none⟩) n n) n cs.toList :=
  ⟨by simpa using hc, .inr ⟨g, n, cs, rfl, hb, h, Nat.le_refl _, hn, hc, List.take_of_length_le (by simp [hc])⟩⟩
theorem own_keep {w w' : World} {base : Nat} {e : TypeId} {size : Nat} {v : Value} {n : Nat} {xs : List Value} {O : Nat → Prop} (h : w.ownsRow base e size v n xs) (hk : Kept O w w') (hO : ∀ k, v.ownBlock = some k → ¬ O k) : w'.ownsRow base e size v n xs := by
  refine ⟨h.1, ?_⟩
  rcases h.2 with hn | ⟨g, cap, cur, rfl, hb, hgg, rest⟩
  · exact .inl hn
  · refine .inr ⟨g, cap, cur, rfl, hb, ?_, rest⟩
    rw [hk.block g (Array.getElem?_eq_some_iff.1 hgg).1 (hO g rfl)]
    exact hgg
theorem own_other {W w' : World} {base : Nat} {e : TypeId} {size n : Nat} {v v2 : Value} {xs : List Value} (hk : Kept (fun k => v.ownBlock = some k) W w') (h2 : W.ownsRow base e size v2 n xs) (hne : ∀ k, v2.ownBlock = some k → v.ownBlock ≠ some k) : w'.ownsRow base e size v2 n xs :=
  own_keep h2 hk (fun k hk e => hne k hk e)
theorem own_apart {W : World} {base : Nat} {e : TypeId} {size n g m c : Nat} {v v2 : Value} {xs : List Value} (hat : v.ownBlock = some g ∨ g = W.heap.size) (h2 : W.ownsRow base e size v2 n xs) (hne : ∀ k, v2.ownBlock = some k → v.ownBlock ≠ some k) : ∀ k, v2.ownBlock = some k → (Value.slice (some ⟨g, 0, none⟩) m c).ownBlock ≠ some k := by
  intro k hk hg
  have hg' : g = k := by simpa [Value.ownBlock] using hg
  subst hg'
  rcases hat with h | h
  · exact hne g hk h
  · have := (h2.lt g hk).2
    omega
end Go.Proofs.Ythplooifbkopgaa
