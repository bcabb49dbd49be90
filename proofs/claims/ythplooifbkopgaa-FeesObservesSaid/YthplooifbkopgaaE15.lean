/- Operations of the abstract machine: append; results of calls taken apart. -/
import Derived.Test.YthplooifbkopgaaE14
import Derived.Laws.AppendOwn
namespace Go.Proofs.Ythplooifbkopgaa
set_option linter.unusedVariables false
set_option linter.unusedSimpArgs false
variable {ren : Nat → Option Nat} {we : World} {ωe : Nat → Ow} {U : Nat → Nat → Prop} {O : Nat → Prop} {σ : St} {a : Act} {w : World} {ω : Nat → Ow} {μ : Nat → Nat} {P : Program} {nb : Nat}

/-- a world with the same memory -/
theorem Rel.sameHeap (R : Rel ren we ωe U O σ a w ω μ) {w' : World} (hh : w'.heap = w.heap) (h1 : w'.os = w.os) (h2 : w'.tape = w.tape) (h3 : w'.output = w.output) : Fr (env U σ w ω μ) (env U σ w' ω μ) ∧ Rel ren we ωe U O σ a w' ω μ := by
  have hc : ∀ ad, w'.cell? ad = w.cell? ad := fun ad => by unfold World.cell?; rw [hh]
  have hrs : ∀ k, rsize w' k = rsize w k := fun k => by unfold rsize; rw [hh]
  have F : Fr (env U σ w ω μ) (env U σ w' ω μ) := ⟨fun k o u g1 g2 => ⟨g1, (hc _).trans g2⟩, fun id L hL => ⟨hL, rfl, by show rsize w (μ id) ≤ rsize w' (μ id); rw [hrs]; exact Nat.le_refl _⟩⟩
  refine ⟨F, R.step F rfl (fun t j β h _ e => ⟨e, by rw [hh]⟩) (fun id p cs h hne => .inl ⟨h, (R.live h hne).1, by rw [hh], fun j β h e => ⟨e, by rw [hh]⟩⟩) (fun id cs h => .inl ⟨h, (R.fs id cs h).1, by rw [hh]⟩) (fun id es h => .inl ⟨h, (R.ms id es h).1, by rw [hh]⟩) (O' := No) ⟨h1, h2, h3, by rw [hh]; exact Nat.le_refl _, fun k _ _ => by rw [hh]⟩ (fun k _ h => no_of h) (fun k hk => by rw [hh]; exact R.ow k hk) (fun k => by rw [hrs]; exact Nat.le_refl _)⟩
theorem Rel.drew (R : Rel ren we ωe U O σ a w ω μ) : Fr (env U σ w ω μ) (env U σ w.drew ω μ) ∧ Rel ren we ωe U O σ a w.drew ω μ := R.sameHeap rfl rfl rfl rfl

/-- behind the end of a slice that slot T holds cells are written -/
theorem Rel.grow (R : Rel ren we ωe U O σ a w ω μ) {T j0 : Nat} (hT : σ.t.length ≤ T) {β h : Nat} (hβ : ω β = .gs (.slot T j0) h) {arr arr' : Array Value} {Ty : TypeId} (hb : w.heap[β]? = some (.cells arr Ty (0, 0))) (hs : arr'.size = arr.size) (hsame : ∀ i, i < h → arr'[i]? = arr[i]?) :
    Fr (env U σ w ω μ) (env U σ (w.setRow β arr') ω μ) ∧ Rel ren we ωe U O σ a (w.setRow β arr') ω μ := by
  have hnew := setRow_heap w β arr arr' Ty _ hb
  have hoth := fun k (hk : k ≠ β) => setRow_other w β k arr' hk
  have F : Fr (env U σ w ω μ) (env U σ (w.setRow β arr') ω μ) := by
    refine ⟨fun k o u h1 h2 => ⟨h1, ?_⟩, fun id L hL => ⟨hL, rfl, ?_⟩⟩
    · by_cases hk : k = β
      · subst hk
        have h1 : ¬ wr U ω k o := h1
        have ho : o < h := by
          unfold wr at h1
          rw [hβ] at h1
          simp only [not_or] at h1
          omega
        have h2 : w.cell? ⟨k, o, none⟩ = some u := h2
        show (w.setRow k arr').cell? ⟨k, o, none⟩ = some u
        rw [cell_of_row _ _ _ _ _ _ hb] at h2
        rw [cell_of_row _ _ _ _ _ _ hnew, hsame o ho]; exact h2
      · exact (World.cell?_of_block (a := ⟨k, o, none⟩) (hoth k hk)).trans h2
    · show rsize w (μ id) ≤ rsize (w.setRow β arr') (μ id)
      by_cases hk : μ id = β
      · rw [hk, rsize_of hb, rsize_of hnew, hs]; exact Nat.le_refl _
      · unfold rsize; rw [hoth _ hk]; exact Nat.le_refl _
  refine ⟨F, R.step F rfl (fun t j β2 h2 ht e => ⟨e, hoth β2 ?_⟩) (fun id p cs h' hne => .inl ⟨h', (R.live h' hne).1, hoth _ ?_, fun j β2 h2 e => ⟨e, hoth β2 (by rintro rfl; rw [hβ] at e; cases e)⟩⟩) (fun id cs h' => ?_) (fun id es h' => .inl ⟨h', (R.ms id es h').1, hoth _ (by intro e; have := (R.ms id es h').1; rw [e, hβ] at this; cases this)⟩) (kept_setRow w β arr') (fun k hk1 hk2 => ?_) (fun k hk => by rw [setRow_size]; exact R.ow k hk) (fun k => ?_)⟩
  · rintro rfl
    rw [hβ] at e; cases e
    omega
  · intro e
    have := (R.live h' hne).1
    rw [e, hβ] at this; cases this
  · by_cases hk : μ id = β
    · obtain ⟨e0, arr0, T0, fr0, e1, e2, e3⟩ := R.fs id cs h'
      exfalso
      rw [hk] at e0
      exact e0 h (.inr (by rw [hβ]; exact Nat.le_refl _))
    · exact .inl ⟨h', (R.fs id cs h').1, hoth _ hk⟩
  · subst hk2
    rcases (R.ow k (by rw [hβ]; simp)).1 with h | h
    · omega
    · exact h
  · by_cases hk : k = β
    · rw [hk, rsize_of hb, rsize_of hnew, hs]; exact Nat.le_refl _
    · unfold rsize; rw [hoth _ hk]; exact Nat.le_refl _

theorem run_first {sz n : Nat} {A : Option Addr} {len cap : Nat} (xs : List Value) (hl : xs.length = n * sz) (h : xs ≠ [] → ∃ ad, A = some ad ∧ ∀ (j : Nat) (u : Value), xs[j]? = some u → w.cell? (ad.add j) = some u) : (Builtin.firstCells sz n (.slice A len cap)).run P w = .ok xs.toArray w := by
  cases A with
  | none =>
    have : xs = [] := by
      cases xs with
      | nil => rfl
      | cons x xs => obtain ⟨ad, e, _⟩ := h (by simp); cases e
    subst this
    simp [Builtin.firstCells]
  | some ad =>
    have hl' := run_loadCells_list (P := P) w ad xs (fun j u hu => by
      have hne : xs ≠ [] := by rintro rfl; simp at hu
      obtain ⟨ad', e, hc⟩ := h hne
      cases e; exact hc j u hu)
    rw [hl] at hl'
    simp only [Builtin.firstCells, hl']
theorem run_append_grows {t ty e : TypeId} {i : TypeInfo} {z : Value} (ht : P.underlying t = some (.slice e)) (hi : P.info? e = some i) (hz : i.zero = some z) {A B : Option Addr} {sLen sCap m c2 : Nat} {olds news : List Value} (hol : olds.length = sLen * i.size) (hold : olds ≠ [] → ∃ ad, A = some ad ∧ ∀ (j : Nat) (u : Value), olds[j]? = some u → w.cell? (ad.add j) = some u)
    (hnl : news.length = m * i.size) (hnew : news ≠ [] → ∃ ad, B = some ad ∧ ∀ (j : Nat) (u : Value), news[j]? = some u → w.cell? (ad.add j) = some u) (hg : sCap < sLen + m) (hb : (sLen + m) * i.bytes ≤ 140737488355328) (h63 : sLen + m ≤ 140737488355328) :
    (Builtin.append_ #[t, t] ty #[.slice A sLen sCap, .slice B m c2]).run P w =
      .ok (.slice (some ⟨w.heap.size, 0, none⟩) (sLen + m) (grownCap w (sLen + m) sCap e)) (w.drew.alloc (.cells (olds.toArray ++ news.toArray ++ Builtin.zeroCells z.cells (grownCap w (sLen + m) sCap e - (sLen + m))) e)) := by
  have hn : ¬ (sLen + m ≤ sCap) := by omega
  have h63' : ¬ (9223372036854775807 < ((sLen : Int) + (m : Int))) := by omega
  have h48' : ¬ (281474976710656 < Builtin.nextslicecap (sLen + m) sCap * i.bytes) := by have := growslice_fits hg hb; omega
  have hf := run_first (P := P) (w := w.drew) (len := m) (cap := c2) news hnl (by simpa using hnew)
  have hfo := run_first (P := P) (w := w.drew) (len := sLen) (cap := sCap) olds hol (by simpa using hold)
  simp [Builtin.append_, run_underlying ht, sizeOf, typeInfo, zeroValue, hi, hz, Builtin.lenOf, hn, h63', h48', Question.forced, hf, hfo, newRow, grownCap]
  congr 2
  apply Array.ext'
  simp [List.append_assoc]
theorem run_append_fits {t ty e : TypeId} {i : TypeInfo} (ht : P.underlying t = some (.slice e)) (hi : P.info? e = some i) {B : Option Addr} {g sLen sCap m c2 : Nat} {cur : Array Value} {Ty : TypeId} (hgb : w.heap[g]? = some (.cells cur Ty (0, 0))) {news : List Value}
    (hnl : news.length = m * i.size) (hnew : news ≠ [] → ∃ ad, B = some ad ∧ ∀ (j : Nat) (u : Value), news[j]? = some u → w.cell? (ad.add j) = some u) (h1 : ∀ u ∈ news, u.oneCell' = true) (hroom : sLen + m ≤ sCap) (hfit : sLen * i.size + news.length ≤ cur.size) :
    (Builtin.append_ #[t, t] ty #[.slice (some ⟨g, 0, none⟩) sLen sCap, .slice B m c2]).run P w =
      .ok (.slice (some ⟨g, 0, none⟩) (sLen + m) sCap) (w.setRow g (cur.toList.take (sLen * i.size) ++ news ++ cur.toList.drop (sLen * i.size + news.length)).toArray) := by
  have hf := run_first (P := P) (w := w) (len := m) (cap := c2) news hnl hnew
  have hst := run_storeCells_at P g (sLen * i.size) Ty news 0 cur w hgb (by simpa using hfit) h1
  simp only [Nat.add_zero] at hst
  simp [Builtin.append_, run_underlying ht, sizeOf, typeInfo, hi, Builtin.lenOf, hroom, hf, Addr.add_lit, hst]
theorem run_append_none {t ty e : TypeId} {i : TypeInfo} (ht : P.underlying t = some (.slice e)) (hi : P.info? e = some i) {A B : Option Addr} {c2 : Nat} :
    (Builtin.append_ #[t, t] ty #[.slice A 0 0, .slice B 0 c2]).run P w = .ok (.slice A 0 0) w := by
  have hf : (Builtin.firstCells i.size 0 (.slice B 0 c2)).run P w = .ok #[] w := run_first (P := P) (w := w) [] (by simp) (by simp)
  cases A <;> simp [Builtin.append_, run_underlying ht, sizeOf, typeInfo, hi, Builtin.lenOf, hf, storeCells]

theorem Rep.gs_inv {E : En} {l : Loc} {sz : Nat} {es : List (List V)} {u : Value} (h : Rep ren E l (.gs sz es) u) : (∃ A, es = [] ∧ u = .slice A 0 0) ∨
    (∃ (β c : Nat) (arr : Array Value) (T : TypeId) (f : Nat → Value), u = .slice (some ⟨β, 0, none⟩) es.length c ∧ E.ω β = .gs l (es.length * sz) ∧ E.w.heap[β]? = some (.cells arr T (0, 0)) ∧ c * sz ≤ arr.size ∧ es.length ≤ c ∧ (∀ e ∈ es, e.length = sz) ∧
      (∀ (i : Nat) (v : V), es.flatten[i]? = some v → arr[i]? = some (f i)) ∧ (∀ (i : Nat) (v : V), es.flatten[i]? = some v → (f i).oneCell' = true) ∧ (∀ (i : Nat) (v : V), es.flatten[i]? = some v → RepP ren E.w E.Wr v (f i))) := by
  cases h with
  | pure h => cases h with | nil _ A => exact .inl ⟨A, rfl, rfl⟩
  | gs _ _ β c arr T f hω hb hc hn hsz hcell h1 h => exact .inr ⟨β, c, arr, T, f, rfl, hω, hb, hc, hn, hsz, hcell, h1, h⟩
theorem exec_append {o : Oper} {t u : TypeId} {s x : Operand} (hop : o.op = .call { callee := .builtin .append, args := #[s, x], argTypes := #[t, u] }) {v : Value} {w' : World} (h : (Builtin.append_ #[t, u] o.type #[a.eval s, a.eval x]).run P w = .ok v w') : (execOp a.eval o).run P w = .ok (.value v) w' := by
  simp only [execOp, hop, resolve, Sem.run_bind, Sem.run_pure, Result.andThen_ok, invoke, builtin]
  have e : (#[s, x].map a.eval) = #[a.eval s, a.eval x] := by simp
  rw [e, h]
  rfl
/-- the rows of cells that two slices hold, one behind the other -/
theorem append_cells {Wr : Nat → Nat → Prop} {es es2 : List (List V)} {f g : Nat → Value} {sz : Nat} (h1 : ∀ e ∈ es, e.length = sz) {i : Nat} {v : V} (hv : (es ++ es2).flatten[i]? = some v)
    (H1 : ∀ (i : Nat) (v : V), es.flatten[i]? = some v → (f i).oneCell' = true ∧ RepP ren w Wr v (f i)) (H2 : ∀ (i : Nat) (v : V), es2.flatten[i]? = some v → (g i).oneCell' = true ∧ RepP ren w Wr v (g i)) (n2 : Nat) (hn2 : es2.flatten.length = n2) :
    ∃ u, ((List.range (es.length * sz)).map f ++ (List.range n2).map g)[i]? = some u ∧ u.oneCell' = true ∧ RepP ren w Wr v u := by
  have hfl := flatten_len h1
  rw [List.flatten_append] at hv
  by_cases hi : i < es.flatten.length
  · rw [List.getElem?_append_left hi] at hv
    refine ⟨f i, ?_, (H1 i v hv).1, (H1 i v hv).2⟩
    rw [List.getElem?_append_left (by simp; omega)]
    simp [show i < es.length * sz by omega]
  · rw [List.getElem?_append_right (by omega)] at hv
    have hlt : i - es.flatten.length < es2.flatten.length := (List.getElem?_eq_some_iff.1 hv).1
    refine ⟨g (i - es.length * sz), ?_, ?_⟩
    · rw [List.getElem?_append_right (by simp; omega)]
      simp only [List.length_map, List.length_range]
      rw [List.getElem?_map, List.getElem?_range (by omega)]; rfl
    · rw [← hfl]; exact H2 _ v hv
/-- append, whatever is appended -/
theorem append_core (R : Rel ren we ωe U O σ a w ω μ) {o : Oper} {t u e : TypeId} {s x : Operand} (hop : o.op = .call { callee := .builtin .append, args := #[s, x], argTypes := #[t, u] }) {i : TypeInfo} {zv : Value} {sz : Nat} (e2 : i.size = sz) (hzs : zv.cells.size = sz)
    {ss : Src} {t1 : TypeId} (h1 : cSrc P ren t1 s = some ss) {nb : Nat} {es es2 : List (List V)} (hg : ss.get σ = .gs sz es) (hs2 : ∀ x ∈ es2, x.length = sz) {f2 : Nat → Value} (H2w : ∀ (i : Nat) (v : V), es2.flatten[i]? = some v → (f2 i).oneCell' = true ∧ RepP ren w (wr U ω) v (f2 i))
    {σ' : St} (hput : (σ.demote ss).putG nb o.dst false sz (es ++ es2) = some σ')
    (rG : ∀ (A : Option Addr) (sLen sCap : Nat) (olds : List Value), olds.length = sLen * i.size → (olds ≠ [] → ∃ ad, A = some ad ∧ ∀ (j : Nat) (u : Value), olds[j]? = some u → w.cell? (ad.add j) = some u) → sCap < sLen + es2.length → sLen = es.length → sLen ≤ sCap →
      (Builtin.append_ #[t, u] o.type #[.slice A sLen sCap, a.eval x]).run P w = .ok (.slice (some ⟨w.heap.size, 0, none⟩) (sLen + es2.length) (grownCap w (sLen + es2.length) sCap e)) (w.drew.alloc (.cells (olds.toArray ++ ((List.range (es2.length * sz)).map f2).toArray ++ Builtin.zeroCells zv.cells (grownCap w (sLen + es2.length) sCap e - (sLen + es2.length))) e)))
    (rN : es2 = [] → ∀ A : Option Addr, (Builtin.append_ #[t, u] o.type #[.slice A 0 0, a.eval x]).run P w = .ok (.slice A 0 0) w)
    (rF : ∀ (g sCap sLen : Nat) (cur : Array Value) (Ty : TypeId), w.heap[g]? = some (.cells cur Ty (0, 0)) → sLen + es2.length ≤ sCap → sLen * i.size + ((List.range (es2.length * sz)).map f2).length ≤ cur.size →
      (Builtin.append_ #[t, u] o.type #[.slice (some ⟨g, 0, none⟩) sLen sCap, a.eval x]).run P w = .ok (.slice (some ⟨g, 0, none⟩) (sLen + es2.length) sCap) (w.setRow g (cur.toList.take (sLen * i.size) ++ (List.range (es2.length * sz)).map f2 ++ cur.toList.drop (sLen * i.size + ((List.range (es2.length * sz)).map f2).length)).toArray)) : StepOk P ren we ωe U O a w o σ' nb μ := by
  have hfl2 := flatten_len hs2
  obtain ⟨cc1, cc2⟩ := R.opndC h1
  obtain ⟨ω1, F1, R1, hr1, hw1⟩ := R.taken ss (R.opnd h1) cc1 cc2 (.slot (σ.t.length) 0)
  have en : env U (σ.demote ss) w ω1 μ = env U σ w ω1 μ := by cases ss <;> rfl
  have hT : (σ.demote ss).t.length ≤ σ.t.length := by cases ss <;> simp [St.demote]
  rw [hg] at hr1
  have hr1 : Rep ren (env U σ w ω1 μ) (.slot σ.t.length 0) (.gs sz es) (a.eval s) := hr1
  have H2 : ∀ (i : Nat) (v : V), es2.flatten[i]? = some v → (f2 i).oneCell' = true ∧ RepP ren w (wr U ω1) v (f2 i) := fun i v hv => ⟨(H2w i v hv).1, by rw [hw1]; exact (H2w i v hv).2⟩
  have hlen : (es ++ es2).length = es.length + es2.length := by simp
  -- the new array
  have growing : ∀ (A : Option Addr) (cap : Nat) (f : Nat → Value), a.eval s = .slice A es.length cap → (∀ e ∈ es, e.length = sz) → (es ≠ [] → ∃ ad, A = some ad ∧ ∀ (j : Nat) (u : Value), ((List.range (es.length * sz)).map f)[j]? = some u → w.cell? (ad.add j) = some u) →
      (∀ (i : Nat) (v : V), es.flatten[i]? = some v → (f i).oneCell' = true ∧ RepP ren w (wr U ω1) v (f i)) → cap < es.length + es2.length → es.length ≤ cap → StepOk P ren we ωe U O a w o σ' nb μ := by
    intro A cap f ex hes holds H1 hgrow hle0
    have run := rG A es.length cap ((List.range (es.length * sz)).map f) (by simp [e2]) (fun hne => holds (by rintro rfl; simp at hne)) hgrow rfl hle0
    refine .value (exec_append hop (by rw [ex]; exact run)) ?_
    obtain ⟨Fd, Rd⟩ := R1.drew
    have hcapge := grownCap_ge w (es.length + es2.length) cap e
    have key := putG_new (nb := nb) (dst := o.dst) (pin := false) (sz := sz) (es := es ++ es2) Rd hput (arr := ((List.range (es.length * sz)).map f).toArray ++ ((List.range (es2.length * sz)).map f2).toArray ++ Builtin.zeroCells zv.cells (grownCap w (es.length + es2.length) cap e - (es.length + es2.length))) (T := e) (c := grownCap w (es.length + es2.length) cap e)
      (fun x hx => by rcases List.mem_append.1 hx with h | h; exact hes x h; exact hs2 x h) (by rw [hlen]; exact hcapge) (fun h => by cases h)
      (by
        simp only [Array.size_append, List.size_toArray, List.length_map, List.length_range, size_zeroCells, hzs]
        rw [← Nat.add_mul, ← Nat.add_mul]
        exact Nat.mul_le_mul_right sz (by omega))
      (fun j v hv => by
        obtain ⟨u, g1, g2, g3⟩ := append_cells (ren := ren) (w := w) (Wr := wr U ω1) hes hv H1 H2 (es2.length * sz) hfl2
        refine ⟨u, ?_, g2, g3.mono Fd.st⟩
        have hj : j < ((List.range (es.length * sz)).map f ++ (List.range (es2.length * sz)).map f2).length := (List.getElem?_eq_some_iff.1 g1).1
        rw [Array.getElem?_append_left (by simp at hj ⊢; omega)]
        simpa using g1)
    rw [hlen] at key
    exact key
  rcases hr1.gs_inv with ⟨A, rfl, ex⟩ | ⟨β, cap, arr, Ty, f, ex, hω, hb, hcap, hn, hsz, hcell1, hone1, hrep1⟩
  · by_cases hm : es2 = []
    · subst hm
      simp only [St.putG, Bool.false_eq_true, if_false, Option.some.injEq] at hput
      subst hput
      have run := rN rfl A
      refine .value (exec_append hop (by rw [ex]; exact run)) ⟨ω1, μ, R1.put _ (fun i _ => .pure (.nil _ _)), fun _ _ => rfl⟩
    · have : 0 < es2.length := List.length_pos_iff.2 hm
      exact growing A 0 (fun _ => undef) (by rw [ex]; rfl) (by simp) (by simp) (by simp) (by simpa using this) (by simp)
  · have hes : ∀ e ∈ es, e.length = sz := hsz
    have hfl := flatten_len hes
    have H1 : ∀ (i : Nat) (v : V), es.flatten[i]? = some v → (f i).oneCell' = true ∧ RepP ren w (wr U ω1) v (f i) := fun i v hv => ⟨hone1 i v hv, hrep1 i v hv⟩
    have hb : w.heap[β]? = some (.cells arr Ty (0, 0)) := hb
    by_cases hgrow : cap < es.length + es2.length
    · refine growing _ cap f ex hes (fun hne => ⟨_, rfl, fun j u hu => ?_⟩) H1 hgrow hn
      have hj : j < es.length * sz := by have := (List.getElem?_eq_some_iff.1 hu).1; simpa using this
      simp [hj] at hu; subst hu
      rw [add_mk, Nat.zero_add, cell_of_row _ _ _ _ _ _ hb]
      exact hcell1 j _ (List.getElem?_eq_getElem (by omega))
    · have hω : ω1 β = .gs (.slot σ.t.length 0) (es.length * sz) := hω
      have hcapsz : (es.length + es2.length) * sz ≤ arr.size := Nat.le_trans (Nat.mul_le_mul_right _ (by omega)) hcap
      have hle : es.length * sz + es2.length * sz ≤ arr.size := by rw [← Nat.add_mul]; exact hcapsz
      have run := rF β cap es.length arr Ty hb (by omega) (by simp [e2]; omega)
      rw [e2] at run
      refine .value (exec_append hop (by rw [ex]; exact run)) ?_
      have hasz : (arr.toList.take (es.length * sz) ++ (List.range (es2.length * sz)).map f2 ++ arr.toList.drop (es.length * sz + ((List.range (es2.length * sz)).map f2).length)).toArray.size = arr.size := by simp; omega
      have hget : ∀ j, (arr.toList.take (es.length * sz) ++ (List.range (es2.length * sz)).map f2 ++ arr.toList.drop (es.length * sz + ((List.range (es2.length * sz)).map f2).length)).toArray[j]? = if es.length * sz ≤ j ∧ j < es.length * sz + es2.length * sz then ((List.range (es2.length * sz)).map f2)[j - es.length * sz]? else arr.toList[j]? := by
        intro j
        rw [List.getElem?_toArray, setAt_get (by simp; omega)]
        simp
      obtain ⟨F2, R2⟩ := R1.grow hT hω hb hasz (fun j hj => by rw [hget, if_neg (by omega)]; simp)
      simp only [St.putG, Bool.false_eq_true, if_false, Option.some.injEq] at hput
      subst hput
      cases hd : o.dst with
      | none => exact ⟨_, _, R2, fun _ _ => rfl⟩
      | some d =>
        obtain ⟨F3, R3⟩ := R2.reown hT hω (.slot d 0) ((es ++ es2).length * sz) (by rw [hlen]; exact Nat.mul_le_mul_right sz (by omega))
        refine ⟨_, _, R3.put (some d) (fun j hj => ?_), fun _ _ => rfl⟩
        cases hj
        have hcells : ∀ (j : Nat) (v : V), (es ++ es2).flatten[j]? = some v → ∃ u, (arr.toList.take (es.length * sz) ++ (List.range (es2.length * sz)).map f2 ++ arr.toList.drop (es.length * sz + ((List.range (es2.length * sz)).map f2).length)).toArray[j]? = some u ∧ u.oneCell' = true ∧ RepP ren w (wr U ω1) v u := by
          intro j v hv
          rw [hget]
          rw [List.flatten_append] at hv
          by_cases hj : j < es.flatten.length
          · rw [List.getElem?_append_left hj] at hv
            rw [if_neg (by omega)]
            exact ⟨f j, by simpa using hcell1 j v hv, (H1 j v hv).1, (H1 j v hv).2⟩
          · rw [List.getElem?_append_right (by omega)] at hv
            have hlt : j - es.flatten.length < es2.flatten.length := (List.getElem?_eq_some_iff.1 hv).1
            rw [if_pos (by omega)]
            refine ⟨f2 (j - es.length * sz), ?_, ?_⟩
            · rw [List.getElem?_map, List.getElem?_range (by omega)]; rfl
            · rw [← hfl]; exact H2 _ v hv
        have en2 : env U (σ.demote ss) w ω1 μ = env U σ w ω1 μ := en
        have key := Rep.gs (ren := ren) (E := env U (σ.demote ss) (w.setRow β (arr.toList.take (es.length * sz) ++ (List.range (es2.length * sz)).map f2 ++ arr.toList.drop (es.length * sz + ((List.range (es2.length * sz)).map f2).length)).toArray) (upd ω1 β (.gs (.slot d 0) ((es ++ es2).length * sz))) μ) (l := .slot d 0) sz (es ++ es2) β cap _ Ty
          (fun j => ((arr.toList.take (es.length * sz) ++ (List.range (es2.length * sz)).map f2 ++ arr.toList.drop (es.length * sz + ((List.range (es2.length * sz)).map f2).length)).toArray[j]?).getD undef) (upd_same _ _ _) (setRow_heap w β arr _ Ty _ hb) (by rw [hasz]; exact hcap) (by rw [hlen]; omega) (fun x hx => by rcases List.mem_append.1 hx with h | h; exact hes x h; exact hs2 x h)
          (fun j v hv => by obtain ⟨u, g1, g2, g3⟩ := hcells j v hv; rw [g1]; rfl) (fun j v hv => by obtain ⟨u, g1, g2, g3⟩ := hcells j v hv; rw [g1]; exact g2)
          (fun j v hv => by obtain ⟨u, g1, g2, g3⟩ := hcells j v hv; rw [g1]; exact (g3.mono F2.st).mono F3.st)
        rwa [show Value.slice (some ⟨β, 0, none⟩) (es ++ es2).length cap = Value.slice (some ⟨β, 0, none⟩) (es.length + es2.length) cap by rw [hlen]] at key
/-- append to a slice that has no room -/
theorem append_nil (R : Rel ren we ωe U O σ a w ω μ) {o : Oper} {t u e : TypeId} {s x : Operand} (hop : o.op = .call { callee := .builtin .append, args := #[s, x], argTypes := #[t, u] }) {zv : Value} {sz : Nat} (hzs : zv.cells.size = sz)
    {nb : Nat} {es2 : List (List V)} {A : Option Addr} (ex : a.eval s = .slice A 0 0) (hs2 : ∀ x ∈ es2, x.length = sz) {f2 : Nat → Value} (H2 : ∀ (i : Nat) (v : V), es2.flatten[i]? = some v → (f2 i).oneCell' = true ∧ RepP ren w (wr U ω) v (f2 i))
    {σ' : St} {pin : Bool} (hput : σ.putG nb o.dst pin sz es2 = some σ')
    (rG : es2 ≠ [] → (Builtin.append_ #[t, u] o.type #[.slice A 0 0, a.eval x]).run P w = .ok (.slice (some ⟨w.heap.size, 0, none⟩) (0 + es2.length) (grownCap w (0 + es2.length) 0 e)) (w.drew.alloc (.cells (([] : List Value).toArray ++ ((List.range (es2.length * sz)).map f2).toArray ++ Builtin.zeroCells zv.cells (grownCap w (0 + es2.length) 0 e - (0 + es2.length))) e)))
    (rN : es2 = [] → (Builtin.append_ #[t, u] o.type #[.slice A 0 0, a.eval x]).run P w = .ok (.slice A 0 0) w) : StepOk P ren we ωe U O a w o σ' nb μ := by
  have hfl2 := flatten_len hs2
  by_cases hm : es2 = []
  · subst hm
    refine .value (exec_append hop (by rw [ex]; exact rN rfl)) ?_
    cases pin with
    | true =>
      simp only [St.putG, if_true] at hput
      obtain ⟨d, hd, hg, rfl⟩ := newB_inv hput
      have hlt : nb + d < σ.b.length := (List.getElem?_eq_some_iff.1 hg).1
      obtain ⟨F, R'⟩ := R.empty hg true
      rw [hd]
      exact ⟨_, _, R'.put (some d) (fun i hi => .own (nb + d) 0 0 sz 0 0 A (blen_set hlt _ _) (by omega) ⟨by omega, fun _ => .inr rfl⟩ (.inr ⟨rfl, rfl⟩)), fun _ _ => rfl⟩
    | false =>
      simp only [St.putG, Bool.false_eq_true, if_false, Option.some.injEq] at hput
      subst hput
      exact ⟨ω, μ, R.put _ (fun i _ => .pure (.nil _ _)), fun _ _ => rfl⟩
  · refine .value (exec_append hop (by rw [ex]; exact rG hm)) ?_
    obtain ⟨Fd, Rd⟩ := R.drew
    have hcapge := grownCap_ge w (0 + es2.length) 0 e
    have key := putG_new (nb := nb) (dst := o.dst) (pin := pin) (sz := sz) (es := es2) Rd hput (arr := ([] : List Value).toArray ++ ((List.range (es2.length * sz)).map f2).toArray ++ Builtin.zeroCells zv.cells (grownCap w (0 + es2.length) 0 e - (0 + es2.length))) (T := e) (c := grownCap w (0 + es2.length) 0 e)
      hs2 (by omega) (fun _ he => absurd he hm)
      (by
        simp only [Array.size_append, List.size_toArray, List.length_map, List.length_range, size_zeroCells, hzs, List.length_nil, Nat.zero_add]
        rw [← Nat.add_mul]
        exact Nat.mul_le_mul_right sz (by omega))
      (fun j v hv => by
        have hj : j < es2.length * sz := by rw [← hfl2]; exact (List.getElem?_eq_some_iff.1 hv).1
        obtain ⟨g2, g3⟩ := H2 j v hv
        refine ⟨f2 j, ?_, g2, g3.mono Fd.st⟩
        rw [Array.getElem?_append_left (by simp; omega)]
        simp [hj])
    rw [Nat.zero_add] at key ⊢
    exact key
/-- a block is written no more under its name -/
theorem Rel.deaden (R : Rel ren we ωe U O σ a w ω μ) {id : Nat} {p : Bool} {cs : List V} (hid : σ.b[id]? = some (.live p cs)) :
    Fr (env U σ w ω μ) (env U (σ.setB id (.dead cs.length)) w ω μ) ∧ Rel ren we ωe U O (σ.setB id (.dead cs.length)) a w ω μ := by
  have hlt : id < σ.b.length := (List.getElem?_eq_some_iff.1 hid).1
  have F : Fr (env U σ w ω μ) (env U (σ.setB id (.dead cs.length)) w ω μ) := by
    refine ⟨fun k o u h1 h2 => ⟨h1, h2⟩, fun id' L hL => ⟨?_, rfl, Nat.le_refl _⟩⟩
    have hL : blen σ.b id' = some L := hL
    show blen (σ.b.set id _) id' = some L
    unfold blen at hL ⊢
    by_cases hne : id' = id
    · subst hne; rw [List.getElem?_set_self hlt]; rw [hid] at hL; exact hL
    · rw [List.getElem?_set_ne (fun e => hne e.symm)]; exact hL
  refine ⟨F, R.step F rfl (fun t j β h _ e => ⟨e, rfl⟩) (fun id' p' cs' h' hne' => ?_) (fun id' cs' h' => ?_) (fun id' es' h' => ?_) (Kept.refl No w) (fun k _ h => no_of h) R.ow (fun k => Nat.le_refl _)⟩
  · simp only [St.setB] at h'
    by_cases hne : id' = id
    · subst hne; rw [List.getElem?_set_self hlt] at h'; cases h'
    · rw [List.getElem?_set_ne (fun e => hne e.symm)] at h'
      exact .inl ⟨h', (R.live h' hne').1, rfl, fun j β h e => ⟨e, rfl⟩⟩
  · simp only [St.setB] at h'
    by_cases hne : id' = id
    · subst hne; rw [List.getElem?_set_self hlt] at h'; cases h'
    · rw [List.getElem?_set_ne (fun e => hne e.symm)] at h'
      exact .inl ⟨h', (R.fs id' cs' h').1, rfl⟩
  · simp only [St.setB] at h'
    by_cases hne : id' = id
    · subst hne; rw [List.getElem?_set_self hlt] at h'; cases h'
    · rw [List.getElem?_set_ne (fun e => hne e.symm)] at h'
      exact .inl ⟨h', (R.ms id' es' h').1, rfl⟩
/-- a block gets another name, and its cells are written -/
theorem Rel.rehome (R : Rel ren we ωe U O σ a w ω μ) {id id2 : Nat} {cs cs2 : List V} (hid : σ.b[id]? = some (.live true cs)) (hne : cs ≠ []) (h2 : (σ.setB id (.dead cs.length)).b[id2]? = some .gone) {arr arr2 : Array Value} {T : TypeId} (ha : w.heap[μ id]? = some (.cells arr T (0, 0))) (hs : arr2.size = arr.size) (hl : cs2.length ≤ arr2.size)
    (hc : ∀ (j : Nat) (c : V), cs2[j]? = some c → ∃ u, arr2[j]? = some u ∧ u.oneCell' = true ∧ RepP ren w (wr U ω) c u) :
    Fr (env U σ w ω μ) (env U ((σ.setB id (.dead cs.length)).setB id2 (.live true cs2)) (w.setRow (μ id) arr2) (upd ω (μ id) (.blk id2)) (upd μ id2 (μ id))) ∧
    Rel ren we ωe U O ((σ.setB id (.dead cs.length)).setB id2 (.live true cs2)) a (w.setRow (μ id) arr2) (upd ω (μ id) (.blk id2)) (upd μ id2 (μ id)) := by
  obtain ⟨e0, arr0, T0, e1, e2, e3⟩ := R.live hid hne
  have hlt : id < σ.b.length := (List.getElem?_eq_some_iff.1 hid).1
  have hlt2 : id2 < (σ.setB id (.dead cs.length)).b.length := (List.getElem?_eq_some_iff.1 h2).1
  have hidne : id2 ≠ id := by
    rintro rfl
    simp only [St.setB] at h2
    rw [List.getElem?_set_self hlt] at h2; cases h2
  have hold : ∀ k, k ≠ id → k ≠ id2 → ((σ.setB id (.dead cs.length)).setB id2 (.live true cs2)).b[k]? = σ.b[k]? := by
    intro k h1 h2
    simp only [St.setB]
    rw [List.getElem?_set_ne (fun e => h2 e.symm), List.getElem?_set_ne (fun e => h1 e.symm)]
  have hat : ((σ.setB id (.dead cs.length)).setB id2 (.live true cs2)).b[id2]? = some (.live true cs2) := List.getElem?_set_self hlt2
  have hat1 : ((σ.setB id (.dead cs.length)).setB id2 (.live true cs2)).b[id]? = some (.dead cs.length) := by
    simp only [St.setB]
    rw [List.getElem?_set_ne hidne, List.getElem?_set_self hlt]
  have hg2 : σ.b[id2]? = some .gone := by
    simp only [St.setB] at h2
    rwa [List.getElem?_set_ne (fun e => hidne e.symm)] at h2
  have hnew := setRow_heap w (μ id) arr arr2 T _ ha
  have hoth := fun k (hk : k ≠ μ id) => setRow_other w (μ id) k arr2 hk
  have hw : wr U (upd ω (μ id) (.blk id2)) = wr U ω := by
    funext k o
    unfold wr
    by_cases hk : k = μ id
    · subst hk; rw [upd_same, e0]
    · rw [upd_other _ _ hk]
  have hgs : ∀ (l : Loc) β h, ω β = .gs l h → upd ω (μ id) (.blk id2) β = .gs l h ∧ (w.setRow (μ id) arr2).heap[β]? = w.heap[β]? := by
    intro l β h e
    have hne : β ≠ μ id := by rintro rfl; rw [e0] at e; cases e
    exact ⟨by rw [upd_other _ _ hne]; exact e, hoth β hne⟩
  have F : Fr (env U σ w ω μ) (env U ((σ.setB id (.dead cs.length)).setB id2 (.live true cs2)) (w.setRow (μ id) arr2) (upd ω (μ id) (.blk id2)) (upd μ id2 (μ id))) := by
    refine ⟨fun k o u h1 h2 => ?_, fun id' L hL => ?_⟩
    · have h1 : ¬ wr U ω k o := h1
      have hk : k ≠ μ id := by rintro rfl; exact h1 (.inr (by rw [e0]; trivial))
      refine ⟨?_, (World.cell?_of_block (a := ⟨k, o, none⟩) (hoth k hk)).trans h2⟩
      show ¬ wr U (upd ω (μ id) (.blk id2)) k o
      rw [hw]; exact h1
    · have hL : blen σ.b id' = some L := hL
      have hne2 : id' ≠ id2 := by rintro rfl; simp [blen, hg2] at hL
      refine ⟨?_, upd_other _ _ hne2, ?_⟩
      · show blen ((σ.setB id (.dead cs.length)).setB id2 (.live true cs2)).b id' = some L
        unfold blen at hL ⊢
        by_cases hne1 : id' = id
        · subst hne1; rw [hat1]; rw [hid] at hL; exact hL
        · rw [hold id' hne1 hne2]; exact hL
      · show rsize w (μ id') ≤ rsize (w.setRow (μ id) arr2) (μ id')
        by_cases hm : μ id' = μ id
        · rw [hm, rsize_of ha, rsize_of hnew, hs]; exact Nat.le_refl _
        · unfold rsize; rw [hoth _ hm]; exact Nat.le_refl _
  refine ⟨F, R.step F rfl (fun t j β h _ e => hgs _ β h e) (fun id' p' cs' h' hne' => ?_) (fun id' cs' h' => ?_) (fun id' es' h' => ?_) (kept_setRow w (μ id) arr2) (fun k hk1 hk2 => ?_) (fun k hk => ?_) (fun k => ?_)⟩
  · by_cases hx : id' = id2
    · subst hx
      rw [hat] at h'; cases h'
      refine .inr ⟨by rw [upd_same, upd_same], arr2, T, by rw [upd_same]; exact hnew, hl, fun j c hj => ?_⟩
      obtain ⟨u, g1, g2, g3⟩ := hc j c hj
      exact ⟨u, g1, g2, fun _ => g3.mono F.st, .pure (g3.mono F.st)⟩
    · by_cases hy : id' = id
      · subst hy; rw [hat1] at h'; cases h'
      · rw [hold id' hy hx] at h'
        obtain ⟨q0, _⟩ := R.live h' hne'
        have hm : μ id' ≠ μ id := by intro e; rw [e, e0] at q0; cases q0; exact hy rfl
        exact .inl ⟨h', by rw [upd_other _ _ hm]; exact q0, hoth _ hm, fun j β h e => hgs _ β h e⟩
  · by_cases hx : id' = id2
    · subst hx; rw [hat] at h'; cases h'
    · by_cases hy : id' = id
      · subst hy; rw [hat1] at h'; cases h'
      · rw [hold id' hy hx] at h'
        obtain ⟨q0, _⟩ := R.fs id' cs' h'
        have hm : μ id' ≠ μ id := by intro e; rw [e] at q0; exact q0 0 (.inr (by rw [e0]; trivial))
        exact .inl ⟨h', by rw [hw]; exact q0, hoth _ hm⟩
  · by_cases hx : id' = id2
    · subst hx; rw [hat] at h'; cases h'
    · by_cases hy : id' = id
      · subst hy; rw [hat1] at h'; cases h'
      · rw [hold id' hy hx] at h'
        obtain ⟨q0, _⟩ := R.ms id' es' h'
        have hm : μ id' ≠ μ id := by intro e; rw [e, e0] at q0; cases q0; exact hy rfl
        exact .inl ⟨h', by rw [upd_other _ _ hm]; exact q0, hoth _ hm⟩
  · subst hk2
    rcases (R.ow (μ id) (by rw [e0]; simp)).1 with h | h
    · omega
    · exact h
  · rw [setRow_size]
    by_cases hkb : k = μ id
    · subst hkb; exact R.ow _ (by rw [e0]; simp)
    · rw [upd_other _ _ hkb] at hk; exact R.ow k hk
  · by_cases hk : k = μ id
    · rw [hk, rsize_of ha, rsize_of hnew, hs]; exact Nat.le_refl _
    · unfold rsize; rw [hoth _ hk]; exact Nat.le_refl _
/-- what is appended -/
theorem view_news (R : Rel ren we ωe U O σ a w ω μ) {x : Operand} {sx : Src} {t2 : TypeId} (h2 : cSrc P ren t2 x = some sx) {sz sz2 : Nat} {es2 : List (List V)} (hv : view σ.b (sx.get σ) = some (.sl sz2 es2)) (c2 : sz2 = sz ∨ es2 = []) :
    ∃ (B : Option Addr) (cB : Nat) (f2 : Nat → Value), a.eval x = .slice B es2.length cB ∧ (∀ x ∈ es2, x.length = sz) ∧
      ((List.range (es2.length * sz)).map f2 ≠ [] → ∃ ad, B = some ad ∧ ∀ (j : Nat) (u : Value), ((List.range (es2.length * sz)).map f2)[j]? = some u → w.cell? (ad.add j) = some u) ∧
      (∀ u ∈ (List.range (es2.length * sz)).map f2, u.oneCell' = true) ∧ (∀ (i : Nat) (v : V), es2.flatten[i]? = some v → (f2 i).oneCell' = true ∧ RepP ren w (wr U ω) v (f2 i)) := by
  obtain ⟨B, cB, f2, k2, q2, eu2, hcB, hsz2, hB, hcell2⟩ := R.view (R.opnd h2) hv
  have hs2 : ∀ x ∈ es2, x.length = sz := by
    rcases c2 with rfl | rfl
    · exact hsz2
    · simp
  have hfl2 := flatten_len hs2
  refine ⟨B, cB, f2, eu2, hs2, fun hne => ?_, fun u hu => ?_, fun i v hv => ⟨(hcell2 i v hv).2.1, (hcell2 i v hv).2.2⟩⟩
  · have : es2 ≠ [] := by rintro rfl; simp at hne
    refine ⟨_, hB this, fun j u hu => ?_⟩
    have hj : j < es2.length * sz := by have := (List.getElem?_eq_some_iff.1 hu).1; simpa using this
    simp [hj] at hu; subst hu
    rw [add_mk]
    exact (hcell2 j _ (List.getElem?_eq_getElem (by omega))).1
  · simp only [List.mem_map, List.mem_range] at hu
    obtain ⟨j, hj, rfl⟩ := hu
    exact (hcell2 j _ (List.getElem?_eq_getElem (by omega))).2.1
theorem append_own (R : Rel ren we ωe U O σ a w ω μ) {o : Oper} {t e : TypeId} {s x : Operand} (hop : o.op = .call { callee := .builtin .append, args := #[s, x], argTypes := #[t, t] }) {i : TypeInfo} {zv : Value} {sz : Nat} (e2 : i.size = sz) (hzs : zv.cells.size = sz) (hpos : 0 < sz)
    {ss : Src} {t1 : TypeId} (h1 : cSrc P ren t1 s = some ss) {nb id len : Nat} {cs : List V} {es2 : List (List V)} (hg : ss.get σ = .own id 0 len sz) (hb : σ.b[id]? = some (.live true cs)) (hs2 : ∀ x ∈ es2, x.length = sz) {f2 : Nat → Value} (H2 : ∀ (i : Nat) (v : V), es2.flatten[i]? = some v → (f2 i).oneCell' = true ∧ RepP ren w (wr U ω) v (f2 i)) (hsome : len + es2.length ≠ 0 ∨ cs.length = 0)
    {σ' : St} (hput : (σ.setB id (.dead cs.length)).newB nb o.dst (.live true (cs.take (len * sz) ++ es2.flatten)) (fun id' => .own id' 0 (len + es2.length) sz) = some σ')
    (rG : ∀ (A : Option Addr) (sLen sCap : Nat) (olds : List Value), olds.length = sLen * i.size → (olds ≠ [] → ∃ ad, A = some ad ∧ ∀ (j : Nat) (u : Value), olds[j]? = some u → w.cell? (ad.add j) = some u) → sCap < sLen + es2.length → sLen = len →
      (Builtin.append_ #[t, t] o.type #[.slice A sLen sCap, a.eval x]).run P w = .ok (.slice (some ⟨w.heap.size, 0, none⟩) (sLen + es2.length) (grownCap w (sLen + es2.length) sCap e)) (w.drew.alloc (.cells (olds.toArray ++ ((List.range (es2.length * sz)).map f2).toArray ++ Builtin.zeroCells zv.cells (grownCap w (sLen + es2.length) sCap e - (sLen + es2.length))) e)))
    (rN : es2 = [] → ∀ A : Option Addr, (Builtin.append_ #[t, t] o.type #[.slice A 0 0, a.eval x]).run P w = .ok (.slice A 0 0) w)
    (rF : ∀ (g sCap sLen : Nat) (cur : Array Value) (Ty : TypeId), w.heap[g]? = some (.cells cur Ty (0, 0)) → sLen + es2.length ≤ sCap → sLen * i.size + ((List.range (es2.length * sz)).map f2).length ≤ cur.size →
      (Builtin.append_ #[t, t] o.type #[.slice (some ⟨g, 0, none⟩) sLen sCap, a.eval x]).run P w = .ok (.slice (some ⟨g, 0, none⟩) (sLen + es2.length) sCap) (w.setRow g (cur.toList.take (sLen * i.size) ++ (List.range (es2.length * sz)).map f2 ++ cur.toList.drop (sLen * i.size + ((List.range (es2.length * sz)).map f2).length)).toArray)) : StepOk P ren we ωe U O a w o σ' nb μ := by
  have hfl2 := flatten_len hs2
  obtain ⟨d, hd, hgone, rfl⟩ := newB_inv hput
  have hr := R.opnd h1
  rw [hg] at hr
  obtain ⟨c, L, A, ex, hL, hl, ⟨hlc, hz⟩, hA⟩ := hr.own_inv
  have hL' : blen σ.b id = some L := hL
  have : L = cs.length := by simp [blen, hb] at hL'; exact hL'.symm
  subst this
  rw [Nat.zero_add] at hl
  have hlt2 : nb + d < (σ.setB id (.dead cs.length)).b.length := (List.getElem?_eq_some_iff.1 hgone).1
  have htl : (cs.take (len * sz)).length = len * sz := by simp; omega
  have hcl : (cs.take (len * sz) ++ es2.flatten).length = (len + es2.length) * sz := by rw [List.length_append, htl, hfl2, Nat.add_mul]
  obtain ⟨Fd, Rd⟩ := R.deaden hb
  by_cases hroom : len + es2.length ≤ c
  · by_cases hc0 : c = 0
    · subst hc0
      have hl0 : len = 0 := by omega
      have he0 : es2 = [] := List.length_eq_zero_iff.1 (by omega)
      subst hl0 he0
      refine .value (exec_append hop (by rw [ex]; exact rN rfl A)) ?_
      obtain ⟨F, R'⟩ := Rd.empty hgone true
      rw [hd]
      have hnil : cs.take (0 * sz) ++ ([] : List (List V)).flatten = [] := by simp
      rw [hnil]
      exact ⟨_, _, R'.put (some d) (fun i hi => .own (nb + d) 0 0 sz 0 0 A (blen_set hlt2 _ _) (by omega) ⟨by omega, fun _ => .inr rfl⟩ (.inr ⟨rfl, rfl⟩)), fun _ _ => rfl⟩
    · have hne : cs ≠ [] := by
        rintro rfl
        rcases hz rfl with q | q
        · omega
        · exact hc0 q
      have hne0 : len + es2.length ≠ 0 := by
        rcases hsome with q | q
        · exact q
        · exact absurd (List.length_eq_zero_iff.1 q) hne
      obtain ⟨e0, arr, T, e1, e2', e3⟩ := R.live hb hne
      rcases hA with ⟨rfl, hAc⟩ | ⟨_, q⟩
      · have hAc : 0 + c * sz ≤ rsize w (μ id) := hAc
        rw [rsize_of e1, Nat.zero_add] at hAc
        have hfit : (len + es2.length) * sz ≤ arr.size := Nat.le_trans (Nat.mul_le_mul_right sz hroom) hAc
        have hfit' : len * sz + es2.length * sz ≤ arr.size := by rw [← Nat.add_mul]; exact hfit
        have run := rF (μ id) c len arr T e1 hroom (by simp [e2]; omega)
        rw [e2] at run
        refine .value (exec_append hop (by rw [ex]; exact run)) ?_
        have hasz : (arr.toList.take (len * sz) ++ (List.range (es2.length * sz)).map f2 ++ arr.toList.drop (len * sz + ((List.range (es2.length * sz)).map f2).length)).toArray.size = arr.size := by simp; omega
        have hget : ∀ j, (arr.toList.take (len * sz) ++ (List.range (es2.length * sz)).map f2 ++ arr.toList.drop (len * sz + ((List.range (es2.length * sz)).map f2).length)).toArray[j]? = if len * sz ≤ j ∧ j < len * sz + es2.length * sz then ((List.range (es2.length * sz)).map f2)[j - len * sz]? else arr.toList[j]? := by
          intro j
          rw [List.getElem?_toArray, setAt_get (by simp; omega)]
          simp
        obtain ⟨F, R'⟩ := R.rehome hb hne hgone (cs2 := cs.take (len * sz) ++ es2.flatten) e1 hasz (by rw [hasz, hcl]; exact hfit) (fun j v hj => by
          rw [hget]
          by_cases hjl : j < len * sz
          · rw [List.getElem?_append_left (by omega), List.getElem?_take, if_pos hjl] at hj
            rw [if_neg (by omega)]
            obtain ⟨u, g1, g2, g3, _⟩ := e3 j v hj
            exact ⟨u, by simpa using g1, g2, g3 rfl⟩
          · rw [List.getElem?_append_right (by omega), htl] at hj
            have hlt : j - len * sz < es2.flatten.length := (List.getElem?_eq_some_iff.1 hj).1
            rw [if_pos (by omega)]
            exact ⟨f2 (j - len * sz), by rw [List.getElem?_map, List.getElem?_range (by omega)]; rfl, H2 _ v hj⟩)
        rw [hd]
        refine ⟨_, _, R'.put (some d) (fun i hi => ?_), fun k hk => mu_new hk⟩
        have hposn : sz ≤ (len + es2.length) * sz := Nat.le_mul_of_pos_left sz (by omega)
        refine .own (nb + d) 0 (len + es2.length) sz c _ _ (blen_set hlt2 _ _) (by rw [hcl]; omega) ⟨hroom, fun h0 => by rw [hcl] at h0; omega⟩ (.inl ⟨?_, ?_⟩)
        · show some (Addr.mk (μ id) 0 none) = some ⟨upd μ (nb + d) (μ id) (nb + d), 0, none⟩
          rw [upd_same]
        · show 0 + c * sz ≤ rsize (w.setRow (μ id) _) (upd μ (nb + d) (μ id) (nb + d))
          rw [upd_same, rsize_of (setRow_heap w (μ id) arr _ T _ e1), hasz]; omega
      · exact absurd q hc0
  · have hpn : 0 < es2.length := by omega
    -- the cells that were there
    obtain ⟨olds, hol, hold, hcells⟩ : ∃ olds : List Value, olds.length = len * sz ∧ (olds ≠ [] → ∃ ad, A = some ad ∧ ∀ (j : Nat) (u : Value), olds[j]? = some u → w.cell? (ad.add j) = some u) ∧ ∀ (j : Nat) (v : V), (cs.take (len * sz))[j]? = some v → ∃ u, olds[j]? = some u ∧ u.oneCell' = true ∧ RepP ren w (wr U ω) v u := by
      by_cases hne : cs = []
      · subst hne
        have : len * sz = 0 := by simp at hl; omega
        exact ⟨[], by simp [this], fun h => absurd rfl h, fun j v hj => by simp at hj⟩
      · obtain ⟨e0, arr, T, e1, e2', e3⟩ := R.live hb hne
        refine ⟨arr.toList.take (len * sz), by simp; omega, fun hn => ?_, fun j v hj => ?_⟩
        · rcases hA with ⟨rfl, _⟩ | ⟨rfl, _⟩
          · refine ⟨_, rfl, fun j u hu => ?_⟩
            rw [List.getElem?_take] at hu
            split at hu
            · rw [add_mk, Nat.zero_add]
              show w.cell? ⟨μ id, j, none⟩ = some u
              rw [cell_of_row _ _ _ _ _ _ e1]; simpa using hu
            · cases hu
          · simp at hn
        · rw [List.getElem?_take] at hj
          split at hj
          · rename_i hjl
            obtain ⟨u, g1, g2, g3, _⟩ := e3 j v hj
            exact ⟨u, by rw [List.getElem?_take, if_pos hjl]; simpa using g1, g2, g3 rfl⟩
          · cases hj
    have run := rG A len c olds (by rw [hol, e2]) hold (by omega) rfl
    refine .value (exec_append hop (by rw [ex]; exact run)) ?_
    obtain ⟨Fw, Rw⟩ := Rd.drew
    have hcapge := grownCap_ge w (len + es2.length) c e
    have hasz : (olds.toArray ++ ((List.range (es2.length * sz)).map f2).toArray ++ Builtin.zeroCells zv.cells (grownCap w (len + es2.length) c e - (len + es2.length))).size = grownCap w (len + es2.length) c e * sz := by
      simp only [Array.size_append, List.size_toArray, List.length_map, List.length_range, size_zeroCells, hzs, hol]
      rw [← Nat.add_mul, ← Nat.add_mul]
      congr 1
      omega
    have hcapsz : (len + es2.length) * sz ≤ grownCap w (len + es2.length) c e * sz := Nat.mul_le_mul_right sz hcapge
    obtain ⟨F, R'⟩ := Rw.newBlock hgone true (cs.take (len * sz) ++ es2.flatten) (olds.toArray ++ ((List.range (es2.length * sz)).map f2).toArray ++ Builtin.zeroCells zv.cells (grownCap w (len + es2.length) c e - (len + es2.length))) e (by rw [hasz, hcl]; exact hcapsz) (fun j v hj => by
      have hjl : j < (cs.take (len * sz) ++ es2.flatten).length := (List.getElem?_eq_some_iff.1 hj).1
      rw [hcl, Nat.add_mul] at hjl
      rw [Array.getElem?_append_left (by simp [hol]; omega)]
      by_cases hj1 : j < len * sz
      · rw [List.getElem?_append_left (by omega)] at hj
        obtain ⟨u, g1, g2, g3⟩ := hcells j v hj
        refine ⟨u, ?_, g2, (g3.mono Fd.st).mono Fw.st⟩
        rw [Array.getElem?_append_left (by simp [hol]; exact hj1)]
        simpa using g1
      · rw [List.getElem?_append_right (by omega), htl] at hj
        obtain ⟨g2, g3⟩ := H2 _ v hj
        refine ⟨f2 (j - len * sz), ?_, g2, (g3.mono Fd.st).mono Fw.st⟩
        rw [Array.getElem?_append_right (by simp [hol]; omega)]
        simp only [List.size_toArray, hol]
        rw [List.getElem?_toArray, List.getElem?_map, List.getElem?_range (by omega)]; rfl)
    rw [hd]
    refine ⟨_, _, R'.put (some d) (fun i hi => ?_), fun k hk => mu_new hk⟩
    have hposn : sz ≤ (len + es2.length) * sz := Nat.le_mul_of_pos_left sz (by omega)
    have hnewh : (w.drew.alloc (.cells (olds.toArray ++ ((List.range (es2.length * sz)).map f2).toArray ++ Builtin.zeroCells zv.cells (grownCap w (len + es2.length) c e - (len + es2.length))) e)).heap[w.drew.heap.size]? = some (.cells _ e (0, 0)) := heap_alloc_new w.drew _
    refine .own (nb + d) 0 (len + es2.length) sz _ _ _ (blen_set hlt2 _ _) (by rw [hcl]; omega) ⟨hcapge, fun h0 => by rw [hcl] at h0; omega⟩ (.inl ⟨?_, ?_⟩)
    · show some (Addr.mk w.heap.size 0 none) = some ⟨upd μ (nb + d) w.drew.heap.size (nb + d), 0, none⟩
      rw [upd_same]; rfl
    · show 0 + _ ≤ rsize (w.drew.alloc _) (upd μ (nb + d) w.drew.heap.size (nb + d))
      rw [upd_same, rsize_of hnewh, hasz]; omega
theorem append_step (R : Rel ren we ωe U O σ a w ω μ) {o : Oper} {t e : TypeId} {s x : Operand} (hop : o.op = .call { callee := .builtin .append, args := #[s, x], argTypes := #[t, t] }) (ht : P.underlying t = some (.slice e)) {sz : Nat} (hsz : sizeT P e = some sz) {i : TypeInfo} (hi : P.info? e = some i) {z : List V} (hz : zeroC P e = some z) (hpos : 0 < sz) (hzl : z.length = sz)
    {ss sx : Src} {t1 t2 : TypeId} (h1 : cSrc P ren t1 s = some ss) (h2 : cSrc P ren t2 x = some sx) {nb : Nat} {cb : CB} {pin : Bool} {σ' : St} (h : stepK cb nb σ o.dst pin (.append sz i.bytes ss sx) = some σ') : StepOk P ren we ωe U O a w o σ' nb μ := by
  obtain ⟨i', zv, hi', hzv, hcz⟩ := zeroC_rep (ren := ren) (w := w) (Wr := wr U ω) hz
  rw [hi] at hi'; cases hi'
  obtain ⟨i2, hi2, e2⟩ := sizeT_info hsz
  rw [hi] at hi2; cases hi2
  have hzs : zv.cells.size = sz := by have := hcz.1; simp at this; omega
  simp only [stepK] at h
  split at h
  · rename_i sz1 es sz2 es2 hg hv
    split at h
    · rename_i hc
      obtain ⟨c1, c2, c3, c4⟩ := hc
      have c1 := c1.symm
      subst c1
      obtain ⟨B, cB, f2, eu2, hs2, hnews, hone2, hcell2⟩ := view_news R h2 hv c2
      split at h
      · split at h
        · rename_i x0
          obtain ⟨_, cc2⟩ := R.opndC h1
          have hx0 : x0 = .gs sz [] := hg
          subst hx0
          have hA : ∃ A, a.eval s = .slice A 0 0 := by
            rcases (cc2 _ rfl (.slot 0 0)).gs_inv with ⟨A, _, ex⟩ | ⟨β, cap, arr, Ty, f, ex, hω, _⟩
            · exact ⟨A, ex⟩
            · rcases (cc2 _ rfl (.slot 1 0)).gs_inv with ⟨A, _, ex⟩ | ⟨β', cap', arr', Ty', f', ex', hω', _⟩
              · exact ⟨A, ex⟩
              · rw [ex] at ex'
                simp only [Value.slice.injEq, Option.some.injEq, Addr.mk.injEq] at ex'
                obtain ⟨⟨rfl, _⟩, _⟩ := ex'
                rw [hω] at hω'; cases hω'
          obtain ⟨A, ex⟩ := hA
          refine append_nil (e := e) R hop hzs ex hs2 hcell2 h (fun hne => ?_) (fun he => ?_)
          · rw [eu2]
            exact run_append_grows (P := P) (w := w) (ty := o.type) (c2 := cB) ht hi hzv (A := A) (B := B) (sLen := 0) (sCap := 0) (m := es2.length) (olds := []) (news := (List.range (es2.length * sz)).map f2) (by simp) (by simp) (by simp [e2]) hnews (by have := List.length_pos_iff.2 hne; omega) c3 c4
          · rw [eu2]; subst he
            exact run_append_none (P := P) (w := w) (ty := o.type) (A := A) (B := B) (c2 := cB) ht hi
        · cases h
      · exact append_core R hop (i := i) (zv := zv) e2 hzs h1 hg hs2 hcell2 (by simpa [St.putG] using h)
          (fun A sLen sCap olds q1 q2 q3 q4 q5 => by
            rw [eu2]
            exact run_append_grows (P := P) (w := w) (ty := o.type) (c2 := cB) ht hi hzv (A := A) (B := B) (sLen := sLen) (sCap := sCap) (m := es2.length) (olds := olds) (news := (List.range (es2.length * sz)).map f2) q1 q2 (by simp [e2]) hnews q3 (by rw [q4]; exact c3) (by rw [q4]; exact c4))
          (fun he A => by
            rw [eu2]; subst he
            exact run_append_none (P := P) (w := w) (ty := o.type) (A := A) (B := B) (c2 := cB) ht hi)
          (fun g sCap sLen cur Ty q1 q2 q3 => by
            rw [eu2]
            exact run_append_fits (P := P) (w := w) (ty := o.type) (sLen := sLen) (sCap := sCap) (m := es2.length) (c2 := cB) (B := B) ht hi q1 (news := (List.range (es2.length * sz)).map f2) (by simp [e2]) hnews hone2 q2 q3)
    · cases h
  · rename_i sz1 sz2 es2 hg hv
    split at h
    · rename_i hc
      obtain ⟨c1, c2, c3, c4⟩ := hc
      have c1 := c1.symm
      subst c1
      obtain ⟨B, cB, f2, eu2, hs2, hnews, hone2, hcell2⟩ := view_news R h2 hv c2
      have hr := R.opnd h1
      rw [hg] at hr
      have hA : ∃ A, a.eval s = .slice A 0 0 := by
        generalize a.eval s = u at hr
        cases hr with
        | pure h => cases h
        | fr0 _ A => exact ⟨A, rfl⟩
        | fr _ _ β c arr Ty f hω hb hc hn => obtain rfl : c = 0 := (hn.2 rfl).resolve_left (by omega); exact ⟨_, rfl⟩
      obtain ⟨A, ex⟩ := hA
      refine append_nil (e := e) (R.demote ss) hop hzs ex hs2 hcell2 h (fun hne => ?_) (fun he => ?_)
      · rw [eu2]
        exact run_append_grows (P := P) (w := w) (ty := o.type) (c2 := cB) ht hi hzv (A := A) (B := B) (sLen := 0) (sCap := 0) (m := es2.length) (olds := []) (news := (List.range (es2.length * sz)).map f2) (by simp) (by simp) (by simp [e2]) hnews (by have := List.length_pos_iff.2 hne; omega) c3 c4
      · rw [eu2]; subst he
        exact run_append_none (P := P) (w := w) (ty := o.type) (A := A) (B := B) (c2 := cB) ht hi
    · cases h
  · rename_i id off len sz1 sz2 es2 hg hv
    split at h
    · rename_i cs hb
      split at h
      · rename_i hc
        obtain ⟨c1, c2, c0, c3, c4, c5⟩ := hc
        have c1 := c1.symm
        subst c1
        subst c0
        obtain ⟨B, cB, f2, eu2, hs2, hnews, hone2, hcell2⟩ := view_news R h2 hv c2
        exact append_own R hop (i := i) (zv := zv) (e := e) e2 hzs hpos h1 hg hb hs2 hcell2 c5 h
          (fun A sLen sCap olds q1 q2 q3 q4 => by
            rw [eu2]
            exact run_append_grows (P := P) (w := w) (ty := o.type) (c2 := cB) ht hi hzv (A := A) (B := B) (sLen := sLen) (sCap := sCap) (m := es2.length) (olds := olds) (news := (List.range (es2.length * sz)).map f2) q1 q2 (by simp [e2]) hnews q3 (by rw [q4]; exact c3) (by rw [q4]; exact c4))
          (fun he A => by
            rw [eu2]; subst he
            exact run_append_none (P := P) (w := w) (ty := o.type) (A := A) (B := B) (c2 := cB) ht hi)
          (fun g sCap sLen cur Ty q1 q2 q3 => by
            rw [eu2]
            exact run_append_fits (P := P) (w := w) (ty := o.type) (sLen := sLen) (sCap := sCap) (m := es2.length) (c2 := cB) (B := B) ht hi q1 (news := (List.range (es2.length * sz)).map f2) (by simp [e2]) hnews hone2 q2 q3)
      · cases h
    · cases h
  · cases h
theorem run_appendZ_grows {t u ty e : TypeId} {k : IntKind} {i : TypeInfo} {z : Value} (ht : P.underlying t = some (.slice e)) (hu : P.underlying u = some (.int k)) (hi : P.info? e = some i) (hz : i.zero = some z) (hpos : 0 < i.size) {A : Option Addr} {sLen sCap m : Nat} {k' : IntKind} {olds : List Value} (hol : olds.length = sLen * i.size) (hold : olds ≠ [] → ∃ ad, A = some ad ∧ ∀ (j : Nat) (u : Value), olds[j]? = some u → w.cell? (ad.add j) = some u)
    (hg : sCap < sLen + m) (hb : (sLen + m) * i.bytes ≤ 140737488355328) (h63 : sLen + m ≤ 140737488355328) (hm : 0 < m) :
    (Builtin.append_ #[t, u] ty #[.slice A sLen sCap, .int k' m]).run P w =
      .ok (.slice (some ⟨w.heap.size, 0, none⟩) (sLen + m) (grownCap w (sLen + m) sCap e)) (w.drew.alloc (.cells (olds.toArray ++ Builtin.zeroCells z.cells m ++ Builtin.zeroCells z.cells (grownCap w (sLen + m) sCap e - (sLen + m))) e)) := by
  have hn : ¬ (sLen + m ≤ sCap) := by omega
  have h63' : ¬ (9223372036854775807 < ((sLen : Int) + (m : Int))) := by omega
  have h48' : ¬ (281474976710656 < Builtin.nextslicecap (sLen + m) sCap * i.bytes) := by have := growslice_fits hg hb; omega
  have hfo := run_first (P := P) (w := w.drew) (len := sLen) (cap := sCap) olds hol (by simpa using hold)
  have hw : IntKind.wrap .i64 (m : Int) = (m : Int) := IntWalk.i64_in _ ⟨by omega, by omega⟩
  have hneg : ¬ ((m : Int) < 0) := by omega
  have hmb : m * i.bytes ≤ 140737488355328 := Nat.le_trans (Nat.mul_le_mul_right _ (by omega)) hb
  have h48 : ¬ ((m : Int) * (i.bytes : Int) > 281474976710656) := by
    have : ((m * i.bytes : Nat) : Int) ≤ 140737488355328 := Int.ofNat_le.2 hmb
    rw [Int.natCast_mul] at this; omega
  have hne : ¬ (m * i.size = 0) := by
    intro h0
    rcases Nat.mul_eq_zero.1 h0 with h | h <;> omega
  simp [Builtin.append_, run_underlying ht, run_underlying hu, sizeOf, typeInfo, zeroValue, hi, hz, asInt, asIntOf, hw, hneg, h48, hne, hn, h63', h48', Question.forced, hfo, newRow, grownCap]
theorem run_appendZ_fits {t u ty e : TypeId} {k : IntKind} {i : TypeInfo} {z : Value} (ht : P.underlying t = some (.slice e)) (hu : P.underlying u = some (.int k)) (hi : P.info? e = some i) (hz : i.zero = some z) (hzs : z.cells.size = i.size) (hpos : 0 < i.size) {g sLen sCap m : Nat} {k' : IntKind} {cur : Array Value} {Ty : TypeId} (hgb : w.heap[g]? = some (.cells cur Ty (0, 0)))
    (h1 : ∀ u ∈ (Builtin.zeroCells z.cells m).toList, u.oneCell' = true) (hroom : sLen + m ≤ sCap) (hfit : sLen * i.size + (Builtin.zeroCells z.cells m).toList.length ≤ cur.size) (hm : m * i.bytes ≤ 140737488355328) (hm2 : m ≤ 140737488355328) :
    (Builtin.append_ #[t, u] ty #[.slice (some ⟨g, 0, none⟩) sLen sCap, .int k' m]).run P w =
      .ok (.slice (some ⟨g, 0, none⟩) (sLen + m) sCap) (w.setRow g (cur.toList.take (sLen * i.size) ++ (Builtin.zeroCells z.cells m).toList ++ cur.toList.drop (sLen * i.size + (Builtin.zeroCells z.cells m).toList.length)).toArray) := by
  have hst := run_storeCells_at P g (sLen * i.size) Ty (Builtin.zeroCells z.cells m).toList 0 cur w hgb (by simpa using hfit) h1
  simp only [Nat.add_zero] at hst
  have hw : IntKind.wrap .i64 (m : Int) = (m : Int) := IntWalk.i64_in _ ⟨by omega, by omega⟩
  have hneg : ¬ ((m : Int) < 0) := by omega
  have h48 : ¬ ((m : Int) * (i.bytes : Int) > 281474976710656) := by
    have : ((m * i.bytes : Nat) : Int) ≤ 140737488355328 := Int.ofNat_le.2 hm
    rw [Int.natCast_mul] at this; omega
  by_cases h0 : m = 0
  · subst h0
    have hzc : (Builtin.zeroCells z.cells 0).toList = [] := by simp [Builtin.zeroCells]
    rw [hzc] at hst ⊢
    have hsame : w = w.setRow g (cur.toList.take (sLen * i.size) ++ [] ++ cur.toList.drop (sLen * i.size + ([] : List Value).length)).toArray := by
      have := hst
      simp only [storeCells, Sem.run_pure] at this
      injection this
    rw [← hsame]
    have hw0 : IntKind.wrap .i64 0 = 0 := rfl
    have hr0 : sLen ≤ sCap := by omega
    simp [hw0, hr0, Builtin.append_, run_underlying ht, run_underlying hu, sizeOf, typeInfo, hi, asInt, asIntOf, Addr.add_lit, storeCells]
  · have hne : ¬ (m * i.size = 0) := by
      intro h
      rcases Nat.mul_eq_zero.1 h with h | h <;> omega
    simp [Builtin.append_, run_underlying ht, run_underlying hu, sizeOf, typeInfo, zeroValue, hi, hz, asInt, asIntOf, hw, hneg, h48, hne, hroom, Addr.add_lit, hst]
theorem appendZ_step (R : Rel ren we ωe U O σ a w ω μ) {o : Oper} {t u e : TypeId} {k : IntKind} {s x : Operand} (hop : o.op = .call { callee := .builtin .append, args := #[s, x], argTypes := #[t, u] }) (ht : P.underlying t = some (.slice e)) (hu : P.underlying u = some (.int k)) {sz : Nat} (hsz : sizeT P e = some sz) {i : TypeInfo} (hi : P.info? e = some i) {z : List V} (hz : zeroC P e = some z) (hpos : 0 < sz) (hzl : z.length = sz)
    {ss sx : Src} {t1 t2 : TypeId} (h1 : cSrc P ren t1 s = some ss) (h2 : cSrc P ren t2 x = some sx) {nb : Nat} {cb : CB} {pin : Bool} {σ' : St} (h : stepK cb nb σ o.dst pin (.appendZ sz i.bytes (z.map V.dem) ss sx) = some σ') : StepOk P ren we ωe U O a w o σ' nb μ := by
  obtain ⟨i', zv, hi', hzv, hcz⟩ := zeroC_rep (ren := ren) (w := w) (Wr := wr U ω) hz
  rw [hi] at hi'; cases hi'
  obtain ⟨i2, hi2, e2⟩ := sizeT_info hsz
  rw [hi] at hi2; cases hi2
  have hzs : zv.cells.size = sz := by have := hcz.1; simp at this; omega
  simp only [stepK] at h
  split at h
  · rename_i sz1 es n hg hv
    split at h
    · rename_i hc
      obtain ⟨c1, c0, c3, c4⟩ := hc
      have c1 := c1.symm
      subst c1
      split at h
      · cases h
      · obtain ⟨k', ex⟩ := (R.opnd h2).int hv
        obtain ⟨m, rfl⟩ : ∃ m : Nat, n = m := ⟨n.toNat, by omega⟩
        simp only [Int.toNat_natCast] at c3 c4 h
        unfold sizeCap at c3 c4
        have hd := dem_cells hcz
        have hzl' : (z.map V.dem).length = sz := by simp [hzl]
        have hlen : (List.replicate m (z.map V.dem)).length = m := by simp
        have hmb : m * i.bytes ≤ 140737488355328 := Nat.le_trans (Nat.mul_le_mul_right _ (by omega)) c3
        have hrng : (List.range (m * sz)).map (fun j => zv.cells[j % zv.cells.size]!) = (Builtin.zeroCells zv.cells m).toList := by
          simp [Builtin.zeroCells, hzs]
        have H2 : ∀ (j : Nat) (v : V), (List.replicate m (z.map V.dem)).flatten[j]? = some v → (zv.cells[j % zv.cells.size]!).oneCell' = true ∧ RepP ren w (wr U ω) v (zv.cells[j % zv.cells.size]!) := by
          intro j v hv
          obtain ⟨u, g1, g2, g3⟩ := zeros_cells hd m (m * sz) (by rw [hzl']; exact Nat.le_refl _) (by omega) j v hv
          have hj : j < m * sz := by have := (Array.getElem?_eq_some_iff.1 g1).1; simpa using this
          simp [hj] at g1
          subst g1
          exact ⟨by simpa using g2, by simpa using g3⟩
        have hone : ∀ u ∈ (Builtin.zeroCells zv.cells m).toList, u.oneCell' = true := by
          intro u hu
          rw [← hrng] at hu
          simp only [List.mem_map, List.mem_range] at hu
          obtain ⟨j, hj, rfl⟩ := hu
          have hfl : (List.replicate m (z.map V.dem)).flatten.length = m * sz := by simp [hzl]
          exact (H2 j _ (List.getElem?_eq_getElem (by omega))).1
        refine append_core R hop (e := e) (i := i) (zv := zv) e2 hzs h1 (es2 := List.replicate m (z.map V.dem)) hg (fun x hx => by rw [List.eq_of_mem_replicate hx]; exact hzl') (f2 := fun j => zv.cells[j % zv.cells.size]!) H2 h
          (fun A sLen sCap olds q1 q2 q3 q4 q5 => ?_) (fun he A => ?_) (fun g sCap sLen cur Ty q1 q2 q3 => ?_)
        · rw [ex]
          simp only [hlen] at q3 ⊢
          rw [hrng]
          have hm : 0 < m := by omega
          simpa using run_appendZ_grows (P := P) (w := w) (ty := o.type) (k' := k') ht hu hi hzv (by omega) (A := A) q1 q2 q3 (by rw [q4]; exact c3) (by rw [q4]; exact c4) hm
        · rw [ex]
          have hm : m = 0 := by
            have := congrArg List.length he
            simpa using this
          subst hm
          have hw0 : IntKind.wrap .i64 0 = 0 := rfl
          cases A <;> simp [hw0, Builtin.append_, run_underlying ht, run_underlying hu, sizeOf, typeInfo, hi, asInt, asIntOf, storeCells]
        · rw [ex]
          simp only [hlen] at q2 q3 ⊢
          rw [hrng] at q3 ⊢
          exact run_appendZ_fits (P := P) (w := w) (ty := o.type) (k' := k') ht hu hi hzv (by omega) (by omega) q1 hone q2 q3 hmb (by omega)
    · cases h
  · cases h
end Go.Proofs.Ythplooifbkopgaa
