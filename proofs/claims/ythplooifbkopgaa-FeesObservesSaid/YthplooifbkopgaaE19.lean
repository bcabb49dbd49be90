/- Calls: the state behind a call; the operation 'call'. -/
import Derived.Test.YthplooifbkopgaaE18
namespace Go.Proofs.Ythplooifbkopgaa
set_option linter.unusedVariables false
set_option linter.unusedSimpArgs false
variable {ren : Nat → Option Nat} {we : World} {ωe : Nat → Ow} {U : Nat → Nat → Prop} {O : Nat → Prop} {σ : St} {a : Act} {w : World} {ω : Nat → Ow} {μ : Nat → Nat} {P : Program}

theorem giveBack_other (g : Nat → Nat) : ∀ (ids : List Nat) (bor : Bor) (b : List B) (id : Nat), id ∉ ids → (giveBack g ids bor b)[id]? = b[id]?
  | [], bor, b, id, h => by cases bor <;> rfl
  | i0 :: ids, [], b, id, h => rfl
  | i0 :: ids, x :: bor, b, id, h => by
    unfold giveBack
    rw [giveBack_other g ids bor _ id (fun hm => h (by simp [hm]))]
    exact List.getElem?_set_ne (fun e => h (by simp [e]))
theorem giveBack_at (g : Nat → Nat) : ∀ (ids : List Nat) (bor : Bor) (b : List B) (i id : Nat) (x : B), ids.Nodup → ids[i]? = some id → bor[i]? = some x → id < b.length → (giveBack g ids bor b)[id]? = some (x.ren g)
  | [], bor, b, i, id, x, hn, h1, h2, h3 => by simp at h1
  | i0 :: ids, [], b, i, id, x, hn, h1, h2, h3 => by simp at h2
  | i0 :: ids, x0 :: bor, b, i, id, x, hn, h1, h2, h3 => by
    unfold giveBack
    rw [List.nodup_cons] at hn
    cases i with
    | zero =>
      simp at h1 h2
      subst h2
      subst h1
      rw [giveBack_other g ids bor _ _ hn.1]
      exact List.getElem?_set_self h3
    | succ i => exact giveBack_at g ids bor _ i id x hn.2 (by simpa using h1) (by simpa using h2) (by simpa using h3)

def back (ids : List Nat) (T : Nat) : Ow → Ow
  | .blk i => if i < ids.length then .blk (ids.getD i 0) else .no
  | .gs (.cell i j) h => if i < ids.length then .gs (.cell (ids.getD i 0) j) h else .no
  | .gs (.slot 0 j) h => .gs (.slot T j) h
  | _ => .no
def ωOut (ids ids' : List Nat) (T : Nat) (w : World) (ω ω' : Nat → Ow) (k : Nat) : Ow :=
  if k < w.heap.size then match ωIn ids ω k with | .no => ω k | _ => back ids' T (ω' k) else back ids' T (ω' k)
def owr : Ow → Nat → Prop
  | .no, _ => False
  | .gs _ h, o => h ≤ o
  | .blk _, _ => True
theorem wr_owr (U : Nat → Nat → Prop) (ω : Nat → Ow) (k o : Nat) : wr U ω k o ↔ U k o ∨ owr (ω k) o := by
  unfold wr owr
  cases ω k <;> exact Iff.rfl
theorem back_wr {ids : List Nat} {T : Nat} {x : Ow} {o : Nat} (h : owr (back ids T x) o) : owr x o := by
  cases x with
  | no => exact h
  | blk i => trivial
  | gs l hh =>
    cases l with
    | slot t j =>
      cases t with
      | zero => exact h
      | succ t => exact h.elim
    | cell i j =>
      simp only [back] at h
      by_cases hi : i < ids.length
      · simp only [hi, if_true] at h; exact h
      · simp only [hi, if_false] at h; exact h.elim
theorem ωOut_cases (ids ids' : List Nat) (T : Nat) (w : World) (ω ω' : Nat → Ow) (k : Nat) : (k < w.heap.size ∧ ωIn ids ω k = .no ∧ ωOut ids ids' T w ω ω' k = ω k) ∨ ((w.heap.size ≤ k ∨ ωIn ids ω k ≠ .no) ∧ ωOut ids ids' T w ω ω' k = back ids' T (ω' k)) := by
  unfold ωOut
  by_cases hk : k < w.heap.size
  · rw [if_pos hk]
    cases h : ωIn ids ω k with
    | no => exact .inl ⟨hk, rfl, rfl⟩
    | blk i => exact .inr ⟨.inr (by simp), rfl⟩
    | gs l hh => exact .inr ⟨.inr (by simp), rfl⟩
  · rw [if_neg hk]; exact .inr ⟨.inl (by omega), rfl⟩

theorem sameKind_spec : ∀ {l m : Bor}, sameKind l m = true → ∀ (i : Nat) (x y : B), l[i]? = some x → m[i]? = some y → x.isMp = y.isMp
  | [], [], _, i, x, y, hx, _ => by simp at hx
  | [], _ :: _, h, _, _, _, _, _ => by simp [sameKind] at h
  | _ :: _, [], h, _, _, _, _, _ => by simp [sameKind] at h
  | a :: l, b :: m, h, i, x, y, hx, hy => by
    simp only [sameKind, Bool.and_eq_true, beq_iff_eq] at h
    cases i with
    | zero => simp at hx hy; subst hx; subst hy; exact h.1
    | succ i => exact sameKind_spec h.2 i x y (by simpa using hx) (by simpa using hy)
theorem nontup {r : V} (h : ∀ vs, r ≠ .tup vs) : (∀ g, renR g r = renV g r) ∧ noRef r = noRef1 r ∧ refsR r = refsOf r := by
  cases r <;> first | exact ⟨fun _ => rfl, rfl, rfl⟩ | exact absurd rfl (h _)
/-- the state behind a call -/
theorem Rel.leave (R : Rel ren we ωe U O σ a w ω μ) {ids xs : List Nat} (hn : (ids ++ xs).Nodup) (hxs : ∀ x ∈ xs, σ.b[x]? = some .gone) {bor bor' : Bor} (hl : lendAll σ.b ids ids = some bor) {r : V} {u : Value} {w' : World} {ω' : Nat → Ow} {μ' : Nat → Nat}
    (Rc : Rel ren w (ωIn ids ω) (UIn U ids ω) (OIn ids ω) ⟨[r], bor'.map toB⟩ ⟨#[u], []⟩ w' ω' μ') (hμ : ∀ k, k < bor.length → μ' k = μ (ids.getD k 0)) (hlen : (bor'.take ids.length).map B.len = bor.map B.len) (hlen' : bor'.length = (ids ++ xs).length)
    (hlend : bor'.all (B.lend (List.range (ids ++ xs).length)) = true) (hr : noRef r = true) (hrr : (refsR r).all (fun k => decide (k < (ids ++ xs).length)) = true) (hkind : sameKind (bor'.take ids.length) bor = true) (hrow : (bor'.drop ids.length).all B.isRow = true) :
    ∃ ω2 μ2, Rel ren we ωe U O { σ with b := giveBack (fun k => (ids ++ xs).getD k 0) (ids ++ xs) bor' σ.b } a w' ω2 μ2 ∧ Rep ren (env U { σ with b := giveBack (fun k => (ids ++ xs).getD k 0) (ids ++ xs) bor' σ.b } w' ω2 μ2) (.slot σ.t.length 0) (renR (fun k => (ids ++ xs).getD k 0) r) u ∧ ∀ k, k ∉ xs → μ2 k = μ k := by
  obtain ⟨hbl, hbor⟩ := lendAll_spec ids bor hl
  have hw := R.wrIn_eq ids
  obtain ⟨ids', hids'⟩ : ∃ ids', ids' = ids ++ xs := ⟨_, rfl⟩
  rw [← hids'] at hn hlen' hlend hrr ⊢
  have hidsl : ids.length ≤ ids'.length := by rw [hids']; simp
  have hat1 : ∀ i, i < ids.length → ids'[i]? = ids[i]? := fun i hi => by rw [hids', List.getElem?_append_left hi]
  have hat2 : ∀ i, ids.length ≤ i → ids'[i]? = xs[i - ids.length]? := fun i hi => by rw [hids', List.getElem?_append_right hi]
  have hgetD : ∀ i id, ids'[i]? = some id → ids'.getD i 0 = id := fun i id h => by rw [List.getD_eq_getElem?_getD, h]; rfl
  obtain ⟨μ2, hμ2⟩ : ∃ μ2 : Nat → Nat, μ2 = fun id => if xs.contains id then μ' (idxIn ids' id) else μ id := ⟨_, rfl⟩
  have hμno : ∀ k, k ∉ xs → μ2 k = μ k := by
    intro k hk
    have : xs.contains k = false := by simpa using hk
    rw [hμ2]; simp only [this, Bool.false_eq_true, if_false]
  have hnx : ∀ id, id ∈ ids → id ∉ xs := by
    intro id h1 h2
    rw [hids', List.nodup_append] at hn
    exact hn.2.2 id h1 id h2 rfl
  have hμat : ∀ i id, ids'[i]? = some id → μ2 id = μ' i := by
    intro i id h
    by_cases hi : i < ids.length
    · have h1 : ids[i]? = some id := by rw [← hat1 i hi]; exact h
      rw [hμno id (hnx id (List.mem_of_getElem? h1)), hμ i (by rw [hbl]; exact hi), List.getD_eq_getElem?_getD, h1]; rfl
    · have h1 : xs[i - ids.length]? = some id := by rw [← hat2 i (by omega)]; exact h
      have : xs.contains id = true := by simpa using List.mem_of_getElem? h1
      rw [hμ2]; simp only [this, if_true]
      rw [idxIn_at hn h]
  generalize hσ2 : ({ σ with b := giveBack (fun k => ids'.getD k 0) ids' bor' σ.b } : St) = σ2
  have hσ2b : σ2.b = giveBack (fun k => ids'.getD k 0) ids' bor' σ.b := by rw [← hσ2]
  have hσ2t : σ2.t = σ.t := by rw [← hσ2]
  -- blocks that come back
  have hk2 := sameKind_spec hkind
  have hlent : ∀ (i id : Nat), ids'[i]? = some id → ∃ y, bor'[i]? = some y ∧ σ2.b[id]? = some (y.ren (fun k => ids'.getD k 0)) ∧ y.lend (List.range ids'.length) = true ∧
      (σ.b[id]? = some .gone ∨ (∃ p cs p' cs', σ.b[id]? = some (.live p cs) ∧ y = .live p' cs' ∧ cs'.length = cs.length) ∨ (∃ es es', σ.b[id]? = some (.mp es) ∧ y = .mp es') ∨ (∃ p cs, σ.b[id]? = some (.live p cs) ∧ y = .dead cs.length)) := by
    intro i id hi
    have hib : i < bor'.length := by rw [hlen']; exact (List.getElem?_eq_some_iff.1 hi).1
    have hbi : bor'[i]? = some bor'[i] := List.getElem?_eq_getElem hib
    have hy := List.all_eq_true.1 hlend _ (List.mem_of_getElem? hbi)
    generalize hyy : bor'[i] = y at hbi hy
    by_cases hil : i < ids.length
    · have hi1 : ids[i]? = some id := by rw [← hat1 i hil]; exact hi
      have hbt : (bor'.take ids.length)[i]? = some y := by rw [List.getElem?_take, if_pos hil]; exact hbi
      have e1 : ((bor'.take ids.length).map B.len)[i]? = some y.len := by rw [List.getElem?_map, hbt]; rfl
      rw [hlen, List.getElem?_map] at e1
      rcases hbor i id hi1 with ⟨p, cs, g1, g2, g3⟩ | ⟨es, g1, g2⟩
      · refine ⟨y, hbi, ?_, hy, ?_⟩
        · rw [hσ2b]; exact giveBack_at _ ids' bor' σ.b i id y hn hi hbi (List.getElem?_eq_some_iff.1 g1).1
        · have hm := hk2 i _ _ hbt g2
          rw [g2] at e1
          simp only [Option.map_some, Option.some.injEq] at e1
          have e1' : cs.length = y.len := by rw [← e1]; cases p <;> simp [B.len]
          cases y with
          | gone => simp [B.lend] at hy
          | fz _ => simp [B.lend] at hy
          | mp _ => simp [B.isMp] at hm
          | live p' cs' => exact .inr (.inl ⟨p, cs, p', cs', g1, rfl, e1'.symm⟩)
          | dead n => exact .inr (.inr (.inr ⟨p, cs, g1, by rw [e1']; rfl⟩))
      · refine ⟨y, hbi, ?_, hy, ?_⟩
        · rw [hσ2b]; exact giveBack_at _ ids' bor' σ.b i id y hn hi hbi (List.getElem?_eq_some_iff.1 g1).1
        · have hm := hk2 i _ _ hbt g2
          cases y with
          | gone => simp [B.lend] at hy
          | fz _ => simp [B.lend] at hy
          | mp es' => exact .inr (.inr (.inl ⟨es, es', g1, rfl⟩))
          | live p' cs' => simp [B.isMp] at hm
          | dead n => simp [B.isMp] at hm
    · have hi2 : xs[i - ids.length]? = some id := by rw [← hat2 i (by omega)]; exact hi
      have g1 := hxs id (List.mem_of_getElem? hi2)
      refine ⟨y, hbi, ?_, hy, .inl g1⟩
      rw [hσ2b]; exact giveBack_at _ ids' bor' σ.b i id y hn hi hbi (List.getElem?_eq_some_iff.1 g1).1
  have hother : ∀ id, id ∉ ids' → σ2.b[id]? = σ.b[id]? := fun id h => by rw [hσ2b]; exact giveBack_other _ _ _ _ _ h
  have hblen : ∀ id L, blen σ.b id = some L → blen σ2.b id = some L ∧ id ∉ xs := by
    intro id L hL
    have hnotx : id ∉ xs := by
      intro hx
      simp [blen, hxs id hx] at hL
    refine ⟨?_, hnotx⟩
    by_cases hid : id ∈ ids'
    · obtain ⟨h1, h2⟩ := idxIn_get hid
      obtain ⟨y, g2, g3, _, g4⟩ := hlent _ _ h2
      rcases g4 with g4 | ⟨p, cs, p', cs', g4, rfl, g5⟩ | ⟨es, es', g4, rfl⟩ | ⟨p, cs, g4, rfl⟩
      · simp [blen, g4] at hL
      · simp only [blen, g4, Option.some.injEq] at hL
        unfold blen; rw [g3]
        cases p' <;> simp [B.ren, g5, hL]
      · simp only [blen, g4, Option.some.injEq] at hL
        unfold blen; rw [g3]
        simp [B.ren, hL]
      · simp only [blen, g4, Option.some.injEq] at hL
        unfold blen; rw [g3]
        simp [B.ren, hL]
    · unfold blen at hL ⊢; rw [hother id hid]; exact hL
  -- frames
  have hst : ∀ k o x, ¬ wr U ω k o → w.cell? ⟨k, o, none⟩ = some x → ¬ wr U (ωOut ids ids' σ.t.length w ω ω') k o ∧ w'.cell? ⟨k, o, none⟩ = some x := by
    intro k o x h1 h2
    have h1' : ¬ wr (UIn U ids ω) (ωIn ids ω) k o := by rw [hw]; exact h1
    obtain ⟨q1, q2⟩ := Rc.fr k o x h1' h2
    refine ⟨fun hwr => ?_, q2⟩
    rw [wr_owr] at hwr
    rcases hwr with hu | hh
    · exact h1 (.inl hu)
    · rcases ωOut_cases ids ids' σ.t.length w ω ω' k with ⟨_, _, e⟩ | ⟨_, e⟩
      · rw [e] at hh; exact h1 ((wr_owr _ _ _ _).2 (.inr hh))
      · rw [e] at hh; exact q1 ((wr_owr _ _ _ _).2 (.inr (back_wr hh)))
  have F : Fr (env U σ w ω μ) (env U σ2 w' (ωOut ids ids' σ.t.length w ω ω') μ2) :=
    ⟨hst, fun id L hL => ⟨(hblen id L hL).1, hμno id (hblen id L hL).2, Rc.rs _⟩⟩
  -- from the function's frame into ours
  have hout : ∀ k o x, ¬ wr (UIn U ids ω) ω' k o → w'.cell? ⟨k, o, none⟩ = some x → ¬ wr U (ωOut ids ids' σ.t.length w ω ω') k o ∧ w'.cell? ⟨k, o, none⟩ = some x := by
    intro k o x h1 h2
    refine ⟨fun hwr => ?_, h2⟩
    rcases ωOut_cases ids ids' σ.t.length w ω ω' k with ⟨hk, hno, e⟩ | ⟨hk, e⟩
    · unfold wr at hwr
      rw [e] at hwr
      exact h1 (.inl ⟨hwr, hno⟩)
    · rw [wr_owr] at hwr
      rcases hwr with hu | hh
      · have hklt := (R.ul _ _ hu).1
        rcases hk with hk | hk
        · have := R.kp.size; omega
        · exact R.noU (ωIn_no hk) o hu
      · rw [e] at hh; exact h1 ((wr_owr _ _ _ _).2 (.inr (back_wr hh)))
  have hgapart : ∀ l β h, ω β = .gs l h → ωIn ids ω β = .no → ωOut ids ids' σ.t.length w ω ω' β = .gs l h ∧ w'.heap[β]? = w.heap[β]? := by
    intro l β h e hno
    have hlt := (R.ow β (by rw [e]; simp)).2
    refine ⟨?_, Rc.kp.block β hlt (fun ho => ho hno)⟩
    rcases ωOut_cases ids ids' σ.t.length w ω ω' β with ⟨_, _, e'⟩ | ⟨hk, _⟩
    · rw [e']; exact e
    · rcases hk with hk | hk
      · omega
      · exact absurd hno hk
  have hown' : ∀ k, ω' k ≠ .no → w.heap.size ≤ k ∨ ωIn ids ω k ≠ .no := fun k hk => (Rc.ow k hk).1
  have hback : ∀ k x, ω' k = x → x ≠ .no → ωOut ids ids' σ.t.length w ω ω' k = back ids' σ.t.length x := by
    intro k x e hx
    rcases ωOut_cases ids ids' σ.t.length w ω ω' k with ⟨h1, h2, _⟩ | ⟨_, e'⟩
    · rcases hown' k (by rw [e]; exact hx) with h | h
      · omega
      · exact absurd h2 h
    · rw [e', e]
  have hidT : ∀ i, i < ids'.length → ∀ L, blen (bor'.map toB) i = some L → blen σ2.b (ids'.getD i 0) = some L ∧ μ2 (ids'.getD i 0) = μ' i := by
    intro i hil L hL
    have hgi : ids'[i]? = some ids'[i] := List.getElem?_eq_getElem hil
    obtain ⟨y, r2, r3, _, _⟩ := hlent i _ hgi
    rw [hgetD i _ hgi]
    refine ⟨?_, hμat i _ hgi⟩
    unfold blen at hL ⊢
    rw [List.getElem?_map, r2] at hL
    rw [r3]
    simp only [Option.map_some, toB] at hL
    cases y with
    | gone => cases hL
    | live p cs => simp only [Option.some.injEq] at hL; cases p <;> simp [B.ren, hL]
    | fz cs => simpa [B.ren] using hL
    | mp es => simpa [B.ren] using hL
    | dead n => simpa [B.ren] using hL
  have hnotin : ∀ id, id ∉ ids' → ids.contains id = false := by
    intro id h
    have : id ∉ ids := fun hm => h (by rw [hids']; simp [hm])
    simpa using this
  refine ⟨ωOut ids ids' σ.t.length w ω ω', μ2, R.step F hσ2t (fun t j β h ht e => hgapart _ β h e (by unfold ωIn; rw [e])) (fun id p cs hb hne => ?_) (fun id cs hb => ?_) (fun id es hb => ?_) Rc.kp (fun k hk ho => ?_) (fun k hk => ?_) Rc.rs, ?_, hμno⟩
  · by_cases hid : id ∈ ids'
    · right
      obtain ⟨h1, h2⟩ := idxIn_get hid
      obtain ⟨y0, g2, g3, hal, g4⟩ := hlent _ _ h2
      rw [g3] at hb
      obtain ⟨p', cs', rfl⟩ : ∃ p' cs', y0 = .live p' cs' := by
        cases y0 with
        | live p' cs' => exact ⟨p', cs', rfl⟩
        | gone => simp [B.ren] at hb
        | fz _ => simp [B.ren] at hb
        | mp _ => simp [B.ren] at hb
        | dead _ => simp [B.ren] at hb
      simp only [B.ren, Option.some.injEq, B.live.injEq] at hb
      obtain ⟨hbp, hbc⟩ := hb
      subst hbp
      subst hbc
      have hmu : μ2 id = μ' (idxIn ids' id) := hμat _ _ h2
      have hne' : cs' ≠ [] := by rintro rfl; cases p' <;> simp at hne
      obtain ⟨e0, arr, T, e1, e2, e3⟩ := Rc.live (id := idxIn ids' id) (p := p') (cs := cs') (by simp only [List.getElem?_map, g2, Option.map_some]; rfl) hne'
      rw [hmu]
      refine ⟨?_, arr, T, e1, by cases p' <;> simp [e2], fun j c hc => ?_⟩
      · rw [hback _ _ e0 (by simp)]
        simp only [back, h1, if_true]
        rw [hgetD _ _ h2]
      · cases p' with
        | true =>
          simp at hc
          obtain ⟨x, q1, q2, q3, q4⟩ := e3 j c hc
          exact ⟨x, q1, q2, fun _ => (q3 rfl).mono hout, .pure ((q3 rfl).mono hout)⟩
        | false =>
          simp only [Bool.false_eq_true, if_false, List.getElem?_map] at hc
          cases hcj : cs'[j]? with
          | none => simp [hcj] at hc
          | some c0 =>
            simp [hcj] at hc; subst hc
            obtain ⟨x, q1, q2, q3, q4⟩ := e3 j c0 hcj
            simp only [B.lend, Bool.false_or] at hal
            obtain ⟨f1, f3⟩ := lendable_facts (List.all_eq_true.1 hal c0 (List.mem_of_getElem? hcj))
            refine ⟨x, q1, q2, by simp, q4.move (E' := env U σ2 w' (ωOut ids ids' σ.t.length w ω ω') μ2) (l' := .cell id j) hout (fun k => ids'.getD k 0) (fun i hi L hL => hidT i (by simpa using f1 i hi) L hL) (fun β hh e => ⟨?_, rfl⟩) (fun k => Nat.le_refl _) f3⟩
            have e : ω' β = .gs (.cell (idxIn ids' id) j) hh := e
            show ωOut ids ids' σ.t.length w ω ω' β = _
            rw [hback _ _ e (by simp)]
            simp only [back, h1, if_true]
            rw [hgetD _ _ h2]
    · left
      rw [hother id hid] at hb
      obtain ⟨e0, arr, T, e1, _⟩ := R.live hb hne
      have hcont := hnotin id hid
      have hno : ωIn ids ω (μ id) = .no := by unfold ωIn; rw [e0]; simp only [hcont, Bool.false_eq_true, if_false]
      have hlt := (R.ow (μ id) (by rw [e0]; simp)).2
      refine ⟨hb, ?_, Rc.kp.block _ hlt (fun ho => ho hno), fun j β h e => hgapart _ β h e (by unfold ωIn; rw [e]; simp only [hcont, Bool.false_eq_true, if_false])⟩
      rcases ωOut_cases ids ids' σ.t.length w ω ω' (μ id) with ⟨_, _, e'⟩ | ⟨hk, _⟩
      · rw [e']; exact e0
      · rcases hk with hk | hk
        · omega
        · exact absurd hno hk
  · have hid : id ∉ ids' := by
      intro hid
      obtain ⟨h1, h2⟩ := idxIn_get hid
      obtain ⟨y0, g2, g3, hal, g4⟩ := hlent _ _ h2
      rw [g3] at hb
      cases y0 with
      | fz _ => simp [B.lend] at hal
      | live p' cs' => simp [B.ren] at hb
      | gone => simp [B.ren] at hb
      | mp _ => simp [B.ren] at hb
      | dead _ => simp [B.ren] at hb
    left
    rw [hother id hid] at hb
    obtain ⟨e0, arr, T, fr, e1, e2, e3⟩ := R.fs id cs hb
    have hlt : μ id < w.heap.size := (Array.getElem?_eq_some_iff.1 e1).1
    have hωno : ωIn ids ω (μ id) = .no ∨ ωIn ids ω (μ id) ≠ .no := by
      cases ωIn ids ω (μ id) <;> simp
    have hno : ωIn ids ω (μ id) = .no := by
      rcases hωno with h | h
      · exact h
      · exfalso
        have hne := ωIn_no h
        cases hω : ω (μ id) with
        | no => exact hne hω
        | blk i => exact e0 0 (.inr (by rw [hω]; trivial))
        | gs l hh => exact e0 hh (.inr (by rw [hω]; exact Nat.le_refl _))
    refine ⟨hb, fun o ho => e0 o ?_, Rc.kp.block _ hlt (fun ho => ho hno)⟩
    rcases ωOut_cases ids ids' σ.t.length w ω ω' (μ id) with ⟨_, _, e'⟩ | ⟨hk, _⟩
    · unfold wr at ho ⊢; rw [e'] at ho; exact ho
    · rcases hk with hk | hk
      · omega
      · exact absurd hno hk
  · by_cases hid : id ∈ ids'
    · right
      obtain ⟨h1, h2⟩ := idxIn_get hid
      obtain ⟨y0, g2, g3, hal, g4⟩ := hlent _ _ h2
      rw [g3] at hb
      obtain ⟨es', rfl⟩ : ∃ es', y0 = .mp es' := by
        cases y0 with
        | mp es' => exact ⟨es', rfl⟩
        | live p' cs' => simp [B.ren] at hb
        | gone => simp [B.ren] at hb
        | fz _ => simp [B.ren] at hb
        | dead _ => simp [B.ren] at hb
      simp only [B.ren, Option.some.injEq, B.mp.injEq] at hb
      subst hb
      have hmu : μ2 id = μ' (idxIn ids' id) := hμat _ _ h2
      obtain ⟨e0, arr, clock, e1, e2⟩ := Rc.ms (idxIn ids' id) es' (by simp only [List.getElem?_map, g2, Option.map_some]; rfl)
      rw [hmu]
      refine ⟨?_, arr, clock, e1, e2.mono hout⟩
      rw [hback _ _ e0 (by simp)]
      simp only [back, h1, if_true]
      rw [hgetD _ _ h2]
    · left
      rw [hother id hid] at hb
      obtain ⟨e0, arr, clock, e1, _⟩ := R.ms id es hb
      have hcont := hnotin id hid
      have hno : ωIn ids ω (μ id) = .no := by unfold ωIn; rw [e0]; simp only [hcont, Bool.false_eq_true, if_false]
      have hlt := (R.ow (μ id) (by rw [e0]; simp)).2
      refine ⟨hb, ?_, Rc.kp.block _ hlt (fun ho => ho hno)⟩
      rcases ωOut_cases ids ids' σ.t.length w ω ω' (μ id) with ⟨_, _, e'⟩ | ⟨hk, _⟩
      · rw [e']; exact e0
      · rcases hk with hk | hk
        · omega
        · exact absurd hno hk
  · have hne := ωIn_no ho
    rcases (R.ow k hne).1 with h | h
    · omega
    · exact h
  · rcases ωOut_cases ids ids' σ.t.length w ω ω' k with ⟨h1, h2, e⟩ | ⟨h1, e⟩
    · rw [e] at hk
      exact ⟨(R.ow k hk).1, Nat.lt_of_lt_of_le (R.ow k hk).2 Rc.kp.size⟩
    · rw [e] at hk
      have hk' : ω' k ≠ .no := by intro e'; rw [e'] at hk; exact hk rfl
      have := Rc.ow k hk'
      refine ⟨?_, this.2⟩
      rcases h1 with h | h
      · exact .inl (Nat.le_trans R.kp.size h)
      · exact (R.ow k (ωIn_no h)).1
  · have hr0 : Rep ren (env (UIn U ids ω) ⟨[r], bor'.map toB⟩ w' ω' μ') (.slot 0 0) r u := Rc.ts 0 r rfl
    have one : ∀ (v : V) (x : Value) (j : Nat), noRef1 v = true → (∀ k ∈ refsOf v, k < ids'.length) → Rep ren (env (UIn U ids ω) ⟨[r], bor'.map toB⟩ w' ω' μ') (.slot 0 j) v x → Rep ren (env U σ2 w' (ωOut ids ids' σ.t.length w ω ω') μ2) (.slot σ.t.length j) (renV (fun k => ids'.getD k 0) v) x := by
      intro v x j hv hrf hx
      exact hx.move (E' := env U σ2 w' (ωOut ids ids' σ.t.length w ω ω') μ2) (l' := .slot σ.t.length j) hout (fun k => ids'.getD k 0) (fun id hid L hL => hidT id (hrf id hid) L hL) (fun β hh e => ⟨by
        have e : ω' β = .gs (.slot 0 j) hh := e
        show ωOut ids ids' σ.t.length w ω ω' β = _
        rw [hback _ _ e (by simp)]; rfl, rfl⟩) (fun k => Nat.le_refl _) (noRef1_tup hv)
    have hrf : ∀ k ∈ refsR r, k < ids'.length := fun k hk => of_decide_eq_true (List.all_eq_true.1 hrr k hk)
    by_cases hnt : ∀ vs, r ≠ .tup vs
    · obtain ⟨t1, t2, t3⟩ := nontup hnt
      rw [t1]
      rw [t2] at hr
      rw [t3] at hrf
      exact one r u 0 hr hrf hr0
    · obtain ⟨vs, rfl⟩ : ∃ vs, r = .tup vs := by
        refine Classical.byContradiction fun hc => hnt fun vs e => hc ⟨vs, e⟩
      obtain ⟨us, e, hl, hel⟩ := hr0.tup_inv
      rw [e]
      refine .tup _ us (by simpa using hl) (fun j v x hv hx => ?_)
      rw [List.getElem?_map] at hv
      cases hvj : vs[j]? with
      | none => simp [hvj] at hv
      | some v0 =>
        simp [hvj] at hv; subst hv
        have hv1 : noRef1 v0 = true := List.all_eq_true.1 hr v0 (List.mem_of_getElem? hvj)
        exact one v0 x (j + 1) hv1 (fun k hk => hrf k (by simp only [refsR, List.mem_flatMap]; exact ⟨v0, List.mem_of_getElem? hvj, hk⟩)) (hel j v0 x hvj hx)
end Go.Proofs.Ythplooifbkopgaa
