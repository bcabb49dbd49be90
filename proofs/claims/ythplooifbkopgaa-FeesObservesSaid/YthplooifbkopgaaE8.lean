/- Operations of the abstract machine that only compute: slice expressions, equality of structs; all together. -/
import Derived.Test.YthplooifbkopgaaE7
import Derived.Laws.StructEq
namespace Go.Proofs.Ythplooifbkopgaa
set_option linter.unusedVariables false
set_option linter.unusedSimpArgs false
variable {ren : Nat → Option Nat} {we : World} {ωe : Nat → Ow} {U : Nat → Nat → Prop} {O : Nat → Prop} {σ : St} {a : Act} {w : World} {ω : Nat → Ow} {μ : Nat → Nat} {P : Program}

theorem bound_run (R : Rel ren we ωe U O σ a w ω μ) {ty : TypeId} {x : Option Operand} {s : Option Src} (h : cSrcO P ren ty x = some s) {d most n : Nat} (hb : bound σ s d most = some n) (code : BoundsCode) (most' : Nat) (hm : most ≤ most') :
    (x = none ∧ s = none ∧ n = d) ∨ (∃ y v, x = some y ∧ s.isSome = true ∧ a.eval y = v ∧ n ≤ most ∧ (Instr.sliceBound v most' code).run P w = .ok n w) := by
  cases x with
  | none => cases h; cases hb; exact .inl ⟨rfl, rfl, rfl⟩
  | some y =>
    cases hc : cSrc P ren ty y with
    | none => simp [cSrcO, hc] at h
    | some s' =>
      simp [cSrcO, hc] at h; subst h
      simp only [bound] at hb
      split at hb
      · rename_i i hi
        split at hb
        · rename_i hr
          cases hb
          obtain ⟨k, e⟩ := (R.opnd hc).int hi
          refine .inr ⟨y, _, rfl, rfl, rfl, by omega, ?_⟩
          rw [e]
          exact run_sliceBound w k i most' code hr.1 (by omega)
        · cases hb
      · cases hb
theorem bounds_run (R : Rel ren we ωe U O σ a w ω μ) {ty : TypeId} {lo hi mx : Option Operand} {slo shi smx : Option Src} (h1 : cSrcO P ren ty lo = some slo) (h2 : cSrcO P ren ty hi = some shi) (h3 : cSrcO P ren ty mx = some smx) (hmx : (mx.isSome && hi.isNone) = false)
    {len l h m : Nat} (hb : bounds σ len slo shi smx = some (l, h, m)) (isS : Bool) (cap : Nat) (hc : len ≤ cap) :
    ∃ m', (Instr.sliceBounds isS len cap (lo.map a.eval) (hi.map a.eval) (mx.map a.eval)).run P w = .ok (l, h, m') w ∧ l ≤ h ∧ h ≤ m ∧ m ≤ len ∧ h ≤ m' ∧ m' ≤ cap ∧ (smx.isSome = true → m' = m) ∧ (smx.isSome = false → m' = cap ∧ m = len) := by
  simp only [bounds, Option.bind_eq_bind, Option.bind_eq_some_iff, Option.pure_def, Option.some.injEq, Prod.mk.injEq] at hb
  obtain ⟨m0, hm, h0, hh, l0, hl, rfl, rfl, rfl⟩ := hb
  rcases bound_run R h3 hm (if isS then .slice3Acap else .slice3Alen) cap hc with ⟨rfl, rfl, rfl⟩ | ⟨my, mv, rfl, hms, rfl, hml, hmr⟩
  · rcases bound_run R h2 hh (if isS then .sliceAcap else .sliceAlen) cap hc with ⟨rfl, rfl, rfl⟩ | ⟨hy, hv, rfl, hhs, rfl, hhl, hhr⟩
    · rcases bound_run R h1 hl .sliceB _ (Nat.le_refl _) with ⟨rfl, rfl, rfl⟩ | ⟨ly, lv, rfl, hls, rfl, hll, hlr⟩
      · exact ⟨cap, by simp [Instr.sliceBounds], by omega, by omega, by omega, by omega, by omega, by simp, by simp⟩
      · exact ⟨cap, by simp [Instr.sliceBounds, hlr], by omega, by omega, by omega, by omega, by omega, by simp, by simp⟩
    · rcases bound_run R h1 hl .sliceB h0 (Nat.le_refl _) with ⟨rfl, rfl, rfl⟩ | ⟨ly, lv, rfl, hls, rfl, hll, hlr⟩
      · exact ⟨cap, by simp [Instr.sliceBounds, hhr], by omega, by omega, by omega, by omega, by omega, by simp, by simp⟩
      · exact ⟨cap, by simp [Instr.sliceBounds, hhr, hlr], by omega, by omega, by omega, by omega, by omega, by simp, by simp⟩
  · rcases bound_run R h2 hh .slice3B m0 (Nat.le_refl _) with ⟨rfl, rfl, rfl⟩ | ⟨hy, hv, rfl, hhs, rfl, hhl, hhr⟩
    · simp at hmx
    · rcases bound_run R h1 hl .slice3C h0 (Nat.le_refl _) with ⟨rfl, rfl, rfl⟩ | ⟨ly, lv, rfl, hls, rfl, hll, hlr⟩
      · exact ⟨m0, by simp [Instr.sliceBounds, hmr, hhr], by omega, by omega, by omega, by omega, by omega, by simp, by simp [hms]⟩
      · exact ⟨m0, by simp [Instr.sliceBounds, hmr, hhr, hlr], by omega, by omega, by omega, by omega, by omega, by simp, by simp [hms]⟩

theorem sliceS_ok (R : Rel ren we ωe U O σ a w ω μ) {o : Oper} {t : TypeId} {x : Operand} {lo hi mx : Option Operand} (hop : o.op = .slice t x lo hi mx) (hmx : (mx.isSome && hi.isNone) = false) {e : TypeId} {sz : Nat} (ht : P.underlying t = some (.slice e)) (hn : sizeT P e = some sz)
    {sx : Src} {slo shi smx : Option Src} {t1 t2 : TypeId} (h0 : cSrc P ren t1 x = some sx) (h1 : cSrcO P ren t2 lo = some slo) (h2 : cSrcO P ren t2 hi = some shi) (h3 : cSrcO P ren t2 mx = some smx)
    {v : V} (hp : pureK σ (.sliceS sz sx slo shi smx) = some v) : Gives P ren (env U σ w ω μ) a o v := by
  have hr := (R.opnd h0).dem R.hU (.slot 0 0)
  have run : ∀ A len c l h m', a.eval x = .slice A len c → (Instr.sliceBounds true len c (lo.map a.eval) (hi.map a.eval) (mx.map a.eval)).run P w = .ok (l, h, m') w →
      (execOp a.eval o).run P w = .ok (.value (.slice (if m' = l then A else A.map (·.add (l * sz))) (h - l) (m' - l))) w := by
    intro A len c l h m' e1 e2
    simp [execOp, hop, e1, Instr.sliceAt, Instr.slice, run_underlying ht, run_sizeOf hn, e2]
  simp only [pureK] at hp
  split at hp
  · rename_i sz' es hg
    rw [hg] at hr
    simp only [Option.bind_eq_bind, Option.bind_eq_some_iff] at hp
    obtain ⟨⟨l, h, m⟩, hb, hp⟩ := hp
    simp only at hp
    split at hp
    · rename_i hs
      cases hp
      subst hs
      obtain ⟨A, c, f, k, q, eu, hc, hsz, hA, hcell, g1, g2⟩ := hr.sl_pure.sl_inv
      obtain ⟨m', hrun, b1, b2, b3, b4, b5, b6, b7⟩ := bounds_run R h1 h2 h3 hmx hb true c hc
      refine ⟨_, run A es.length c l h m' eu hrun, fun lo' => ?_⟩
      split
      · rename_i hm
        have := b6 hm.1
        obtain rfl : m' = l := by omega
        obtain rfl : h = m' := by omega
        simp only [if_pos, Nat.sub_self]
        exact .fr0 _ _
      · have hlen : ((es.drop l).take (h - l)).length = h - l := by simp; omega
        have key := RepP.sl (ren := ren) (w := w) (Wr := wr U ω) sz ((es.drop l).take (h - l)) (if m' = l then A else A.map (·.add (l * sz))) (m' - l) (fun i => f (l * sz + i)) (by omega)
          (fun e he => hsz e (List.mem_of_mem_drop (List.mem_of_mem_take he))) k (q + l * sz)
          (fun hne => by
            have h1 : 0 < h - l := by rw [← hlen]; exact List.length_pos_iff.2 hne
            have h2 : es ≠ [] := by rintro rfl; simp at hne
            rw [if_neg (by omega), hA h2]
            simp [add_mk])
          (fun i v hv => by have := hcell _ _ (flat_seg hsz _ _ _ hv); rw [Nat.add_assoc]; exact this)
          (fun i v hv => g1 _ _ (flat_seg hsz _ _ _ hv)) (fun i v hv => g2 _ _ (flat_seg hsz _ _ _ hv))
        rw [hlen] at key
        exact .pure key
    · cases hp
  · rename_i id off len sz' hg
    rw [hg] at hr
    simp only [Option.bind_eq_bind, Option.bind_eq_some_iff] at hp
    obtain ⟨⟨l, h, m⟩, hb, hp⟩ := hp
    simp only at hp
    split at hp
    · rename_i hs
      cases hp
      subst hs
      obtain ⟨c, L, A, eu, hL, hl, hc, hA⟩ := hr.own_inv
      obtain ⟨hc, hz⟩ := hc
      obtain ⟨m', hrun, b1, b2, b3, b4, b5, b6, b7⟩ := bounds_run R h1 h2 h3 hmx hb true c hc
      refine ⟨_, run A len c l h m' eu hrun, fun lo' => ?_⟩
      cases hsm : smx.isSome with
      | true =>
        have hmm := b6 hsm
        simp only [if_true]
        by_cases hml : m = l
        · rw [if_pos hml]
          obtain rfl : m' = l := by omega
          obtain rfl : h = m' := by omega
          simp only [if_pos, Nat.sub_self]
          exact .fr0 _ _
        · rw [if_neg hml]; exact .junk
      | false =>
      simp only [Bool.false_eq_true, if_false]
      have hmul : l * sz + (h - l) * sz = h * sz := by rw [← Nat.add_mul]; congr 1; omega
      have hle : h * sz ≤ len * sz := Nat.mul_le_mul_right sz (by omega)
      refine .own id (off + l * sz) (h - l) sz (m' - l) L _ hL (by omega) ⟨by omega, fun h0 => by rcases hz h0 with q | q; exact .inl q; exact .inr (by omega)⟩ ?_
      rcases hA with ⟨e1, e2⟩ | ⟨e1, e2⟩
      · by_cases hml : m' = l
        · exact .inr ⟨by omega, by omega⟩
        · refine .inl ⟨by rw [if_neg hml, e1]; simp [add_mk], ?_⟩
          have hmul2 : l * sz + (m' - l) * sz = m' * sz := by rw [← Nat.add_mul]; congr 1; omega
          have hle2 : m' * sz ≤ c * sz := Nat.mul_le_mul_right sz (by omega)
          omega
      · exact .inr ⟨by omega, by omega⟩
    · cases hp
  · cases hp
theorem Rel.live_size (R : Rel ren we ωe U O σ a w ω μ) {id : Nat} {p : Bool} {cs : List V} (h : σ.b[id]? = some (.live p cs)) : blen σ.b id = some cs.length ∧ cs.length ≤ rsize w (μ id) := by
  rcases R.bs id p cs h with h0 | ⟨_, arr, T, g1, g2, _⟩
  · subst h0; exact ⟨by simp [blen, h], by simp⟩
  · exact ⟨by simp [blen, h], by simp [rsize, g1, g2]⟩
theorem Rel.fz_size (R : Rel ren we ωe U O σ a w ω μ) {id : Nat} {cs : List V} (h : σ.b[id]? = some (.fz cs)) : blen σ.b id = some cs.length ∧ cs.length ≤ rsize w (μ id) := by
  obtain ⟨_, arr, T, fr, g1, g2, _⟩ := R.fs id cs h
  exact ⟨by simp [blen, h], by simp [rsize, g1, g2]⟩
theorem sliceA_ok (R : Rel ren we ωe U O σ a w ω μ) {o : Oper} {t : TypeId} {x : Operand} {lo hi mx : Option Operand} (hop : o.op = .slice t x lo hi mx) (hmx : (mx.isSome && hi.isNone) = false) {e : TypeId} {n sz : Nat} (ht : P.underlying t = some (.array n e)) (hn : sizeT P e = some sz) (hpos : 0 < sz)
    {sx : Src} {slo shi smx : Option Src} {t1 t2 : TypeId} (h0 : cSrc P ren t1 x = some sx) (h1 : cSrcO P ren t2 lo = some slo) (h2 : cSrcO P ren t2 hi = some shi) (h3 : cSrcO P ren t2 mx = some smx)
    {v : V} (hp : pureK σ (.sliceA n sz sx slo shi smx) = some v) : Gives P ren (env U σ w ω μ) a o v := by
  have hr := R.opnd h0
  simp only [pureK, Option.bind_eq_bind, Option.bind_eq_some_iff] at hp
  obtain ⟨⟨l, h, m⟩, hb, hp⟩ := hp
  simp only at hp
  obtain ⟨m', hrun, b1, b2, b3, b4, b5, b6, b7⟩ := bounds_run R h1 h2 h3 hmx hb false n (Nat.le_refl n)
  have hmm : m' = m := by
    cases hs : smx.isSome with
    | true => exact b6 hs
    | false => have := b7 hs; omega
  subst hmm
  have run : ∀ k q, a.eval x = .pointer (some ⟨k, q, none⟩) → (execOp a.eval o).run P w = .ok (.value (.slice (some (if m' = l then ⟨k, q, none⟩ else ⟨k, q + l * sz, none⟩)) (h - l) (m' - l))) w := by
    intro k q e1
    simp [execOp, hop, e1, Instr.sliceAt, run_underlying ht, run_sizeOf hn, hrun, Instr.sureAddr, add_mk]
  have hmul : l * sz + (h - l) * sz = h * sz := by rw [← Nat.add_mul]; congr 1; omega
  have hle : h * sz ≤ n * sz := Nat.mul_le_mul_right sz (by omega)
  have hmul2 : l * sz + (m' - l) * sz = m' * sz := by rw [← Nat.add_mul]; congr 1; omega
  have hle2 : m' * sz ≤ n * sz := Nat.mul_le_mul_right sz (by omega)
  have own : ∀ id off L, sx.get σ = .ptr id off → blen σ.b id = some L → L ≤ rsize w (μ id) → off + n * sz ≤ L → (if m' = l then V.gs sz [] else .own id (off + l * sz) (h - l) sz) = v → Gives P ren (env U σ w ω μ) a o v := by
    intro id off L e1 e2 e3 e4 e5
    rw [e1] at hr
    obtain ⟨_, _, ex⟩ := hr.ptr_inv
    refine ⟨_, run _ _ ex, fun l' => ?_⟩
    subst e5
    by_cases hml : m' = l
    · obtain rfl : h = l := by omega
      subst hml
      simp only [if_true, Nat.sub_self]
      exact .pure (.nil _ _)
    · rw [if_neg hml, if_neg hml]
      have hn0 : sz ≤ n * sz := Nat.le_mul_of_pos_left sz (by omega)
      exact .own id (off + l * sz) (h - l) sz (m' - l) L _ e2 (by omega) ⟨by omega, fun h0 => by omega⟩ (.inl ⟨rfl, by show _ ≤ rsize w (μ id); omega⟩)
  split at hp
  · rename_i id off hg
    split at hp
    · rename_i p cs hbk
      split at hp
      · rename_i hfit
        obtain ⟨q1, q2⟩ := R.live_size hbk
        exact own id off _ hg q1 q2 hfit (by simpa using hp)
      · cases hp
    · rename_i cs hbk
      split at hp
      · rename_i hfit
        obtain ⟨q1, q2⟩ := R.fz_size hbk
        exact own id off _ hg q1 q2 hfit (by simpa using hp)
      · cases hp
    · cases hp
  · rename_i q cs hg
    rw [hg] at hr
    split at hp
    · rename_i hq
      cases hp
      obtain ⟨k, q', f, ex, hl, hcell, g1, g2⟩ := hr.fp_inv
      refine ⟨_, run _ _ ex, fun l' => ?_⟩
      have key := RepP.sl (ren := ren) (w := w) (Wr := wr U ω) sz (chunks sz (h - l) (cs.drop (l * sz))) (some (if m' = l then (⟨k, q', none⟩ : Addr) else ⟨k, q' + l * sz, none⟩)) (m' - l) (fun i => f (l * sz + i)) (by rw [chunks_length]; omega)
        (chunks_each _ _ _ (by simp; omega)) k (q' + l * sz)
        (fun hne => by
          have h1 : 0 < h - l := by rw [← chunks_length sz (h - l) (cs.drop (l * sz))]; exact List.length_pos_iff.2 hne
          rw [if_neg (by omega)])
      have seg : ∀ (i : Nat) (v : V), (chunks sz (h - l) (cs.drop (l * sz))).flatten[i]? = some v → cs[l * sz + i]? = some v := by
        intro i v hv
        rw [chunks_flatten, List.getElem?_take] at hv
        split at hv
        · rwa [List.getElem?_drop] at hv
        · cases hv
      have key := key (fun i v hv => by have := hcell _ _ (seg i v hv); rw [Nat.add_assoc]; exact this) (fun i v hv => g1 _ _ (seg i v hv)) (fun i v hv => g2 _ _ (seg i v hv))
      rw [chunks_length] at key
      exact .pure key
    · cases hp
  · cases hp
theorem indexAddrA_ok (R : Rel ren we ωe U O σ a w ω μ) {o : Oper} {t : TypeId} {x i : Operand} (hop : o.op = .indexAddr t x i) {e : TypeId} {n sz : Nat} (ht : P.underlying t = some (.array n e)) (hn : sizeT P e = some sz)
    {sx si : Src} {t1 t2 : TypeId} (h1 : cSrc P ren t1 x = some sx) (h2 : cSrc P ren t2 i = some si) {v : V} (hp : pureK σ (.indexAddrA n sz sx si) = some v) : Gives P ren (env U σ w ω μ) a o v := by
  have hr := R.opnd h1
  simp only [pureK] at hp
  split at hp
  · rename_i j hj
    obtain ⟨k, ei⟩ := (R.opnd h2).int hj
    split at hp
    · rename_i hb
      have run : ∀ k' q, a.eval x = .pointer (some ⟨k', q, none⟩) → (execOp a.eval o).run P w = .ok (.value (.pointer (some ⟨k', q + j.toNat * sz, none⟩))) w := by
        intro k' q e1
        simp [execOp, hop, e1, ei, Instr.indexAt, asIntOf, run_underlying ht, Instr.sureAddr, hb, run_sizeOf hn, add_mk]
      split at hp
      · rename_i id off hg
        cases hp
        rw [hg] at hr
        obtain ⟨L, hL, ex⟩ := hr.ptr_inv
        exact ⟨_, run _ _ ex, fun l => .ptr id _ L hL⟩
      · rename_i m cs hg
        split at hp
        · cases hp
          rw [hg] at hr
          obtain ⟨k', q, g, ex, hl, hcell, g1, g2⟩ := hr.fp_inv
          refine ⟨_, run _ _ ex, fun l => .fp _ _ k' (q + j.toNat * sz) (fun i => g (j.toNat * sz + i)) (by simp [hl]) (fun i v hv => ?_) (fun i v hv => ?_) (fun i v hv => ?_)⟩ <;> rw [List.getElem?_drop] at hv
          · have := hcell _ _ hv; rw [Nat.add_assoc]; exact this
          · exact g1 _ _ hv
          · exact g2 _ _ hv
        · cases hp
      · cases hp
    · cases hp
  · cases hp
theorem indexAddrS_ok (R : Rel ren we ωe U O σ a w ω μ) {o : Oper} {t : TypeId} {x i : Operand} (hop : o.op = .indexAddr t x i) {e : TypeId} {sz : Nat} (ht : P.underlying t = some (.slice e)) (hn : sizeT P e = some sz)
    {sx si : Src} {t1 t2 : TypeId} (h1 : cSrc P ren t1 x = some sx) (h2 : cSrc P ren t2 i = some si) {v : V} (hp : pureK σ (.indexAddrS sz sx si) = some v) : Gives P ren (env U σ w ω μ) a o v := by
  have hr := (R.opnd h1).dem R.hU (.slot 0 0)
  simp only [pureK] at hp
  split at hp
  · rename_i j hj
    obtain ⟨k, ei⟩ := (R.opnd h2).int hj
    split at hp
    · rename_i hb
      have run : ∀ k' q len c, a.eval x = .slice (some ⟨k', q, none⟩) len c → j < len → (execOp a.eval o).run P w = .ok (.value (.pointer (some ⟨k', q + j.toNat * sz, none⟩))) w := by
        intro k' q len c e1 e2
        simp [execOp, hop, e1, ei, Instr.indexAt, asIntOf, run_underlying ht, hb, e2, run_sizeOf hn, add_mk]
      split at hp
      · rename_i sz' es hg
        split at hp
        · rename_i hs
          subst hs
          simp only [Option.map_eq_some_iff] at hp
          obtain ⟨c, hc, rfl⟩ := hp
          rw [hg] at hr
          obtain ⟨A, cp, f, k', q, eu, hcp, hsz, hA, hcell, g1, g2⟩ := hr.sl_pure.sl_inv
          have hlt : j.toNat < es.length := (List.getElem?_eq_some_iff.1 hc).1
          have hne : es ≠ [] := by rintro rfl; simp at hlt
          rw [hA hne] at eu
          refine ⟨_, run _ _ _ _ eu (by omega), fun l => .fp sz c k' (q + j.toNat * sz) (fun i => f (j.toNat * sz + i)) (hsz c (List.mem_of_getElem? hc)) (fun i v hv => ?_) (fun i v hv => ?_) (fun i v hv => ?_)⟩
          · have := hcell _ _ (flat_at hsz hc i hv); rw [Nat.add_assoc]; exact this
          · exact g1 _ _ (flat_at hsz hc i hv)
          · exact g2 _ _ (flat_at hsz hc i hv)
        · cases hp
      · rename_i id off len sz' hg
        split at hp
        · rename_i hs
          cases hp
          obtain ⟨rfl, hlt⟩ := hs
          rw [hg] at hr
          obtain ⟨c, L, A, eu, hL, hl, hc, hA⟩ := hr.own_inv
          rcases hA with ⟨e1, _⟩ | ⟨e1, _⟩
          · rw [e1] at eu
            exact ⟨_, run _ _ _ _ eu hlt, fun l => .ptr id _ L hL⟩
          · omega
        · cases hp
      · cases hp
    · cases hp
  · cases hp
theorem lenS_ok (R : Rel ren we ωe U O σ a w ω μ) {o : Oper} {t e : TypeId} {x : Operand} (hop : o.op = .call { callee := .builtin .len, args := #[x], argTypes := #[t] }) (ht : P.underlying t = some (.slice e))
    {sx : Src} {t1 : TypeId} (h1 : cSrc P ren t1 x = some sx) {v : V} (hp : pureK σ (.lenS sx) = some v) : Gives P ren (env U σ w ω μ) a o v := by
  have hr := (R.opnd h1).dem R.hU (.slot 0 0)
  simp only [pureK] at hp
  split at hp
  · rename_i sz es hg
    cases hp
    rw [hg] at hr
    obtain ⟨A, c, f, k, q, eu, _⟩ := hr.sl_pure.sl_inv
    refine ⟨_, ?_, fun l => .pure (.sc _ rfl)⟩
    show (execOp a.eval o).run P w = _
    simp [execOp, hop, resolve, invoke, builtin, Builtin.len_, run_underlying ht, eu, goInt]
    rfl
  · rename_i id off len sz hg
    cases hp
    rw [hg] at hr
    obtain ⟨c, L, A, eu, _⟩ := hr.own_inv
    refine ⟨_, ?_, fun l => .pure (.sc _ rfl)⟩
    show (execOp a.eval o).run P w = _
    simp [execOp, hop, resolve, invoke, builtin, Builtin.len_, run_underlying ht, eu, goInt]
    rfl
  · cases hp
theorem lenT_ok (R : Rel ren we ωe U O σ a w ω μ) {o : Oper} {t : TypeId} {x : Operand} (hop : o.op = .call { callee := .builtin .len, args := #[x], argTypes := #[t] }) (ht : P.underlying t = some .string)
    {sx : Src} {t1 : TypeId} (h1 : cSrc P ren t1 x = some sx) {v : V} (hp : pureK σ (.lenT sx) = some v) : Gives P ren (env U σ w ω μ) a o v := by
  have hr := R.opnd h1
  simp only [pureK] at hp
  split at hp
  · rename_i s hg
    cases hp
    rw [hg] at hr
    refine ⟨_, ?_, fun l => .pure (.sc _ rfl)⟩
    show (execOp a.eval o).run P w = _
    simp [execOp, hop, resolve, invoke, builtin, Builtin.len_, run_underlying ht, hr.sc_eq.1, goInt]
    rfl
  · cases hp
theorem lenA_ok {o : Oper} {t : TypeId} {x : Operand} (hop : o.op = .call { callee := .builtin .len, args := #[x], argTypes := #[t] }) {n : Nat} {e : TypeId} (ht : P.underlying t = some (.array n e)) {v : V} (hp : pureK σ (.lenA n) = some v) : Gives P ren (env U σ w ω μ) a o v := by
  cases hp
  refine ⟨_, ?_, fun l => .pure (.sc _ rfl)⟩
  show (execOp a.eval o).run P w = _
  simp [execOp, hop, resolve, invoke, builtin, Builtin.len_, run_underlying ht, goInt]
  rfl
theorem mm_ok (R : Rel ren we ωe U O σ a w ω μ) {o : Oper} {x y : Operand} {ts : Array TypeId} {isMax : Bool} (hop : o.op = .call { callee := .builtin (if isMax then .max else .min), args := #[x, y], argTypes := ts })
    {sx sy : Src} {t1 t2 : TypeId} (h1 : cSrc P ren t1 x = some sx) (h2 : cSrc P ren t2 y = some sy) {v : V} (hp : pureK σ (.mm isMax sx sy) = some v) : Gives P ren (env U σ w ω μ) a o v := by
  simp only [pureK] at hp
  split at hp
  · rename_i k p k' q hx hy
    cases hp
    have ex := R.opnd h1; rw [hx] at ex
    have ey := R.opnd h2; rw [hy] at ey
    refine ⟨_, ?_, fun l => .pure (.sc _ rfl)⟩
    show (execOp a.eval o).run P w = _
    cases isMax
    · simp only [Bool.false_eq_true, if_false] at hop ⊢
      simp [execOp, hop, resolve, invoke, builtin, Builtin.min_, Builtin.min2, ex.sc_eq.1, ey.sc_eq.1]
      rfl
    · simp only [if_true] at hop ⊢
      simp [execOp, hop, resolve, invoke, builtin, Builtin.max_, Builtin.max2, ex.sc_eq.1, ey.sc_eq.1]
      rfl
  · cases hp
end Go.Proofs.Ythplooifbkopgaa
