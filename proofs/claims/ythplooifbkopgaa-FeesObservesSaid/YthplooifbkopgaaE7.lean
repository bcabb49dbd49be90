/- Operations of the abstract machine that only compute: addresses, slices, numbers. -/
import Derived.Test.YthplooifbkopgaaE6
namespace Go.Proofs.Ythplooifbkopgaa
set_option linter.unusedVariables false
set_option linter.unusedSimpArgs false
variable {ren : Nat → Option Nat} {we : World} {ωe : Nat → Ow} {U : Nat → Nat → Prop} {O : Nat → Prop} {σ : St} {a : Act} {w : World} {ω : Nat → Ow} {μ : Nat → Nat} {P : Program}

theorem flatten_drop' {es : List (List V)} {sz : Nat} (h : ∀ e ∈ es, e.length = sz) (l : Nat) : (es.drop l).flatten = es.flatten.drop (l * sz) := by
  induction es generalizing l with
  | nil => simp
  | cons e es ih =>
    cases l with
    | zero => simp
    | succ l =>
      have h1 := h e (by simp)
      have hm : (l + 1) * sz = e.length + l * sz := by rw [h1, Nat.add_mul]; omega
      rw [List.drop_succ_cons, ih (fun x hx => h x (by simp [hx])), List.flatten_cons, hm, List.drop_append]
      simp
theorem flatten_take' {es : List (List V)} {sz : Nat} (h : ∀ e ∈ es, e.length = sz) (n : Nat) : (es.take n).flatten = es.flatten.take (n * sz) := by
  induction es generalizing n with
  | nil => simp
  | cons e es ih =>
    cases n with
    | zero => simp
    | succ n =>
      have h1 := h e (by simp)
      have hm : (n + 1) * sz = e.length + n * sz := by rw [h1, Nat.add_mul]; omega
      rw [List.take_succ_cons, List.flatten_cons, List.flatten_cons, ih (fun x hx => h x (by simp [hx])), hm, List.take_append]
      rw [List.take_of_length_le (by omega : e.length ≤ e.length + n * sz)]
      simp
theorem flat_seg {es : List (List V)} {sz : Nat} (h : ∀ e ∈ es, e.length = sz) (l n i : Nat) {v : V} (hv : ((es.drop l).take n).flatten[i]? = some v) : es.flatten[l * sz + i]? = some v := by
  have h' : ∀ e ∈ es.drop l, e.length = sz := fun e he => h e (List.mem_of_mem_drop he)
  rw [flatten_take' h', flatten_drop' h] at hv
  rw [List.getElem?_take] at hv
  split at hv
  · rwa [List.getElem?_drop] at hv
  · cases hv
theorem flat_at {es : List (List V)} {sz : Nat} (h : ∀ e ∈ es, e.length = sz) {j : Nat} {c : List V} (hj : es[j]? = some c) (i : Nat) {v : V} (hv : c[i]? = some v) : es.flatten[j * sz + i]? = some v := by
  apply flat_seg h j 1
  have hlt : j < es.length := (List.getElem?_eq_some_iff.1 hj).1
  have e : (es.drop j).take 1 = [c] := by
    rw [List.drop_eq_getElem_cons hlt]
    rw [List.getElem?_eq_getElem hlt] at hj
    cases hj
    rfl
  rw [e]; simpa using hv
theorem chunks_length (sz : Nat) : ∀ (n : Nat) (cs : List V), (chunks sz n cs).length = n
  | 0, _ => rfl
  | n + 1, cs => by simp [chunks, chunks_length sz n]
theorem chunks_each (sz : Nat) : ∀ (n : Nat) (cs : List V), n * sz ≤ cs.length → ∀ e ∈ chunks sz n cs, e.length = sz
  | 0, _, _, e, he => by simp [chunks] at he
  | n + 1, cs, h, e, he => by
    rw [Nat.add_mul] at h
    simp only [chunks, List.mem_cons] at he
    rcases he with rfl | he
    · simp; omega
    · exact chunks_each sz n _ (by simp; omega) e he
theorem chunks_flatten (sz : Nat) : ∀ (n : Nat) (cs : List V), (chunks sz n cs).flatten = cs.take (n * sz)
  | 0, _ => by simp [chunks]
  | n + 1, cs => by
    have hm : (n + 1) * sz = sz + n * sz := by rw [Nat.add_mul]; omega
    rw [chunks, List.flatten_cons, chunks_flatten sz n, hm, List.take_add]

/-- a slice that can be read now -/
def Reads (ren : Nat → Option Nat) (w : World) (Wr : Nat → Nat → Prop) (sz : Nat) (es : List (List V)) (u : Value) : Prop :=
  ∃ (A : Option Addr) (c : Nat) (f : Nat → Value) (k o : Nat), u = .slice A es.length c ∧ es.length ≤ c ∧ (∀ e ∈ es, e.length = sz) ∧ (es ≠ [] → A = some ⟨k, o, none⟩) ∧
    (∀ (i : Nat) (v : V), es.flatten[i]? = some v → w.cell? ⟨k, o + i, none⟩ = some (f i) ∧ (f i).oneCell' = true ∧ RepP ren w Wr v (f i))
theorem RepP.reads {Wr : Nat → Nat → Prop} {sz : Nat} {es : List (List V)} {u : Value} (h : RepP ren w Wr (.sl sz es) u) : Reads ren w Wr sz es u := by
  obtain ⟨A, c, f, k, o, e, hc, hsz, hA, hcell, h1, h⟩ := h.sl_inv
  exact ⟨A, c, f, k, o, e, hc, hsz, hA, fun i v hv => ⟨(hcell i v hv).2, h1 i v hv, h i v hv⟩⟩
theorem Rel.blk (R : Rel ren we ωe U O σ a w ω μ) {id : Nat} {cs : List V} (h : ((σ.b[id]?).getD .gone).cs? = some cs) : blen σ.b id = some cs.length ∧ ∃ arr : Array Value, (cs ≠ [] → ∃ T fr, w.heap[μ id]? = some (.cells arr T fr)) ∧ cs.length ≤ arr.size ∧
    ∀ (j : Nat) (c : V), cs[j]? = some c → ∃ u, arr[j]? = some u ∧ u.oneCell' = true ∧ RepP ren w (wr U ω) c u := by
  cases hb : σ.b[id]? with
  | none => simp [hb, B.cs?] at h
  | some x =>
    cases x with
    | gone => simp [hb, B.cs?] at h
    | live p cs' =>
      cases p with
      | false => simp [hb, B.cs?] at h
      | true =>
        simp [hb, B.cs?] at h; subst h
        rcases R.bs id true _ hb with h0 | ⟨_, arr, T, g1, g2, g3⟩
        · subst h0
          exact ⟨by simp [blen, hb], #[], fun h => absurd rfl h, by simp, fun j c hc => by simp at hc⟩
        refine ⟨by simp [blen, hb], arr, fun _ => ⟨T, _, g1⟩, g2, fun j c hc => ?_⟩
        obtain ⟨u, e1, e2, e3, _⟩ := g3 j c hc
        exact ⟨u, e1, e2, e3 rfl⟩
    | fz cs' =>
      simp [hb, B.cs?] at h; subst h
      obtain ⟨_, arr, T, fr, g1, g2, g3⟩ := R.fs id _ hb
      exact ⟨by simp [blen, hb], arr, fun _ => ⟨T, fr, g1⟩, g2, g3⟩
    | mp es => simp [hb, B.cs?] at h
    | dead n => simp [hb, B.cs?] at h
/-- what a slice holds now -/
theorem Rel.view (R : Rel ren we ωe U O σ a w ω μ) {l : Loc} {v : V} {u : Value} {sz : Nat} {es : List (List V)} (h : Rep ren (env U σ w ω μ) l v u) (hv : view σ.b v = some (.sl sz es)) : Reads ren w (wr U ω) sz es u := by
  cases v with
  | sl sz' es' => cases hv; exact RepP.reads h.sl_pure
  | gs sz' es' =>
    cases hv
    exact RepP.reads (Rep.sl_pure (h.dem R.hU l))
  | own id off len sz' =>
    simp only [Go.Proofs.Ythplooifbkopgaa.view, Option.bind_eq_bind, Option.bind_eq_some_iff, Option.pure_def, Option.some.injEq, V.sl.injEq] at hv
    obtain ⟨cs, hcs, rfl, rfl⟩ := hv
    obtain ⟨hbl, arr, g1, g2, g3⟩ := R.blk hcs
    obtain ⟨c, L, A, e, hL, hl, hc, hA⟩ := h.own_inv
    have hL' : blen σ.b id = some L := hL
    rw [hbl] at hL'; cases hL'
    refine ⟨A, c, fun i => arr.toList.getD (off + i) undef, μ id, off, by rw [chunks_length]; exact e, by rw [chunks_length]; exact hc.1, chunks_each _ _ _ (by simp; omega), ?_, ?_⟩
    · intro hne
      rcases hA with ⟨h1, _⟩ | ⟨h1, _⟩
      · exact h1
      · subst h1; simp [chunks] at hne
    · intro i v hv
      rw [chunks_flatten, List.getElem?_take] at hv
      split at hv
      · rw [List.getElem?_drop] at hv
        obtain ⟨x, hx, h1, h2⟩ := g3 _ _ hv
        have hx' : arr.toList[off + i]? = some x := by simpa using hx
        have hd : arr.toList.getD (off + i) undef = x := by rw [List.getD_eq_getElem?_getD, hx']; rfl
        show _ = some (arr.toList.getD (off + i) undef) ∧ (arr.toList.getD (off + i) undef).oneCell' = true ∧ RepP ren w (wr U ω) v (arr.toList.getD (off + i) undef)
        rw [hd]
        obtain ⟨T, fr, g1⟩ := g1 (by rintro rfl; simp at hv)
        exact ⟨by rw [cell_of_row _ _ _ _ _ _ g1]; exact hx, h1, h2⟩
      · cases hv
  | _ => simp [Go.Proofs.Ythplooifbkopgaa.view] at hv

theorem bin_ok (R : Rel ren we ωe U O σ a w ω μ) {o : Oper} {op : BinOp} {t t' : TypeId} {x y : Operand} (hop : o.op = .binOp op t x y t') {sx sy : Src} {t1 t2 : TypeId} (h1 : cSrc P ren t1 x = some sx) (h2 : cSrc P ren t2 y = some sy)
    {v : V} (hp : pureK σ (.bin op sx sy) = some v) : Gives P ren (env U σ w ω μ) a o v := by
  simp only [pureK] at hp
  split at hp
  · rename_i p q hx hy
    have ex := R.opnd h1; rw [hx] at ex
    have ey := R.opnd h2; rw [hy] at ey
    simp only [Option.map_eq_some_iff] at hp
    obtain ⟨r, hr, rfl⟩ := hp
    obtain ⟨g1, g2, g3⟩ := binSc_run (P := P) (w := w) t x y hr
    refine ⟨r, ?_, fun l => .pure (.sc r g3)⟩
    show (execOp a.eval o).run P w = _
    simp [execOp, hop, ex.sc_eq.1, ey.sc_eq.1, g1, g2]
    rfl
  · cases hp
theorem run_equalIn_nil (w : World) (n : Nat) (t e : TypeId) (A : Option Addr) (b c : Nat) (ht : P.underlying t = some (.slice e)) : (Op.equalIn (n + 1) t (.slice A b c) (.slice none 0 0)).run P w = .ok A.isNone w := by
  unfold Op.equalIn
  cases A <;> simp [run_underlying ht]
theorem nilT_ok (R : Rel ren we ωe U O σ a w ω μ) {o : Oper} {op : BinOp} {t t' e : TypeId} {x : Operand} (hop : o.op = .binOp op t x (.const (.slice none 0 0)) t') (ht : P.underlying t = some (.slice e)) (ho : op = .eql ∨ op = .neq) {sx : Src} {t1 : TypeId} (h1 : cSrc P ren t1 x = some sx)
    {v : V} (hp : pureK σ (.nilT (op == .neq) sx) = some v) : Gives P ren (env U σ w ω μ) a o v := by
  simp only [pureK] at hp
  split at hp
  · rename_i sz es hx
    cases hp
    have hr := (R.opnd h1).dem R.hU (.slot 0 0)
    rw [hx] at hr
    obtain ⟨A, c, f, k, q, ex, hc, hsz, hA, hcell⟩ := (hr.sl_pure).sl_inv
    have hq := run_equalIn_nil (P := P) w 9999 t e A es.length c ht
    have hy : a.eval (.const (.slice none 0 0)) = .slice none 0 0 := rfl
    refine ⟨.bool (if (op == .neq) then !A.isNone else A.isNone), ?_, fun l => ?_⟩
    · show (execOp a.eval o).run P w = _
      rcases ho with rfl | rfl
      · simp [execOp, hop, ex, hy, eqGuard, binOp, Op.equal, Op.maxDepth, hq]; rfl
      · simp [execOp, hop, ex, hy, eqGuard, binOp, Op.equal, Op.maxDepth, hq]; rfl
    · by_cases he : es = []
      · subst he
        exact .ub _
      · have hA' := hA he
        have : es.isEmpty = false := by cases es with | nil => exact absurd rfl he | cons x l => rfl
        rw [this, hA']
        rcases ho with rfl | rfl <;> exact .pure (.sc _ rfl)
  · cases hp
theorem eqB_ok (R : Rel ren we ωe U O σ a w ω μ) {o : Oper} {op : BinOp} {t t' : TypeId} {x y : Operand} (hop : o.op = .binOp op t x y t') (ht : P.underlying t = some .bool) (ho : op = .eql ∨ op = .neq) {sx sy : Src} {t1 t2 : TypeId} (h1 : cSrc P ren t1 x = some sx) (h2 : cSrc P ren t2 y = some sy)
    {v : V} (hp : pureK σ (.eqB (op == .neq) sx sy) = some v) : Gives P ren (env U σ w ω μ) a o v := by
  simp only [pureK] at hp
  split at hp
  · rename_i p q hx hy
    cases hp
    have ex := (R.opnd h1).bool hx
    have ey := (R.opnd h2).bool hy
    have hq := run_equalIn_bool' (P := P) w 9999 t p q ht
    rcases ho with rfl | rfl
    · refine ⟨.bool (p == q), ?_, fun l => .pure (.sc _ rfl)⟩
      show (execOp a.eval o).run P w = _
      simp [execOp, hop, ex, ey, eqGuard, binOp, Op.equal, Op.maxDepth, hq]
      rfl
    · refine ⟨.bool (!(p == q)), ?_, fun l => .pure (.sc _ rfl)⟩
      show (execOp a.eval o).run P w = _
      simp [execOp, hop, ex, ey, eqGuard, binOp, Op.equal, Op.maxDepth, hq]
      rfl
  · cases hp
theorem un_ok (R : Rel ren we ωe U O σ a w ω μ) {o : Oper} {op : UnOp} {t : TypeId} {x : Operand} (hop : o.op = .unOp op t x) {sx : Src} {t1 : TypeId} (h1 : cSrc P ren t1 x = some sx)
    {v : V} (hp : pureK σ (.un op sx) = some v) : Gives P ren (env U σ w ω μ) a o v := by
  simp only [pureK] at hp
  split at hp
  · rename_i p hx
    have ex := R.opnd h1; rw [hx] at ex
    simp only [Option.map_eq_some_iff] at hp
    obtain ⟨r, hr, rfl⟩ := hp
    obtain ⟨g2, g3⟩ := unSc_run (P := P) (w := w) hr
    refine ⟨r, ?_, fun l => .pure (.sc r g3)⟩
    show (execOp a.eval o).run P w = _
    simp [execOp, hop, ex.sc_eq.1, g2]
    rfl
  · cases hp
theorem conv_ok (R : Rel ren we ωe U O σ a w ω μ) {o : Oper} {s d : TypeId} {x : Operand} (hop : o.op = .convert s d x) {k' k : IntKind} (hs : P.underlying s = some (.int k')) (hd : P.underlying d = some (.int k)) {sx : Src} {t1 : TypeId} (h1 : cSrc P ren t1 x = some sx)
    {v : V} (hp : pureK σ (.conv k sx) = some v) : Gives P ren (env U σ w ω μ) a o v := by
  simp only [pureK] at hp
  split at hp
  · rename_i n hx
    cases hp
    obtain ⟨k2, ex⟩ := (R.opnd h1).int hx
    refine ⟨.int k (k.wrap n), ?_, fun l => .pure (.sc _ rfl)⟩
    show (execOp a.eval o).run P w = _
    simp [execOp, hop, ex, convert, run_underlying hs, run_underlying hd, Conv.intToInt]
    rfl
  · cases hp
theorem foldl_push (ns : List Int) (s : ByteArray) : ns.foldl (fun r n => r.push (UInt8.ofNat n.toNat)) s = ⟨s.data ++ (ns.map fun n => UInt8.ofNat n.toNat).toArray⟩ := by
  induction ns generalizing s with
  | nil => simp
  | cons n ns ih =>
    rw [List.foldl_cons, ih]
    congr 1
    apply Array.ext'
    simp [ByteArray.push]
theorem toBytes_ints : ∀ {es : List (List V)} {l : List UInt8}, toBytes es = some l → ∃ ns : List Int, es.flatten = ns.map (fun n => V.sc (.int .u8 n)) ∧ l = ns.map (fun n => UInt8.ofNat n.toNat) ∧ es.length = ns.length
  | [], l, h => by cases h; exact ⟨[], rfl, rfl, rfl⟩
  | e :: es, l, h => by
    unfold toBytes at h
    split at h
    · rename_i heq; cases heq
    · rename_i n es' heq
      cases heq
      simp only [Option.map_eq_some_iff] at h
      obtain ⟨l', h1, rfl⟩ := h
      obtain ⟨ns, e1, e2, e3⟩ := toBytes_ints h1
      exact ⟨n :: ns, by simp [e1], by simp [e2], by simp [e3]⟩
    · cases h
theorem toStr_ok (R : Rel ren we ωe U O σ a w ω μ) {o : Oper} {s d e : TypeId} {x : Operand} (hop : o.op = .convert s d x) (hs : P.underlying s = some (.slice e)) (hd : P.underlying d = some .string) (he : P.underlying e = some (.int .u8)) {sx : Src} {t1 : TypeId} (h1 : cSrc P ren t1 x = some sx)
    {v : V} (hp : pureK σ (.toStr sx) = some v) : Gives P ren (env U σ w ω μ) a o v := by
  simp only [pureK] at hp
  split at hp
  · rename_i es hv
    simp only [Option.map_eq_some_iff] at hp
    obtain ⟨bs, hb, rfl⟩ := hp
    obtain ⟨ns, e1, e2, e3⟩ := toBytes_ints hb
    obtain ⟨A, c, f, k, o', eu, hc, hsz, hA, hcell⟩ := R.view (R.opnd h1) hv
    refine ⟨.string ⟨bs.toArray⟩, ?_, fun l => .pure (.sc _ rfl)⟩
    show (execOp a.eval o).run P w = _
    have hr : (Conv.bytesToString (.slice A es.length c)).run P w = .ok (.string ⟨bs.toArray⟩) w := by
      have key : ∀ ad : Addr, A = some ad → (loadCells ad es.length).run P w = .ok (ns.map (Value.int .u8)).toArray w → (Conv.bytesToString (.slice A es.length c)).run P w = .ok (.string ⟨bs.toArray⟩) w := by
        intro ad e h
        subst e
        rw [run_bytesToString w ad es.length c ns h, foldl_push]
        simp [e2]
      have hz : es = [] → ∀ ad, (loadCells ad es.length).run P w = .ok (ns.map (Value.int .u8)).toArray w := by
        intro he0 ad
        subst he0
        have : ns = [] := by cases ns with | nil => rfl | cons x xs => simp at e3
        subst this
        rfl
      by_cases hne : es = []
      · cases A with
        | none =>
          subst hne
          have : ns = [] := by cases ns with | nil => rfl | cons x xs => simp at e3
          subst this
          simp [e2, Conv.bytesToString]
          rfl
        | some ad => exact key ad rfl (hz hne ad)
      · refine key _ (hA hne) ?_
        have hl := run_loadCells_list (P := P) w ⟨k, o', none⟩ (ns.map (Value.int .u8)) (fun j u hu => by
          rw [add_mk]
          rw [List.getElem?_map] at hu
          cases hn : ns[j]? with
          | none => simp [hn] at hu
          | some n =>
            simp [hn] at hu
            obtain ⟨g1, g2, g3⟩ := hcell j (.sc (.int .u8 n)) (by rw [e1, List.getElem?_map, hn]; rfl)
            have := (Rep.pure (E := env U σ w ω μ) (l := .slot 0 0) g3).sc_eq.1
            rw [g1, this, ← hu])
        simpa [e3] using hl
    simp [execOp, hop, eu, run_convert_bytes_string w s d e _ _ _ hs he hd, hr]
    rfl
  · cases hp
theorem bytesOf_ok (R : Rel ren we ωe U O σ a w ω μ) {x : Operand} {sx : Src} {t1 : TypeId} (h1 : cSrc P ren t1 x = some sx) {es : List (List V)} (hv : view σ.b (sx.get σ) = some (.sl 1 es)) {bs : List UInt8} (hb : toBytes es = some bs) : (Extern.Bytes.bytesOf (a.eval x)).run P w = .ok ⟨bs.toArray⟩ w := by
  obtain ⟨ns, e1, e2, e3⟩ := toBytes_ints hb
  obtain ⟨A, c, f, k, o', eu, hc, hsz, hA, hcell⟩ := R.view (R.opnd h1) hv
  rw [eu]
  by_cases hne : es = []
  · have : ns = [] := by subst hne; cases ns with | nil => rfl | cons x xs => simp at e3
    subst this
    subst hne
    cases A with
    | none => simp [e2, Extern.Bytes.bytesOf]; rfl
    | some ad => simp [e2, Extern.Bytes.bytesOf, Extern.Bytes.loadBytes]; rfl
  · rw [hA hne]
    have hl := Lib.run_loadBytesX (P := P) w ns ⟨k, o', none⟩ .empty (fun j n hn => by
      rw [add_mk]
      obtain ⟨g1, g2, g3⟩ := hcell j (.sc (.int .u8 n)) (by rw [e1, List.getElem?_map, hn]; rfl)
      have := (Rep.pure (E := env U σ w ω μ) (l := .slot 0 0) g3).sc_eq.1
      rw [g1, this])
    show (Extern.Bytes.loadBytes _ es.length .empty).run P w = _
    rw [e3, hl, e2]
    have : Lib.bytesOf ns = ns.map fun n => UInt8.ofNat n.toNat := rfl
    rw [this]
    congr 2
    simp
theorem find_cmp {fn : Func} (h : fn.name = "internal/bytealg.Compare") : Extern.find fn = some Extern.BytealgCompare.compare := by
  have e1 : (Extern.allGenericRows.lookup "internal/bytealg.Compare").isNone = true := by kernel_rfl
  have e2 : (Extern.allTypedRows.lookup "internal/bytealg.Compare").isNone = true := by kernel_rfl
  have e3 : Extern.allRows.lookup "internal/bytealg.Compare" = some Extern.BytealgCompare.compare := by kernel_rfl
  rw [Option.isNone_iff_eq_none] at e1 e2
  simp [Extern.find, h, e1, e2, e3]
theorem cmpB_ok (R : Rel ren we ωe U O σ a w ω μ) {o : Oper} {f : FuncId} {args : Array Operand} {ats : Array TypeId} (hop : o.op = .call { callee := .value (.func f), args := args, argTypes := ats }) (hf : isCmp P f = true) {x y : Operand} (hargs : args.toList = [x, y]) {sx sy : Src} {t1 t2 : TypeId} (h1 : cSrc P ren t1 x = some sx) (h2 : cSrc P ren t2 y = some sy)
    {v : V} (hp : pureK σ (.cmpB sx sy) = some v) : Gives P ren (env U σ w ω μ) a o v := by
  simp only [pureK] at hp
  split at hp
  · rename_i es fs hv1 hv2
    split at hp
    · rename_i b1 b2 hb1 hb2
      cases hp
      refine ⟨.int .i64 (Lib.compareBytes b1 b2), ?_, fun l => .pure (.sc _ rfl)⟩
      show (execOp a.eval o).run P w = .ok _ w
      unfold isCmp at hf
      cases hfn : P.funcs[f]? with
      | none => simp [hfn] at hf
      | some fn =>
        simp only [hfn, Bool.and_eq_true, beq_iff_eq] at hf
        obtain ⟨⟨hb, hname⟩, hnx⟩ := hf
        have ef : a.eval (.func f) = .func (.func f) #[] #[] := rfl
        simp only [execOp, hop, resolve, ef, Deferred.ofValue, Sem.run_bind, Sem.run_pure, Result.andThen_ok, invoke]
        rw [show #[] ++ args.map a.eval ++ #[] = #[a.eval x, a.eval y] by apply Array.ext'; simp [hargs]]
        rw [run_callFunc_extern hfn (by rw [hname]; rfl) hb (Option.isNone_iff_eq_none.1 hnx) (find_cmp hname)]
        rw [show Extern.BytealgCompare.compare #[a.eval x, a.eval y] = (do pure (goInt (Extern.BytealgCompare.cmp (← Extern.Bytes.bytesOf (a.eval x)) (← Extern.Bytes.bytesOf (a.eval y)))) : Sem Value) from rfl]
        simp only [Sem.run_bind, bytesOf_ok R h1 hv1 hb1, bytesOf_ok R h2 hv2 hb2, Result.andThen_ok, Sem.run_pure, Lib.cmp_eq, goInt]
    · cases hp
  · cases hp
theorem fieldAddr_ok (R : Rel ren we ωe U O σ a w ω μ) {o : Oper} {t : TypeId} {x : Operand} {i : Nat} (hop : o.op = .fieldAddr t x i) {fs : Array Field} {f : Field} {n : Nat} (ht : P.underlying t = some (.struct fs)) (hf : fs[i]? = some f) (hn : sizeT P f.type = some n) (hn0 : n ≠ 0)
    {sx : Src} {t1 : TypeId} (h1 : cSrc P ren t1 x = some sx) {v : V} (hp : pureK σ (.fieldAddr f.offset sx) = some v) : Gives P ren (env U σ w ω μ) a o v := by
  have hr := R.opnd h1
  have run : ∀ k q, a.eval x = .pointer (some ⟨k, q, none⟩) → (execOp a.eval o).run P w = .ok (.value (.pointer (some ⟨k, q + f.offset, none⟩))) w := by
    intro k q e
    simp [execOp, hop, e, Instr.fieldAt, run_underlying ht, hf, Instr.sureAddr, fieldPlace, run_sizeOf hn, hn0, add_mk]
  simp only [pureK] at hp
  split at hp
  · rename_i id off hg
    cases hp
    rw [hg] at hr
    obtain ⟨L, hL, e⟩ := hr.ptr_inv
    exact ⟨_, run _ _ e, fun l => .ptr id _ L hL⟩
  · rename_i m cs hg
    split at hp
    · cases hp
      rw [hg] at hr
      obtain ⟨k, q, g, e, hl, hcell, h1, h⟩ := hr.fp_inv
      refine ⟨_, run _ _ e, fun l => .fp _ _ k (q + f.offset) (fun i => g (f.offset + i)) (by simp [hl]) (fun i v hv => ?_) (fun i v hv => ?_) (fun i v hv => ?_)⟩ <;> rw [List.getElem?_drop] at hv
      · have := hcell _ _ hv; rw [Nat.add_assoc]; exact this
      · exact h1 _ _ hv
      · exact h _ _ hv
    · cases hp
  · cases hp
theorem run_part {t : TypeId} {b : Bool} {n : Nat} (h1 : aggT P t = some b) (h2 : sizeT P t = some n) (us : List Value) (off : Nat) (w : World) : (part t us.toArray off).run P w = if b then .ok (.agg ((us.drop off).take n).toArray) w else match us[off]? with | some v => .ok v w | none => (stuck "part: no such cell" : Sem Value).run P w := by
  unfold part
  rw [Sem.run_bind, run_isAgg h1]
  cases b
  · simp only [Result.andThen_ok, Bool.false_eq_true, if_false]
    have : us.toArray[off]? = us[off]? := by simp
    rw [this]
    cases us[off]? <;> rfl
  · simp [run_sizeOf h2, List.drop_take]
theorem field_ok (R : Rel ren we ωe U O σ a w ω μ) {o : Oper} {t : TypeId} {x : Operand} {i : Nat} (hop : o.op = .field t x i) {fs : Array Field} {f : Field} {n : Nat} {b : Bool} (ht : P.underlying t = some (.struct fs)) (hf : fs[i]? = some f) (hb : aggT P f.type = some b) (hn : sizeT P f.type = some n)
    {sx : Src} {t1 : TypeId} (h1 : cSrc P ren t1 x = some sx) {v : V} (hp : pureK σ (.field b f.offset n sx) = some v) : Gives P ren (env U σ w ω μ) a o v := by
  have hr := R.opnd h1
  simp only [pureK] at hp
  split at hp
  · rename_i cs hg
    rw [hg] at hr
    obtain ⟨us, eu, hc⟩ := CellsP.of_agg hr.agg_eq
    cases b with
    | true =>
      simp at hp; subst hp
      refine ⟨.agg ((us.drop f.offset).take n).toArray, ?_, fun l => .pure (hc.dropTake f.offset n).agg⟩
      show (execOp a.eval o).run P w = _
      simp [execOp, hop, eu, Instr.field, run_underlying ht, hf, asAgg, run_part hb hn]
      rfl
    | false =>
      simp at hp
      obtain ⟨u, g1, g2, g3⟩ := hc.2 _ _ hp
      refine ⟨u, ?_, fun l => .pure g3⟩
      show (execOp a.eval o).run P w = _
      simp [execOp, hop, eu, Instr.field, run_underlying ht, hf, asAgg, run_part hb hn, g1]
      rfl
  · rename_i cs hg
    rw [hg] at hr
    obtain ⟨us, eu, hl, hc, h1⟩ := hr.st_inv
    cases b with
    | true => simp at hp
    | false =>
      simp at hp
      have hlt : f.offset < us.length := by rw [← hl]; exact (List.getElem?_eq_some_iff.1 hp).1
      have g1 : us[f.offset]? = some us[f.offset] := List.getElem?_eq_getElem hlt
      refine ⟨us[f.offset], ?_, fun l => ?_⟩
      · show (execOp a.eval o).run P w = _
        simp [execOp, hop, eu, Instr.field, run_underlying ht, hf, asAgg, run_part hb hn, g1]
        rfl
      · rcases hc _ _ _ hp g1 with h | h
        · exact .pure h
        · exact h.rep l
  · cases hp
theorem indexA_ok (R : Rel ren we ωe U O σ a w ω μ) {o : Oper} {t : TypeId} {x i : Operand} (hop : o.op = .index t x i) {len : Nat} {e : TypeId} {n : Nat} {b : Bool} (ht : P.underlying t = some (.array len e)) (hb : aggT P e = some b) (hn : sizeT P e = some n)
    {sx si : Src} {t1 t2 : TypeId} (h1 : cSrc P ren t1 x = some sx) (h2 : cSrc P ren t2 i = some si) {v : V} (hp : pureK σ (.indexA b len n sx si) = some v) : Gives P ren (env U σ w ω μ) a o v := by
  have hr := R.opnd h1
  simp only [pureK] at hp
  split at hp
  · rename_i j hj
    obtain ⟨k, ei⟩ := (R.opnd h2).int hj
    split at hp
    · rename_i hb'
      split at hp
      · rename_i cs hg
        rw [hg] at hr
        obtain ⟨us, eu, hc⟩ := CellsP.of_agg hr.agg_eq
        cases b with
        | true =>
          simp at hp; subst hp
          refine ⟨.agg ((us.drop (j.toNat * n)).take n).toArray, ?_, fun l => .pure (hc.dropTake _ n).agg⟩
          show (execOp a.eval o).run P w = _
          simp [execOp, hop, eu, ei, Instr.index, asIntOf, run_underlying ht, hb', run_sizeOf hn, run_part hb hn]
          rfl
        | false =>
          simp at hp
          obtain ⟨u, g1, g2, g3⟩ := hc.2 _ _ hp
          refine ⟨u, ?_, fun l => .pure g3⟩
          show (execOp a.eval o).run P w = _
          simp [execOp, hop, eu, ei, Instr.index, asIntOf, run_underlying ht, hb', run_sizeOf hn, run_part hb hn, g1]
          rfl
      · cases hp
    · cases hp
  · cases hp
end Go.Proofs.Ythplooifbkopgaa
