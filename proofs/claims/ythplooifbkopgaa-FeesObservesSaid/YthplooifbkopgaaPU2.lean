/- fees: rewinds and what is seen, on plain samples. -/
import Derived.Test.YthplooifbkopgaaPU1
namespace Go.Proofs.Ythplooifbkopgaa
set_option linter.unusedVariables false
set_option linter.unusedSimpArgs false
set_option maxRecDepth 100000
variable {β : Type}
/-! rewind -/
def late (h : Int) (x : Smp) : Bool := decide (x.s > h)
def rw1 (h : Int) (x : Smp) : Smp := if x.f > h then x.at 0 else x
def rwd (h : Int) (l : List Smp) : List Smp := (l.filter (fun x => !late h x)).map (rw1 h)
theorem index_loop (L : Nat) (h : Int) (l : List Smp) (hl : l.length ≤ 1000000) (k : Int → List V → Int → Option β) : ∀ (m i : Nat), i ≤ l.length → l.length - i < m →
    lbaba_slices_IndexFunc_Lapi_Sample_api_Sample F_fees_Rewind_1 L (fun p4 b0 b1_0 => rbabaret_slices_IndexFunc_Lapi_Sample_api_Sample F_fees_Rewind_1 L p4 b0 b1_0 k) (fun b0 b1_0 => rbabax0_slices_IndexFunc_Lapi_Sample_api_Sample F_fees_Rewind_1 L b0 b1_0 k) m l.length (l.length : Int) (i : Int) (smps l).flatten h = k (fidx (late h) (l.drop i) i) (smps l).flatten h
  | 0, i, h1, h2 => by omega
  | m + 1, i, h1, h2 => by
    simp only [lbaba_slices_IndexFunc_Lapi_Sample_api_Sample, bbaba_slices_IndexFunc_Lapi_Sample_api_Sample, lt_eq, Nat.zero_add, Int.toNat_natCast, wrap_succ (show i ≤ 1000000000 by omega), F_fees_Rewind_1, R_fees_Rewind_1]
    by_cases hi : i < l.length
    · have hfl := smps_flen l
      have hle : (i + 1) * 35 ≤ l.length * 35 := Nat.mul_le_mul_right _ hi
      rw [ifb_pos (by omega), chk_true (by omega), chk_true (by omega), smps_row hi, cI_some l[i].g33, ifb_dec, List.drop_eq_getElem_cons hi, fidx]
      have ih := index_loop L h l hl k m (i + 1) (by omega) (by omega)
      by_cases d : l[i].s > h
      · rw [if_pos d, if_pos (by simp [late, d])]; rfl
      · rw [if_neg d, if_neg (by simp [late, d])]; exact ih
    · rw [ifb_neg (by omega), List.drop_of_length_le (by omega)]; rfl
theorem del_loop (L : Nat) (h : Int) (l : List Smp) (hl : l.length ≤ 1000000) (kx : Nat → Int → List V → Int → Option β) : ∀ (m j i : Nat) (c : List Smp), c.length = l.length → i ≤ j → j ≤ l.length → l.length - j < m → c.take i = (l.take j).filter (fun x => !late h x) → c.drop j = l.drop j →
    ∃ (c' : List Smp) (i' : Nat), c'.length = l.length ∧ i' ≤ l.length ∧ c'.take i' = l.filter (fun x => !late h x) ∧
      lbbbaba_slices_DeleteFunc_Lapi_Sample_api_Sample F_slices_IndexFunc_Lapi_Sample_api_Sample F_fees_Rewind_1 L kx m l.length (i : Int) (j : Int) (smps c).flatten h = kx l.length (i' : Int) (smps c').flatten h
  | 0, j, i, c, h1, h2, h3, h4, h5, h6 => by omega
  | m + 1, j, i, c, h1, h2, h3, h4, h5, h6 => by
    simp only [lbbbaba_slices_DeleteFunc_Lapi_Sample_api_Sample, bbbbaba_slices_DeleteFunc_Lapi_Sample_api_Sample, lt_eq, Nat.zero_add, Int.toNat_natCast, wrap_succ (show i ≤ 1000000000 by omega), wrap_succ (show j ≤ 1000000000 by omega), F_fees_Rewind_1, R_fees_Rewind_1]
    by_cases hj : j < l.length
    · have hjc : j < c.length := by omega
      have hic : i < c.length := by omega
      have hfl := smps_flen c
      have hle : (j + 1) * 35 ≤ c.length * 35 := Nat.mul_le_mul_right _ hjc
      have hle2 : (i + 1) * 35 ≤ c.length * 35 := Nat.mul_le_mul_right _ hic
      have ecl : c[j] = l[j] := by
        have := congrArg (fun z => z[0]?) h6
        simp only [List.getElem?_drop, Nat.add_zero] at this
        rw [List.getElem?_eq_getElem hjc, List.getElem?_eq_getElem hj] at this
        exact Option.some.inj this
      have et : (l.take (j + 1)) = l.take j ++ [l[j]] := by rw [List.take_add_one, List.getElem?_eq_getElem hj]; rfl
      have ed : c.drop (j + 1) = l.drop (j + 1) := by
        have := congrArg (List.drop 1) h6
        simpa [List.drop_drop, Nat.add_comm] using this
      by_cases d : l[j].s > h
      · obtain ⟨c', i', q1, q2, q3, q4⟩ := del_loop L h l hl kx m (j + 1) i c h1 (by omega) (by omega) (by omega) (by rw [et, List.filter_append, h5]; simp [late, d]) ed
        refine ⟨c', i', q1, q2, q3, ?_⟩
        rw [ifb_pos (by omega), chk_true (by omega), chk_true (by omega), smps_row hjc, chk_true (by simp [c[j].len]), smp_set (by simp), chk_true (by rw [c[j].len]; omega), c[j].take, cI_some c[j].g33, ifb_decT, ecl, if_pos d]
        exact q4
      · obtain ⟨c', i', q1, q2, q3, q4⟩ := del_loop L h l hl kx m (j + 1) (i + 1) (c.set i l[j]) (by simp [h1]) (by omega) (by omega) (by omega) (by rw [et, List.filter_append, set_take hic, h5]; simp [late, d]) (by rw [set_drop (by omega)]; exact ed)
        refine ⟨c', i', q1, q2, q3, ?_⟩
        rw [ifb_pos (by omega), chk_true (by omega), chk_true (by omega), smps_row hjc, chk_true (by simp [c[j].len]), smp_set (by simp), chk_true (by rw [c[j].len]; omega), c[j].take, cI_some c[j].g33, ifb_decT, ecl, if_neg d, chk_true (by rw [l[j].len]; omega), chk_true (by omega), chk_true (by rw [l[j].len]; omega), smps_put hic]
        exact q4
    · refine ⟨c, i, h1, by omega, ?_, ?_⟩
      · rw [h5, List.take_of_length_le (by omega)]
      · rw [ifb_neg (by omega)]
theorem del_ok (L : Nat) (h : Int) (l : List Smp) (hl : l.length ≤ 1000000) (hL : l.length + 1 < L) (k : Nat → List V → Int → Option β) :
    ∃ (c' : List Smp) (i' : Nat), c'.length = l.length ∧ i' ≤ l.length ∧ c'.take i' = l.filter (fun x => !late h x) ∧
      F_slices_DeleteFunc_Lapi_Sample_api_Sample β L l.length (smps l).flatten h k = k i' (smps c').flatten h := by
  have hidx : ∀ k : Int → List V → Int → Option β, F_slices_IndexFunc_Lapi_Sample_api_Sample β L l.length (smps l).flatten h k = k (fidx (late h) l 0) (smps l).flatten h := by
    intro k
    simp only [F_slices_IndexFunc_Lapi_Sample_api_Sample, R_slices_IndexFunc_Lapi_Sample_api_Sample, e_slices_IndexFunc_Lapi_Sample_api_Sample]
    rw [show ((0 : Int)) = ((0 : Nat) : Int) from rfl, index_loop L h l hl k L 0 (by omega) (by omega), List.drop_zero]
  simp only [F_slices_DeleteFunc_Lapi_Sample_api_Sample, R_slices_DeleteFunc_Lapi_Sample_api_Sample, e_slices_DeleteFunc_Lapi_Sample_api_Sample, hidx, lt_eq]
  rcases fidx_spec (late h) l 0 with ⟨e, hn⟩ | ⟨i, hi, e, hn, hp⟩
  · refine ⟨l, l.length, rfl, Nat.le_refl _, ?_, ?_⟩
    · rw [List.take_of_length_le (Nat.le_refl _), List.filter_eq_self.2 (fun x hx => by rw [hn x hx]; rfl)]
    · rw [chk_T, e, ifb_beq_pos rfl]
  · rw [Nat.zero_add] at e
    have et : (l.take (i + 1)) = l.take i ++ [l[i]] := by rw [List.take_add_one, List.getElem?_eq_getElem hi]; rfl
    obtain ⟨c', i', q1, q2, q3, q4⟩ := del_loop L h l hl (fun p0l p5 b0 b1_0 => rbbbabax0_slices_DeleteFunc_Lapi_Sample_api_Sample F_slices_IndexFunc_Lapi_Sample_api_Sample F_fees_Rewind_1 L p0l p5 b0 b1_0 k) L (i + 1) i l rfl (by omega) (by omega) (by omega)
      (by rw [et, List.filter_append, List.filter_eq_self.2 (fun x hx => by rw [hn x hx]; rfl)]; simp [hp]) rfl
    refine ⟨c'.take i' ++ List.replicate (c'.length - i') zsmp, i', by simp; omega, q2, ?_, ?_⟩
    · rw [List.take_append_of_le_length (by simp; omega), List.take_take, Nat.min_self, q3]
    · rw [chk_T, e, ifb_beq_neg (by omega), wrap_succ (by omega), q4]
      simp only [rbbbabax0_slices_DeleteFunc_Lapi_Sample_api_Sample, lt_eq, Nat.zero_add, Int.toNat_natCast, zsmp_row, Nat.sub_zero]
      rw [chk_true (by omega), chk_true (by omega), ← q1, smps_wipe c' (by omega)]
theorem rw_loop (L : Nat) (h : Int) (n w : Nat) (hw : w ≤ n) (hn : n ≤ 1000000) (kx : Nat → Int → List V → Option β) : ∀ (m t : Nat) (c : List Smp), c.length = n → t ≤ w → w - t < m →
    ∃ c' : List Smp, c'.length = n ∧ c'.take w = c.take t ++ ((c.drop t).take (w - t)).map (rw1 h) ∧
      lbbaba_fees_Rewind F_slices_Clone_Lapi_Sample_api_Sample F_slices_DeleteFunc_Lapi_Sample_api_Sample L kx m w w (w : Int) (t : Int) h (smps c).flatten = kx w h (smps c').flatten
  | 0, t, c, h1, h2, h3 => by omega
  | m + 1, t, c, h1, h2, h3 => by
    simp only [lbbaba_fees_Rewind, bbbaba_fees_Rewind, lt_eq, Nat.zero_add, Int.toNat_natCast, wrap_succ (show t ≤ 1000000000 by omega)]
    by_cases ht : t < w
    · have htc : t < c.length := by omega
      have hfl := smps_flen c
      have hle : (t + 1) * 35 ≤ c.length * 35 := Nat.mul_le_mul_right _ htc
      obtain ⟨c', q1, q2, q3⟩ := rw_loop L h n w hw hn kx m (t + 1) (c.set t (rw1 h c[t])) (by simp [h1]) (by omega) (by omega)
      refine ⟨c', q1, ?_, ?_⟩
      · rw [q2, set_take htc, set_drop (by omega), List.drop_eq_getElem_cons htc, show w - t = (w - (t + 1)) + 1 by omega, List.take_succ_cons, List.map_cons, List.append_assoc]
        rfl
      · rw [ifb_pos (by omega), chk_true (by omega), chk_true (by omega), smps_row htc, chk_true (by simp [c[t].len]), smp_set (by simp), cI_some c[t].g34, ifb_dec, chk_true (by omega), chk_true ⟨trivial, by omega⟩, smps_at htc]
        by_cases d : c[t].f > h
        · rw [if_pos d]
          have : rw1 h c[t] = c[t].at 0 := by rw [rw1, if_pos d]
          rw [this] at q3
          exact q3
        · rw [if_neg d]
          have : rw1 h c[t] = c[t] := by rw [rw1, if_neg d]
          rw [this, List.set_getElem_self] at q3
          exact q3
    · refine ⟨c, h1, ?_, ?_⟩
      · rw [show w = t by omega, Nat.sub_self]; simp
      · rw [ifb_neg (by omega)]
theorem fees_rewind (L : Nat) (hL : 200000 ≤ L) (h : Int) (l : List Smp) (hl : l.length ≤ 100000) (k : List (List V) → Option β) : F_fees_Rewind β L (smps l) h k = k (smps (rwd h l)) := by
  obtain ⟨c, w, q1, q2, q3, q4⟩ := del_ok L h l (by omega) (by omega) (fun v1 v2 v3 => chk ([(List.length v2), 1] = [(List.length (List.flatten (smps l))), 1]) (lbbaba_fees_Rewind F_slices_Clone_Lapi_Sample_api_Sample F_slices_DeleteFunc_Lapi_Sample_api_Sample L (fun p0l b3_0 b8 => rbbabax0_fees_Rewind F_slices_Clone_Lapi_Sample_api_Sample F_slices_DeleteFunc_Lapi_Sample_api_Sample L p0l b3_0 b8 k) L v1 v1 ((v1 : Nat) : Int) (0 : Int) v3 v2))
  obtain ⟨c', e1, e2, e3⟩ := rw_loop L h c.length w (by omega) (by omega) (fun p0l b3_0 b8 => rbbabax0_fees_Rewind F_slices_Clone_Lapi_Sample_api_Sample F_slices_DeleteFunc_Lapi_Sample_api_Sample L p0l b3_0 b8 k) L 0 c rfl (by omega) (by omega)
  simp only [F_fees_Rewind, R_fees_Rewind, e_fees_Rewind, clone_ok L l (by omega), smps_len]
  rw [q4, chk_true (by rw [smps_flen, smps_flen, q1])]
  refine e3.trans ?_
  simp only [rbbabax0_fees_Rewind]
  rw [chunks_takes (smps_each c') (by rw [smps_len]; omega), smps_take, e2, List.take_zero, List.nil_append, List.drop_zero, Nat.sub_zero, q3]
  rfl
theorem rwd_len (h : Int) (l : List Smp) : (rwd h l).length ≤ l.length := by
  unfold rwd; rw [List.length_map]; exact List.length_filter_le _ _
/-! classes -/
theorem class_ex (L : Nat) (hL : 100 ≤ L) (rate : Int) : ∃ c : Int, ∀ (k : Int → Option β), F_fees_Class β L rate k = k c := by
  obtain ⟨m, rfl⟩ : ∃ m, L = m + 100 := ⟨L - 100, by omega⟩
  have hb : ∃ bs : List Int, bs.length = 24 ∧ ∀ k : List V → Option β, F_fees_bounds β (m + 100) k = k (row .i64 bs) :=
    ⟨[10, 15, 22, 33, 49, 73, 109, 163, 244, 366, 549, 823, 1234, 1851, 2776, 4164, 6246, 9369, 14053, 21079, 31618, 47427, 71140, 106710], rfl, fun k => by kernel_rfl⟩
  obtain ⟨bs, hbl, hb⟩ := hb
  have loop : ∀ (f c : Nat) (x : Int), c ≤ 24 → 24 - c < f → ∃ r : Int, ∀ (kx : Int → Option β), lbbaba_fees_Class F_fees_bounds (m + 100) kx f rate x (row .i64 bs) (c : Int) = kx r := by
    intro f
    induction f with
    | zero => intro c x h1 h2; omega
    | succ f ih =>
      intro c x h1 h2
      by_cases h : c < 24
      · obtain ⟨r1, q1⟩ := ih (c + 1) c (by omega) (by omega)
        obtain ⟨r2, q2⟩ := ih (c + 1) x (by omega) (by omega)
        have hc : (row .i64 bs)[c * 1]? = some (.sc (.int .i64 (bs[c]'(by omega)))) := by simp [row, hbl, h]
        refine ⟨if bs[c]'(by omega) ≤ rate then r1 else r2, fun kx => ?_⟩
        simp only [lbbaba_fees_Class, bbbaba_fees_Class, lt_eq, wrap_succ (show c ≤ 1000000000 by omega), Int.toNat_natCast]
        rw [ifb_pos (by omega), chk_true (by omega), cI_some hc, ifb_dec]
        by_cases g : bs[c]'(by omega) ≤ rate
        · rw [if_pos g, if_pos g]; exact q1 kx
        · rw [if_neg g, if_neg g]; exact q2 kx
      · refine ⟨x, fun kx => ?_⟩
        simp only [lbbaba_fees_Class, bbbaba_fees_Class]
        rw [ifb_neg (by omega)]
  obtain ⟨r, q⟩ := loop (m + 100) 0 (-1) (by omega) (by omega)
  refine ⟨r, fun k => ?_⟩
  simp only [F_fees_Class, R_fees_Class, e_fees_Class, hb]
  exact q _
/-! observe -/
theorem index2_loop (L : Nat) (id : List Int) (hid : id.length = 32) (l : List Smp) (hl : l.length ≤ 1000000) (k : Int → List V → Option β) : ∀ (m i : Nat), i ≤ l.length → l.length - i < m →
    lbaba_slices_IndexFunc_Lapi_Sample_api_Sample_1 F_fees_Observe_1 L (fun p4 b0 => rbabaret_slices_IndexFunc_Lapi_Sample_api_Sample_1 F_fees_Observe_1 L p4 b0 k) (fun b0 => rbabax0_slices_IndexFunc_Lapi_Sample_api_Sample_1 F_fees_Observe_1 L b0 k) m (smps l) (l.length : Int) (i : Int) (row .u8 id) = k (fidx (fun x => decide (x.id = id)) (l.drop i) i) (row .u8 id)
  | 0, i, h1, h2 => by omega
  | m + 1, i, h1, h2 => by
    simp only [lbaba_slices_IndexFunc_Lapi_Sample_api_Sample_1, bbaba_slices_IndexFunc_Lapi_Sample_api_Sample_1, lt_eq, wrap_succ (show i ≤ 1000000000 by omega), F_fees_Observe_1, R_fees_Observe_1]
    by_cases hi : i < l.length
    · have ih := index2_loop L id hid l hl k m (i + 1) (by omega) (by omega)
      rw [ifb_pos (by omega), idx_nat (smps_get hi), l[i].take, chk_true (by rw [l[i].len]; omega), chk_true (by rw [row_len, hid]; omega), l[i].take32, row32 hid, eqC_row .u8 l[i].hid hid, chk_T, ifb_dec, List.drop_eq_getElem_cons hi, fidx]
      by_cases d : l[i].id = id
      · rw [if_pos d, if_pos (by simp [d])]; rfl
      · rw [if_neg d, if_neg (by simp [d])]; exact ih
    · rw [ifb_neg (by omega), List.drop_of_length_le (by omega)]; rfl
def hasId (id : List Int) (l : List Smp) : Bool := l.any fun x => decide (x.id = id)
theorem contains_ok (L : Nat) (hL : 200000 ≤ L) (id : List Int) (hid : id.length = 32) (l : List Smp) (hl : l.length ≤ 100000) (k : Bool → List V → Option β) : F_slices_ContainsFunc_Lapi_Sample_api_Sample β L (smps l) (row .u8 id) k = k (hasId id l) (row .u8 id) := by
  simp only [F_slices_ContainsFunc_Lapi_Sample_api_Sample, R_slices_ContainsFunc_Lapi_Sample_api_Sample, F_slices_IndexFunc_Lapi_Sample_api_Sample_1, R_slices_IndexFunc_Lapi_Sample_api_Sample_1, e_slices_IndexFunc_Lapi_Sample_api_Sample_1, smps_len]
  rw [show ((0 : Int)) = ((0 : Nat) : Int) from rfl, index2_loop L id hid l (by omega) _ L 0 (by omega) (by omega), chk_true rfl, show ((0 : Nat) : Int) = 0 from rfl, fidx_ge, List.drop_zero]
  rfl
def newS (id : List Int) (hid : id.length = 32) (c h : Int) : Smp := ⟨id, c, h, 0, hid⟩
theorem new_row (id : List Int) (hid : id.length = 32) (c h : Int) :
    setAt (List.replicate 32 (V.sc (.int .u8 (0 : Int))) ++ [(V.sc (.int .i64 (0 : Int))), (V.sc (.int .i64 (0 : Int))), (V.sc (.int .i64 (0 : Int)))]) 0 (setAt (setAt (setAt (List.replicate 32 (V.sc (.int .u8 (0 : Int))) ++ [(V.sc (.int .i64 (0 : Int))), (V.sc (.int .i64 (0 : Int))), (V.sc (.int .i64 (0 : Int)))]) 0 (List.take 32 (row .u8 id))) 32 [(V.sc (.int .i64 c))]) 33 [(V.sc (.int .i64 h))]) = (newS id hid c h).row := by
  have z1 : setAt (List.replicate 32 (V.sc (.int .u8 (0 : Int))) ++ [(V.sc (.int .i64 (0 : Int))), (V.sc (.int .i64 (0 : Int))), (V.sc (.int .i64 (0 : Int)))]) 0 (row .u8 id) = row .u8 id ++ [(V.sc (.int .i64 (0 : Int))), (V.sc (.int .i64 (0 : Int))), (V.sc (.int .i64 (0 : Int)))] := by
    simp [setAt, row_len, hid]
  have s1 : ∀ (a b d e : V), setAt (row .u8 id ++ [a, b, d]) 32 [e] = row .u8 id ++ [e, b, d] := by
    intro a b d e; simp [setAt, List.take_append, List.drop_append, row_len, hid, List.drop_of_length_le, List.take_of_length_le]
  have s2 : ∀ (a b d e : V), setAt (row .u8 id ++ [a, b, d]) 33 [e] = row .u8 id ++ [a, e, d] := by
    intro a b d e; simp [setAt, List.take_append, List.drop_append, row_len, hid, List.drop_of_length_le, List.take_of_length_le]
  rw [row32 hid, z1, s1, s2]
  exact smp_set (by simp) (newS id hid c h)
theorem setAt_len35 {cs new : List V} {off : Nat} (hc : cs.length = 35) (h : off + new.length ≤ 35) : (setAt cs off new).length = 35 := by rw [setAt_len (by omega), hc]
def obsS (c : Int) (l : List Smp) (id : List Int) (hid : id.length = 32) (h : Int) : List Smp × Int :=
  if c < 0 ∨ ¬ (1 ≤ h ∧ h ≤ 16777216) then ([], 5) else if hasId id l = true then ([], 150) else if 2048 ≤ l.length then ([], 380) else (l ++ [newS id hid c h], 0)
theorem fees_observe (L : Nat) (hL : 200000 ≤ L) (l : List Smp) (hl : l.length ≤ 100000) (id : List Int) (hid : id.length = 32) (rate h c : Int) (hc : ∀ k : Int → Option β, F_fees_Class β L rate k = k c) (k : List (List V) → Int → Option β) :
    F_fees_Observe β L (smps l) (row .u8 id) rate h k = k (smps (obsS c l id hid h).1) (obsS c l id hid h).2 := by
  simp only [F_fees_Observe, R_fees_Observe, hc, contains_ok L hL id hid l hl, clone_ok L l (by omega), ifb_dec, lt_eq, smps_len]
  unfold obsS
  by_cases h1 : c < 0
  · rw [if_pos h1, if_pos (.inl h1)]; rfl
  rw [if_neg h1]
  by_cases h2 : h < 1
  · rw [if_pos h2, if_pos (.inr (by omega))]; rfl
  rw [if_neg h2]
  by_cases h3 : h > 16777216
  · rw [if_pos h3, if_pos (.inr (by omega))]; rfl
  rw [if_neg h3, if_neg (show ¬ (c < 0 ∨ ¬ (1 ≤ h ∧ h ≤ 16777216)) by omega), chk_T]
  cases h4 : hasId id l with
  | true => rw [ifb_true, if_pos rfl]; rfl
  | false =>
    rw [ifb_false, if_neg (show ¬ (false = true) by simp)]
    by_cases h5 : (l.length : Int) ≥ 2048
    · rw [if_pos h5, if_pos (show 2048 ≤ l.length by omega)]; rfl
    rw [if_neg h5, if_neg (show ¬ 2048 ≤ l.length by omega), chk_true (by rw [row_len, hid]; omega), chk_true (by rw [row32 hid, row_len, hid]; omega)]
    have l1 : (setAt (List.replicate 32 (V.sc (.int .u8 (0 : Int))) ++ [(V.sc (.int .i64 (0 : Int))), (V.sc (.int .i64 (0 : Int))), (V.sc (.int .i64 (0 : Int)))]) 0 (List.take 32 (row .u8 id))).length = 35 := setAt_len35 (by simp) (by rw [row32 hid, row_len, hid]; omega)
    have l2 := setAt_len35 (off := 32) (new := [(V.sc (.int .i64 c))]) l1 (by simp)
    have l3 := setAt_len35 (off := 33) (new := [(V.sc (.int .i64 h))]) l2 (by simp)
    have ec : chunks 35 1 (newS id hid c h).row = [(newS id hid c h).row] := by simp [chunks, Smp.take]
    rw [chk_true ⟨trivial, by rw [l1]; omega⟩, chk_true ⟨trivial, by rw [l2]; omega⟩, chk_true ⟨l3, by omega⟩, new_row id hid c h, ec, chk_true (by simp [sizeCap]; omega)]
    simp [smps]
/-! lists compared -/
theorem same_loop (L : Nat) (l : List Smp) (hl : l.length ≤ 1000000) (kr : Bool → Option β) (kx : Option β) : ∀ (m i : Nat), i ≤ l.length → l.length - i < m → lbbaba_ref33_Same L kr kx m (smps l) (smps l) (i : Int) = kx
  | 0, i, h1, h2 => by omega
  | m + 1, i, h1, h2 => by
    simp only [lbbaba_ref33_Same, bbbaba_ref33_Same, lt_eq, smps_len, wrap_succ (show i ≤ 1000000000 by omega)]
    by_cases h : i < l.length
    · have e : ∀ κ : Bool → Option β, eqC 35 l[i].row l[i].row κ = κ true := by
        intro κ
        have : eqCells l[i].row l[i].row = some true := by
          have gen : ∀ (k : IntKind) (a : List Int) (b : List V), eqCells b b = some true → eqCells (row k a ++ b) (row k a ++ b) = some true := by
            intro k a b hb
            induction a with
            | nil => exact hb
            | cons x a ih => simp only [row, List.map_cons, List.cons_append, eqCells, if_true] at ih ⊢; rw [ih]; simp
          exact gen _ _ _ (by simp [eqCells])
        simp only [eqC, l[i].len, this, and_self, if_true]
      rw [ifb_pos (by omega), idx_nat (smps_get h), idx_nat (smps_get h), l[i].take, e, same_loop L l hl kr kx m (i + 1) (by omega) (by omega)]
      rfl
    · rw [ifb_neg (by omega)]
theorem same_ok (L : Nat) (l : List Smp) (hl : l.length ≤ 1000000) (hL : l.length < L) (k : Bool → Option β) : F_ref33_Same β L (smps l) (smps l) k = k true := by
  simp only [F_ref33_Same, R_ref33_Same, e_ref33_Same, smps_len, ifb_bne, if_true]
  rw [show ((0 : Int)) = ((0 : Nat) : Int) from rfl, same_loop L l hl _ _ L 0 (by omega) (by omega)]
  rfl
end Go.Proofs.Ythplooifbkopgaa
