/- fees: what is forgotten; the law FeesObserves. -/
import Derived.Test.YthplooifbkopgaaPUS
namespace Go.Proofs.Ythplooifbkopgaa
set_option linter.unusedVariables false
set_option linter.unusedSimpArgs false
set_option maxRecDepth 100000
section
variable {β : Type}
def old (h : Int) (x : Smp) : Bool := decide (x.s < IntKind.wrap .i64 (h - 96))
theorem eindex_loop (L : Nat) (h : Int) (l : List Smp) (hl : l.length ≤ 1000000) (k : Int → List V → Int → Option β) : ∀ (m i : Nat), i ≤ l.length → l.length - i < m →
    lbaba_slices_IndexFunc_Lapi_Sample_api_Sample_2 F_fees_Expire_1 L (fun p4 b0 b1_0 => rbabaret_slices_IndexFunc_Lapi_Sample_api_Sample_2 F_fees_Expire_1 L p4 b0 b1_0 k) (fun b0 b1_0 => rbabax0_slices_IndexFunc_Lapi_Sample_api_Sample_2 F_fees_Expire_1 L b0 b1_0 k) m l.length (l.length : Int) (i : Int) (smps l).flatten h = k (fidx (old h) (l.drop i) i) (smps l).flatten h
  | 0, i, h1, h2 => by omega
  | m + 1, i, h1, h2 => by
    simp only [lbaba_slices_IndexFunc_Lapi_Sample_api_Sample_2, bbaba_slices_IndexFunc_Lapi_Sample_api_Sample_2, lt_eq, Nat.zero_add, Int.toNat_natCast, wrap_succ (show i ≤ 1000000000 by omega), F_fees_Expire_1, R_fees_Expire_1, lt_eq]
    by_cases hi : i < l.length
    · have hfl := smps_flen l
      have hle : (i + 1) * 35 ≤ l.length * 35 := Nat.mul_le_mul_right _ hi
      rw [ifb_pos (by omega), chk_true (by omega), chk_true (by omega), smps_row hi, cI_some l[i].g33, ifb_dec, List.drop_eq_getElem_cons hi, fidx]
      have ih := eindex_loop L h l hl k m (i + 1) (by omega) (by omega)
      by_cases d : l[i].s < IntKind.wrap .i64 (h - 96)
      · rw [if_pos d, if_pos (by simp [old, d])]; rfl
      · rw [if_neg d, if_neg (by simp [old, d])]; exact ih
    · rw [ifb_neg (by omega), List.drop_of_length_le (by omega)]; rfl
theorem edel_loop (L : Nat) (h : Int) (l : List Smp) (hl : l.length ≤ 1000000) (kx : Nat → Int → List V → Int → Option β) : ∀ (m j i : Nat) (c : List Smp), c.length = l.length → i ≤ j → j ≤ l.length → l.length - j < m → c.take i = (l.take j).filter (fun x => !old h x) → c.drop j = l.drop j →
    ∃ (c' : List Smp) (i' : Nat), c'.length = l.length ∧ i' ≤ l.length ∧ c'.take i' = l.filter (fun x => !old h x) ∧
      lbbbaba_slices_DeleteFunc_Lapi_Sample_api_Sample_1 F_slices_IndexFunc_Lapi_Sample_api_Sample_2 F_fees_Expire_1 L kx m l.length (i : Int) (j : Int) (smps c).flatten h = kx l.length (i' : Int) (smps c').flatten h
  | 0, j, i, c, h1, h2, h3, h4, h5, h6 => by omega
  | m + 1, j, i, c, h1, h2, h3, h4, h5, h6 => by
    simp only [lbbbaba_slices_DeleteFunc_Lapi_Sample_api_Sample_1, bbbbaba_slices_DeleteFunc_Lapi_Sample_api_Sample_1, lt_eq, Nat.zero_add, Int.toNat_natCast, wrap_succ (show i ≤ 1000000000 by omega), wrap_succ (show j ≤ 1000000000 by omega), F_fees_Expire_1, R_fees_Expire_1, lt_eq]
    by_cases hj : j < l.length
    · have hjc : j < c.length := by omega
      have hic : i < c.length := by omega
      have hfl := smps_flen c
      have hle : (j + 1) * 35 ≤ c.length * 35 := Nat.mul_le_mul_right _ hjc
      have hle2 : (i + 1) * 35 ≤ c.length * 35 := Nat.mul_le_mul_right _ hic
      have ecl : c[j] = l[j] := by
        have := congrArg (fun z => z[0]?) h6
        simp only [List.getElem?_drop, Nat.add_zero] at this
        rw [List.getElem?_eq_getElem hjc, List.getElem?_eq_getElem hj] at this
        exact Option.some.inj this
      have et : (l.take (j + 1)) = l.take j ++ [l[j]] := by rw [List.take_add_one, List.getElem?_eq_getElem hj]; rfl
      have ed : c.drop (j + 1) = l.drop (j + 1) := by
        have := congrArg (List.drop 1) h6
        simpa [List.drop_drop, Nat.add_comm] using this
      by_cases d : l[j].s < IntKind.wrap .i64 (h - 96)
      · obtain ⟨c', i', q1, q2, q3, q4⟩ := edel_loop L h l hl kx m (j + 1) i c h1 (by omega) (by omega) (by omega) (by rw [et, List.filter_append, h5]; simp [old, d]) ed
        refine ⟨c', i', q1, q2, q3, ?_⟩
        rw [ifb_pos (by omega), chk_true (by omega), chk_true (by omega), smps_row hjc, chk_true (by simp [c[j].len]), smp_set (by simp), chk_true (by rw [c[j].len]; omega), c[j].take, cI_some c[j].g33, ifb_decT, ecl, if_pos d]
        exact q4
      · obtain ⟨c', i', q1, q2, q3, q4⟩ := edel_loop L h l hl kx m (j + 1) (i + 1) (c.set i l[j]) (by simp [h1]) (by omega) (by omega) (by omega) (by rw [et, List.filter_append, set_take hic, h5]; simp [old, d]) (by rw [set_drop (by omega)]; exact ed)
        refine ⟨c', i', q1, q2, q3, ?_⟩
        rw [ifb_pos (by omega), chk_true (by omega), chk_true (by omega), smps_row hjc, chk_true (by simp [c[j].len]), smp_set (by simp), chk_true (by rw [c[j].len]; omega), c[j].take, cI_some c[j].g33, ifb_decT, ecl, if_neg d, chk_true (by rw [l[j].len]; omega), chk_true (by omega), chk_true (by rw [l[j].len]; omega), smps_put hic]
        exact q4
    · refine ⟨c, i, h1, by omega, ?_, ?_⟩
      · rw [h5, List.take_of_length_le (by omega)]
      · rw [ifb_neg (by omega)]
theorem edel_ok (L : Nat) (h : Int) (l : List Smp) (hl : l.length ≤ 1000000) (hL : l.length + 1 < L) (k : Nat → List V → Int → Option β) :
    ∃ (c' : List Smp) (i' : Nat), c'.length = l.length ∧ i' ≤ l.length ∧ c'.take i' = l.filter (fun x => !old h x) ∧
      F_slices_DeleteFunc_Lapi_Sample_api_Sample_1 β L l.length (smps l).flatten h k = k i' (smps c').flatten h := by
  have hidx : ∀ k : Int → List V → Int → Option β, F_slices_IndexFunc_Lapi_Sample_api_Sample_2 β L l.length (smps l).flatten h k = k (fidx (old h) l 0) (smps l).flatten h := by
    intro k
    simp only [F_slices_IndexFunc_Lapi_Sample_api_Sample_2, R_slices_IndexFunc_Lapi_Sample_api_Sample_2, e_slices_IndexFunc_Lapi_Sample_api_Sample_2]
    rw [show ((0 : Int)) = ((0 : Nat) : Int) from rfl, eindex_loop L h l hl k L 0 (by omega) (by omega), List.drop_zero]
  simp only [F_slices_DeleteFunc_Lapi_Sample_api_Sample_1, R_slices_DeleteFunc_Lapi_Sample_api_Sample_1, e_slices_DeleteFunc_Lapi_Sample_api_Sample_1, hidx, lt_eq]
  rcases fidx_spec (old h) l 0 with ⟨e, hn⟩ | ⟨i, hi, e, hn, hp⟩
  · refine ⟨l, l.length, rfl, Nat.le_refl _, ?_, ?_⟩
    · rw [List.take_of_length_le (Nat.le_refl _), List.filter_eq_self.2 (fun x hx => by rw [hn x hx]; rfl)]
    · rw [chk_T, e, ifb_beq_pos rfl]
  · rw [Nat.zero_add] at e
    have et : (l.take (i + 1)) = l.take i ++ [l[i]] := by rw [List.take_add_one, List.getElem?_eq_getElem hi]; rfl
    obtain ⟨c', i', q1, q2, q3, q4⟩ := edel_loop L h l hl (fun p0l p5 b0 b1_0 => rbbbabax0_slices_DeleteFunc_Lapi_Sample_api_Sample_1 F_slices_IndexFunc_Lapi_Sample_api_Sample_2 F_fees_Expire_1 L p0l p5 b0 b1_0 k) L (i + 1) i l rfl (by omega) (by omega) (by omega)
      (by rw [et, List.filter_append, List.filter_eq_self.2 (fun x hx => by rw [hn x hx]; rfl)]; simp [hp]) rfl
    refine ⟨c'.take i' ++ List.replicate (c'.length - i') zsmp, i', by simp; omega, q2, ?_, ?_⟩
    · rw [List.take_append_of_le_length (by simp; omega), List.take_take, Nat.min_self, q3]
    · rw [chk_T, e, ifb_beq_neg (by omega), wrap_succ (by omega), q4]
      simp only [rbbbabax0_slices_DeleteFunc_Lapi_Sample_api_Sample_1, lt_eq, Nat.zero_add, Int.toNat_natCast, zsmp_row, Nat.sub_zero]
      rw [chk_true (by omega), chk_true (by omega), ← q1, smps_wipe c' (by omega)]

theorem fees_expire (L : Nat) (hL : 200000 ≤ L) (h : Int) (l : List Smp) (hl : l.length ≤ 100000) (k : List (List V) → Option β) : F_fees_Expire β L (smps l) h k = k (smps (l.filter (fun x => !old h x))) := by
  obtain ⟨c, w, q1, q2, q3, q4⟩ := edel_ok L h l (by omega) (by omega) (fun v1 v2 v3 => chk ([(List.length v2), 1] = [(List.length (List.flatten (smps l))), 1]) (k (chunks 35 v1 v2)))
  simp only [F_fees_Expire, R_fees_Expire, clone_ok L l (by omega), smps_len]
  rw [q4, chk_true (by rw [smps_flen, smps_flen, q1]), chunks_takes (smps_each c) (by rw [smps_len]; omega), smps_take, q3]
theorem one_row (x : Smp) : chunks 35 1 x.row = [x.row] := by simp [chunks, Smp.take]
theorem smps_snoc (l : List Smp) (x : Smp) : smps l ++ [x.row] = smps (l ++ [x]) := by simp [smps]
theorem rwd_late {h : Int} {x : Smp} (d : x.s > h) (l : List Smp) : rwd h (x :: l) = rwd h l := by simp [rwd, List.filter_cons, late, d]
theorem rwd_cons {h : Int} {x : Smp} (d : ¬ x.s > h) (l : List Smp) : rwd h (x :: l) = rw1 h x :: rwd h l := by simp [rwd, List.filter_cons, late, d]
theorem ref_rw_loop (L : Nat) (h : Int) (l : List Smp) (hl : l.length ≤ 100000) (kx : List (List V) → Option β) : ∀ (m i : Nat) (acc : List Smp), i ≤ l.length → l.length - i < m → acc.length ≤ i →
    lbbaba_ref33_Rewind L kx m (smps l) h (smps acc) (i : Int) = kx (smps (acc ++ rwd h (l.drop i)))
  | 0, i, acc, h1, h2, h3 => by omega
  | m + 1, i, acc, h1, h2, h3 => by
    simp only [lbbaba_ref33_Rewind, bbbaba_ref33_Rewind, lt_eq, smps_len, wrap_succ (show i ≤ 1000000000 by omega)]
    by_cases hi : i < l.length
    · rw [ifb_pos (by omega), idx_nat (smps_get hi), l[i].take, chk_true (by rw [l[i].len]; omega), smp_set (by simp), cI_some l[i].g33, ifb_dec, List.drop_eq_getElem_cons hi]
      by_cases d : l[i].s > h
      · have e : rwd h (l[i] :: l.drop (i + 1)) = rwd h (l.drop (i + 1)) := rwd_late d _
        rw [if_pos d, e]
        exact ref_rw_loop L h l hl kx m (i + 1) acc (by omega) (by omega) (by omega)
      · have e : rwd h (l[i] :: l.drop (i + 1)) = rw1 h l[i] :: rwd h (l.drop (i + 1)) := rwd_cons d _
        rw [if_neg d, cI_some l[i].g34, ifb_dec, e]
        have ih := ref_rw_loop L h l hl kx m (i + 1) (acc ++ [rw1 h l[i]]) (by omega) (by omega) (by simp; omega)
        rw [List.append_assoc] at ih
        by_cases f : l[i].f > h
        · have e1 : rw1 h l[i] = l[i].at 0 := by rw [rw1, if_pos f]
          rw [e1] at ih
          rw [if_pos f, e1, setAt_one (by rw [l[i].len]; omega), l[i].set34, (l[i].at 0).take, chk_true ⟨trivial, by rw [l[i].len]; omega⟩, chk_true (by rw [(l[i].at 0).len]; omega), chk_true (by rw [(l[i].at 0).len]; omega), smp_set (by simp), one_row, chk_true (by simp [sizeCap]; omega), smps_snoc]
          exact ih
        · have e1 : rw1 h l[i] = l[i] := by rw [rw1, if_neg f]
          rw [e1] at ih
          rw [if_neg f, e1, l[i].take, chk_true (by rw [l[i].len]; omega), chk_true (by rw [l[i].len]; omega), smp_set (by simp), one_row, chk_true (by simp [sizeCap]; omega), smps_snoc]
          exact ih
    · rw [ifb_neg (by omega), List.drop_of_length_le (by omega)]
      simp [rwd]
theorem ref_rewind (L : Nat) (hL : 200000 ≤ L) (h : Int) (l : List Smp) (hl : l.length ≤ 100000) (k : List (List V) → Option β) : F_ref33_Rewind β L (smps l) h k = k (smps (rwd h l)) := by
  simp only [F_ref33_Rewind, R_ref33_Rewind, e_ref33_Rewind]
  have := ref_rw_loop L h l hl (fun p5 => rbbabax0_ref33_Rewind L p5 k) L 0 [] (by omega) (by omega) (by simp)
  rw [List.drop_zero] at this
  exact this
theorem ref_ex_loop (L : Nat) (h : Int) (l : List Smp) (hl : l.length ≤ 100000) (kx : List (List V) → Option β) : ∀ (m i : Nat) (acc : List Smp), i ≤ l.length → l.length - i < m → acc.length ≤ i →
    lbbaba_ref33_Expire L kx m (smps l) h (smps acc) (i : Int) = kx (smps (acc ++ (l.drop i).filter (fun x => !old h x)))
  | 0, i, acc, h1, h2, h3 => by omega
  | m + 1, i, acc, h1, h2, h3 => by
    simp only [lbbaba_ref33_Expire, bbbaba_ref33_Expire, lt_eq, smps_len, wrap_succ (show i ≤ 1000000000 by omega)]
    by_cases hi : i < l.length
    · have g : (List.drop 33 l[i].row)[0]? = some (.sc (.int .i64 l[i].s)) := by rw [List.getElem?_drop]; exact l[i].g33
      rw [ifb_pos (by omega), idx_nat (smps_get hi), cI_some g, ifb_dec, List.drop_eq_getElem_cons hi]
      by_cases d : l[i].s < IntKind.wrap .i64 (h - 96)
      · rw [if_neg (show ¬ (l[i].s ≥ IntKind.wrap .i64 (h - 96)) by omega), List.filter_cons, if_neg (by simp [old, d])]
        exact ref_ex_loop L h l hl kx m (i + 1) acc (by omega) (by omega) (by omega)
      · have ih := ref_ex_loop L h l hl kx m (i + 1) (acc ++ [l[i]]) (by omega) (by omega) (by simp; omega)
        rw [List.append_assoc] at ih
        rw [if_pos (show l[i].s ≥ IntKind.wrap .i64 (h - 96) by omega), List.filter_cons, if_pos (by simp [old, d]), idx_nat (smps_get hi), l[i].take, chk_true (by rw [l[i].len]; omega), smp_set (by simp), one_row, chk_true (by simp [sizeCap]; omega), smps_snoc]
        exact ih
    · rw [ifb_neg (by omega), List.drop_of_length_le (by omega)]
      simp
theorem ref_expire (L : Nat) (hL : 200000 ≤ L) (h : Int) (l : List Smp) (hl : l.length ≤ 100000) (k : List (List V) → Option β) : F_ref33_Expire β L (smps l) h k = k (smps (l.filter (fun x => !old h x))) := by
  simp only [F_ref33_Expire, R_ref33_Expire, e_ref33_Expire]
  have := ref_ex_loop L h l hl (fun p5 => rbbabax0_ref33_Expire L p5 k) L 0 [] (by omega) (by omega) (by simp)
  rw [List.drop_zero] at this
  exact this
end
theorem obs_len (c : Int) (l : List Smp) (id : List Int) (hid : id.length = 32) (h : Int) : (obsS c l id hid h).1.length ≤ l.length + 1 := by
  unfold obsS
  split
  · simp
  · split
    · simp
    · split
      · simp
      · simp
theorem feesObserves_plain (a0 : List (List V)) (a1 a2 : Int) (hl0 : a0.length ≤ maxLen) (wf0 : ∀ e ∈ a0, HasRow [.int .i64] e) (wf1 : (Lit.int .i64 a1).wf = true) (wf2 : (Lit.int .i64 a2).wf = true) :
    ∃ L, ∀ k : Bool → Option Bool, F_law33_FeesObserves Bool L a0 a1 a2 k = k true := by
  obtain ⟨l, rfl, _⟩ := ints_of wf0
  rw [ints_len] at hl0
  obtain ⟨L, hL⟩ : ∃ L : Nat, 200100 ≤ L := ⟨200100, Nat.le_refl _⟩
  refine ⟨L, fun k => ?_⟩
  obtain ⟨n, hn⟩ : ∃ n, L = n + 1 + 1 + 1 := ⟨L - 3, by omega⟩
  have fs : ∀ k : Bool → Option Bool, F_law33_sane Bool L k = k true := by
    obtain ⟨q, rfl⟩ : ∃ q, L = q + 100 := ⟨L - 100, by omega⟩
    exact fun k => fsane q k
  obtain ⟨sl, d1, hsl, _, qs⟩ := samples_ex L (by omega) ⟨l, 0, by omega, by omega, hl0⟩
  have qs : ∀ (β : Type) (k : List (List V) → List (List V) → Int → Option β), F_law33_samples β L (ints .i64 l) 0 k = k (smps sl) d1.es d1.a := qs
  obtain ⟨id, d2, _, hid, q2⟩ := hash_ex L d1
  obtain ⟨hs, d3, _, hs1, hs2, q3⟩ := hashes_ex L (by omega) d2 5 (by omega) (by omega)
  obtain ⟨r, r1, r2, qr⟩ := mod_ex L a1 100 (by omega) (by omega)
  obtain ⟨s, s1, s2, qs2⟩ := mod_ex L a2 20 (by omega) (by omega)
  obtain ⟨u, u1, u2, qu⟩ := mod_ex L a2 130 (by omega) (by omega)
  simp only [F_law33_FeesObserves, R_law33_FeesObserves, e_law33_FeesObserves, fs, F_mill_New, R_mill_New, lt_eq]
  show F_law33_samples Bool L (ints .i64 l) 0 _ = _
  simp only [qs, q2, q3, qr]
  have es : setAt (List.replicate 32 (V.sc (.int .u8 0))) 0 (row .u8 id) = row .u8 id := setAt_all (by simp [row_len, hid])
  rw [chk_true (by rw [row_len, hid]; omega), es]
  have hfo : ∀ (rate h : Int) (k : List (List V) → Int → Option Bool), F_fees_Observe Bool L (smps sl) (row .u8 id) rate h k = k (smps (obsS (clF rate BS 0 (-1)) sl id hid h).1) (obsS (clF rate BS 0 (-1)) sl id hid h).2 :=
    fun rate h k => fees_observe L (by omega) sl (by omega) id hid rate h _ (fclass L (by omega) rate Bool) k
  have hro : ∀ (rate h : Int) (k : List (List V) → Int → Option Bool), F_ref33_Observe Bool L (smps sl) (row .u8 id) rate h k = k (smps (obsS (clF rate BS 0 (-1)) sl id hid h).1) (obsS (clF rate BS 0 (-1)) sl id hid h).2 :=
    fun rate h k => ref_observe L (by omega) sl (by omega) id hid rate h k
  have hsame : ∀ (rate h : Int) (k : Bool → Option Bool), F_ref33_Same Bool L (smps (obsS (clF rate BS 0 (-1)) sl id hid h).1) (smps (obsS (clF rate BS 0 (-1)) sl id hid h).1) k = k true :=
    fun rate h k => by
      have := obs_len (clF rate BS 0 (-1)) sl id hid h
      exact same_ok L _ (by omega) (by omega) k
  have v0 : IntKind.wrap .i64 (0 + 1) = 1 := rfl
  have v1 : IntKind.wrap .i64 (1 + 1) = 2 := rfl
  have ll : ∀ a b : V, ((List.length (chunks 1 2 [a, b]) : Nat) : Int) = 2 := fun _ _ => rfl
  have x0 : ∀ (a b : V) (κ : List V → Option Bool), idx (chunks 1 2 [a, b]) 0 κ = κ [a] := fun _ _ κ => rfl
  have x1 : ∀ (a b : V) (κ : List V → Option Bool), idx (chunks 1 2 [a, b]) 1 κ = κ [b] := fun _ _ κ => rfl
  have cc : ∀ (v : Int) (κ : Int → Option Bool), cI .i64 [V.sc (Value.int IntKind.i64 v)] 0 κ = κ v := fun v κ => rfl
  have lb : List.length (row .u8 id) = 32 := by rw [row_len, hid]
  have inner : ∀ (f : Nat), f = n + 1 + 1 + 1 → ∀ (κr : Bool → List (List V) → Int → Option Bool) (κx : Int → List (List V) → List (List V) → List (List V) → Int → Int → List V → List (List V) → Int → Option Bool) (p10 : List (List V)) (rate : Int) (p33 : List (List V)) (p34 p35 : Int) (w1 w2 : Int) (b : List (List V)) (z : Int),
      lbbbbbabaabbaabba_law33_FeesObserves F_law33_sane F_mill_New F_law33_samples F_mill_Hash F_mill_Hashes F_mill_Mod F_fees_Confirm F_ref33_Confirm F_ref33_Same F_fees_Rewind F_ref33_Rewind F_fees_Expire F_ref33_Expire F_fees_Observe F_ref33_Observe L κr κx f a2 (smps sl) p10 rate p33 p34 p35 (chunks 1 2 [V.sc (.int .i64 w1), V.sc (.int .i64 w2)]) 2 0 (row .u8 id) b z = κx a2 (smps sl) p10 p33 p34 p35 (row .u8 id) b z := by
    rintro f rfl κr κx p10 rate p33 p34 p35 w1 w2 b z
    have c32 : ∀ κ : Option Bool, chk (0 + 32 ≤ List.length (row IntKind.u8 id)) κ = κ := fun κ => chk_true (by rw [lb]; omega) κ
    simp only [lbbbbbabaabbaabba_law33_FeesObserves, bbbbbbabaabbaabba_law33_FeesObserves, lt_eq, v0, v1, x0, x1, cc, c32, row32 hid, hfo, hro, hsame, ifb_bne, ifb_dec, Bool.not_true, ifb_false, if_true]
    simp
  have outer : ∀ (f : Nat), f = n + 1 + 1 + 1 → ∀ (κx : Int → List (List V) → List (List V) → List (List V) → Int → Option Bool) (κr : Bool → List (List V) → Int → Option Bool) (p10 : List (List V)) (w1 w2 : Int) (b : List (List V)) (z : Int),
      lbbbbbaba_law33_FeesObserves F_law33_sane F_mill_New F_law33_samples F_mill_Hash F_mill_Hashes F_mill_Mod F_fees_Confirm F_ref33_Confirm F_ref33_Same F_fees_Rewind F_ref33_Rewind F_fees_Expire F_ref33_Expire F_fees_Observe F_ref33_Observe L κx κr f a2 (smps sl) p10 (chunks 1 2 [V.sc (.int .i64 w1), V.sc (.int .i64 w2)]) 2 0 (row .u8 id) b z = κx a2 (smps sl) p10 b z := by
    rintro f rfl κx κr p10 w1 w2 b z
    simp only [lbbbbbaba_law33_FeesObserves, Cbbbbbbaba_law33_FeesObserves, bbbbbbaba_law33_FeesObserves, rbbbbbabaabbaabbax2_law33_FeesObserves, lt_eq, v0, v1, x0, x1, cc, qs2, ll, inner L hn, ifb_dec]
    simp
  simp only [ll]
  refine (outer L hn _ _ _ _ _ _ _).trans ?_
  have t20 : 0 ≤ Int.tmod u 20 ∧ Int.tmod u 20 < 20 := ⟨Int.tmod_nonneg _ u1, Int.tmod_lt_of_pos u (by omega)⟩
  simp only [rbbbbbabax0_law33_FeesObserves, lt_eq, qu]
  rw [fees_confirm L (by omega) sl (by omega) hs hs1 (by omega), ref_confirm L (by omega) sl (by omega) hs hs1 (by omega), same_ok L _ (by simp; omega) (by simp; omega), ifb_true]
  have rl := rwd_len (Int.tmod u 20) sl
  rw [fees_rewind L (by omega) _ sl (by omega), ref_rewind L (by omega) _ sl (by omega), same_ok L _ (by omega) (by omega), ifb_true]
  have fl := List.length_filter_le (fun x => !old u x) sl
  rw [fees_expire L (by omega) _ sl (by omega), ref_expire L (by omega) _ sl (by omega), same_ok L _ (by omega) (by omega)]
end Go.Proofs.Ythplooifbkopgaa
