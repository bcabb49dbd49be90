/- fees: what confirms, rewinds and observes, on plain samples. -/
import Derived.Test.YthplooifbkopgaaPMill
import Derived.Test.YthplooifbkopgaaPU0
namespace Go.Proofs.Ythplooifbkopgaa
set_option linter.unusedVariables false
set_option linter.unusedSimpArgs false
set_option maxRecDepth 100000
variable {β : Type}
/-- a sample: 32 bytes, class, seen, confirmed -/
structure Smp where
  id : List Int
  c : Int
  s : Int
  f : Int
  hid : id.length = 32
def Smp.row (x : Smp) : List V := Go.Proofs.Ythplooifbkopgaa.row .u8 x.id ++ [.sc (.int .i64 x.c), .sc (.int .i64 x.s), .sc (.int .i64 x.f)]
theorem Smp.len (x : Smp) : x.row.length = 35 := by simp [Smp.row, row_len, x.hid]
theorem Smp.g32 (x : Smp) : x.row[32]? = some (.sc (.int .i64 x.c)) := by simp [Smp.row, row_len, x.hid]
theorem Smp.g33 (x : Smp) : x.row[33]? = some (.sc (.int .i64 x.s)) := by simp [Smp.row, row_len, x.hid]
theorem Smp.g34 (x : Smp) : x.row[34]? = some (.sc (.int .i64 x.f)) := by simp [Smp.row, row_len, x.hid]
theorem Smp.take (x : Smp) : x.row.take 35 = x.row := List.take_of_length_le (by rw [x.len]; omega)
theorem Smp.take32 (x : Smp) : x.row.take 32 = Go.Proofs.Ythplooifbkopgaa.row .u8 x.id := by
  rw [Smp.row, List.take_append_of_le_length (by rw [row_len, x.hid]; omega), List.take_of_length_le (by rw [row_len, x.hid]; omega)]
/-- confirmed at -/
def Smp.at (x : Smp) (v : Int) : Smp := ⟨x.id, x.c, x.s, v, x.hid⟩
theorem Smp.set34 (x : Smp) (v : Int) : x.row.set 34 (.sc (.int .i64 v)) = (x.at v).row := by
  simp only [Smp.row, Smp.at]
  rw [List.set_append_right _ _ (by rw [row_len, x.hid]; omega), row_len, x.hid]
  rfl
theorem smp_set {z : List V} (hz : z.length = 35) (x : Smp) : setAt z 0 x.row = x.row := setAt_all (by rw [x.len, hz])
def smps (l : List Smp) : List (List V) := l.map Smp.row
theorem smps_len (l : List Smp) : (smps l).length = l.length := by simp [smps]
theorem smps_get {l : List Smp} {i : Nat} (h : i < l.length) : (smps l)[i]? = some l[i].row := by simp [smps, h]
theorem smps_each (l : List Smp) : ∀ e ∈ smps l, e.length = 35 := by
  intro e he
  obtain ⟨x, _, rfl⟩ := List.mem_map.1 he
  exact x.len
theorem smps_set (l : List Smp) (i : Nat) (x : Smp) : (smps l).set i x.row = smps (l.set i x) := by simp [smps, List.map_set]
theorem smps_take (l : List Smp) (i : Nat) : (smps l).take i = smps (l.take i) := by simp [smps, List.map_take]
theorem smps_app (l m : List Smp) : smps l ++ smps m = smps (l ++ m) := by simp [smps]
theorem smps_flen (l : List Smp) : (smps l).flatten.length = l.length * 35 := by rw [flat_len (smps_each l), smps_len]
theorem smps_row {l : List Smp} {i : Nat} (h : i < l.length) : List.take 35 (List.drop (i * 35) (smps l).flatten) = l[i].row := by
  rw [flat_take (smps_each l) (by omega) (smps_get h), l[i].take]
theorem smps_id {l : List Smp} {i : Nat} (h : i < l.length) : List.take 32 (List.drop (i * 35) (smps l).flatten) = row .u8 l[i].id := by
  rw [flat_take (smps_each l) (by omega) (smps_get h), l[i].take32]
theorem smps_33 {l : List Smp} {i : Nat} (h : i < l.length) : (smps l).flatten[i * 35 + 33]? = some (.sc (.int .i64 l[i].s)) := by rw [flat_get (by omega) (smps_each l) (by omega) (smps_get h)]; exact l[i].g33
theorem smps_34 {l : List Smp} {i : Nat} (h : i < l.length) : (smps l).flatten[i * 35 + 34]? = some (.sc (.int .i64 l[i].f)) := by rw [flat_get (by omega) (smps_each l) (by omega) (smps_get h)]; exact l[i].g34
theorem smps_at {l : List Smp} {i : Nat} (h : i < l.length) (v : Int) : setAt (smps l).flatten (i * 35 + 34) [V.sc (.int .i64 v)] = (smps (l.set i (l[i].at v))).flatten := by
  rw [flat_set (by omega) (smps_each l) (by omega) (smps_get h), l[i].set34, smps_set]
theorem flat_put {sz : Nat} {es : List (List V)} (h : ∀ e ∈ es, e.length = sz) {i : Nat} (hi : i < es.length) {new : List V} (hn : new.length = sz) : setAt es.flatten (i * sz) new = (es.set i new).flatten := by
  unfold setAt
  rw [flat_takes h, hn, show i * sz + sz = (i + 1) * sz by rw [Nat.add_mul]; omega, flat_drop h, List.set_eq_take_append_cons_drop, if_pos hi]
  simp
theorem smps_put {l : List Smp} {i : Nat} (h : i < l.length) (x : Smp) : setAt (smps l).flatten (i * 35) x.row = (smps (l.set i x)).flatten := by
  rw [flat_put (smps_each l) (by rw [smps_len]; exact h) x.len, smps_set]
def zsmp : Smp := ⟨List.replicate 32 0, 0, 0, 0, by simp⟩
theorem zsmp_row : (List.replicate 32 (V.sc (.int .u8 (0 : Int))) ++ [(V.sc (.int .i64 (0 : Int))), (V.sc (.int .i64 (0 : Int))), (V.sc (.int .i64 (0 : Int)))]) = zsmp.row := rfl
theorem smps_wipe (l : List Smp) {i : Nat} (h : i ≤ l.length) : setAt (smps l).flatten (i * 35) (List.flatten (List.replicate (l.length - i) zsmp.row)) = (smps (l.take i ++ List.replicate (l.length - i) zsmp)).flatten := by
  have e : List.replicate (l.length - i) zsmp.row = smps (List.replicate (l.length - i) zsmp) := by simp [smps]
  unfold setAt
  rw [e, flat_takes (smps_each l), smps_take, smps_flen, List.drop_of_length_le (by
    rw [smps_flen, List.length_replicate]
    have : i * 35 + (l.length - i) * 35 = l.length * 35 := by rw [← Nat.add_mul]; congr 1; omega
    omega), List.append_nil, ← List.flatten_append, smps_app]
theorem hs_get {hs : List (List Int)} {j : Nat} (h : j < hs.length) : (hs.map (row IntKind.u8))[j]? = some (row .u8 hs[j]) := by simp [h]
theorem row32 {id : List Int} (h : id.length = 32) : List.take 32 (row .u8 id) = row .u8 id := List.take_of_length_le (by rw [row_len, h]; omega)
/-! copies -/
theorem clone_ok (L : Nat) (l : List Smp) (hl : l.length ≤ 1000000) (k : List (List V) → Option β) : F_slices_Clone_Lapi_Sample_api_Sample β L (smps l) k = k (smps l) := by
  cases l with
  | nil => rfl
  | cons x l =>
    have e : smps (x :: l) = x.row :: smps l := rfl
    have ec := chunks_flat (smps_each (x :: l))
    rw [e] at ec
    have hl' : (smps l).length + 1 ≤ 1000000 := by rw [smps_len]; simpa using hl
    simp only [F_slices_Clone_Lapi_Sample_api_Sample, R_slices_Clone_Lapi_Sample_api_Sample, e, lc, lt_eq, Nat.zero_add, Nat.zero_mul, List.take_zero, List.nil_append]
    rw [chk_true (by simp [sizeCap]; omega), chk_true (by simp), ec]
/-! confirm -/
def cfS (hs : List (List Int)) (ht : Int) (x : Smp) : Smp := if x.f = 0 ∧ x.s < ht ∧ x.id ∈ hs then x.at ht else x
theorem cfS_id (hs : List (List Int)) (ht : Int) (x : Smp) : (cfS hs ht x).id = x.id := by unfold cfS; split <;> rfl
theorem cfS_cons {hs : List (List Int)} {h : List Int} {ht : Int} {x : Smp} : cfS (h :: hs) ht x = if x.id = h ∧ x.f = 0 ∧ x.s < ht then cfS hs ht (x.at ht) else cfS hs ht x := by
  by_cases c : x.id = h ∧ x.f = 0 ∧ x.s < ht
  · rw [if_pos c]
    have e1 : cfS (h :: hs) ht x = x.at ht := by unfold cfS; rw [if_pos ⟨c.2.1, c.2.2, by simp [c.1]⟩]
    rw [e1]
    unfold cfS
    split
    · rfl
    · rfl
  · rw [if_neg c]
    unfold cfS
    by_cases d : x.f = 0 ∧ x.s < ht
    · have hne : x.id ≠ h := fun e => c ⟨e, d⟩
      simp [d.1, d.2, hne]
    · rw [if_neg (fun q => d ⟨q.1, q.2.1⟩), if_neg (fun q => d ⟨q.1, q.2.1⟩)]
theorem confirm_inner (L : Nat) (hs : List (List Int)) (hh : ∀ x ∈ hs, x.length = 32) (hhl : hs.length ≤ 1000) (ht : Int) (n i b : Nat) (hi : i < n) (kx : List (List V) → Int → Nat → Int → Nat → List V → Option β) : ∀ (m j : Nat) (l : List Smp) (hl : l.length = n), j ≤ hs.length → hs.length - j < m →
    lbbabaabaaba_ref33_Confirm L kx m (hs.map (row .u8)) ht n (i : Int) (j : Int) b (smps l).flatten = kx (hs.map (row .u8)) ht n (i : Int) b (smps (l.set i (cfS (hs.drop j) ht (l[i]'(by omega))))).flatten
  | 0, j, l, h1, h2, h3 => by omega
  | m + 1, j, l, h1, h2, h3 => by
    have hil : i < l.length := by omega
    by_cases h : j < hs.length
    · have hid := hh _ (List.getElem_mem h)
      have hfl := smps_flen l
      have hle : (i + 1) * 35 ≤ l.length * 35 := Nat.mul_le_mul_right _ hil
      have r1 := confirm_inner L hs hh hhl ht n i b hi kx m (j + 1) l h1 (by omega) (by omega)
      have r2 := confirm_inner L hs hh hhl ht n i b hi kx m (j + 1) (l.set i (l[i].at ht)) (by simp [h1]) (by omega) (by omega)
      rw [List.drop_eq_getElem_cons h, cfS_cons]
      simp only [lbbabaabaaba_ref33_Confirm, bbbabaabaaba_ref33_Confirm, lt_eq, List.length_map, Nat.zero_add, Nat.add_zero, Int.toNat_natCast, wrap_succ (show j ≤ 1000000000 by omega)]
      rw [ifb_pos (by omega), chk_true (by omega), chk_true (by omega), idx_nat (hs_get h), smps_id hil, row32 hid, eqC_row .u8 l[i].hid hid, ifb_dec]
      rw [chk_true (by omega), cI_some (smps_34 hil), ifb_beq, chk_true (by omega), cI_some (smps_33 hil), ifb_dec, chk_true (by omega), chk_true ⟨trivial, by omega⟩, smps_at hil, r1, r2]
      simp only [List.getElem_set_self, List.set_set]
      by_cases d1 : l[i].id = hs[j] <;> by_cases d2 : l[i].f = 0 <;> by_cases d3 : l[i].s < ht <;> simp only [d1, d2, d3, and_self, and_true, true_and, and_false, false_and, if_true, if_false]
    · simp only [lbbabaabaaba_ref33_Confirm, bbbabaabaaba_ref33_Confirm, List.length_map]
      have e : cfS (hs.drop j) ht l[i] = l[i] := by rw [List.drop_of_length_le (by omega)]; simp [cfS]
      rw [ifb_neg (by omega), e, List.set_getElem_self]
theorem confirm_outer (L : Nat) (hL : 2000 ≤ L) (hs : List (List Int)) (hh : ∀ x ∈ hs, x.length = 32) (hhl : hs.length ≤ 1000) (ht : Int) (n b : Nat) (hn : n ≤ 100000) (kx : Nat → Nat → List V → Option β) : ∀ (m i : Nat) (l : List Smp), l.length = n → i ≤ n → n - i < m →
    lbbaba_ref33_Confirm L kx m (hs.map (row .u8)) ht n (i : Int) b (smps l).flatten = kx n b (smps (l.take i ++ (l.drop i).map (cfS hs ht))).flatten
  | 0, i, l, h1, h2, h3 => by omega
  | m + 1, i, l, h1, h2, h3 => by
    by_cases h : i < n
    · have hil : i < l.length := by omega
      simp only [lbbaba_ref33_Confirm, Cbbbaba_ref33_Confirm, bbbaba_ref33_Confirm]
      rw [ifb_pos (by omega), show ((0 : Int)) = ((0 : Nat) : Int) from rfl, confirm_inner L hs hh hhl ht n i b h _ L 0 l h1 (by omega) (by omega)]
      simp only [rbbabaabaabax2_ref33_Confirm, lt_eq, wrap_succ (show i ≤ 1000000000 by omega), List.drop_zero]
      rw [confirm_outer L hL hs hh hhl ht n b hn kx m (i + 1) _ (by simp [h1]) (by omega) (by omega)]
      rw [set_take hil, set_drop (by omega), step_eq hil]
    · simp only [lbbaba_ref33_Confirm, Cbbbaba_ref33_Confirm, bbbaba_ref33_Confirm]
      rw [ifb_neg (by omega), List.take_of_length_le (by omega), List.drop_of_length_le (by omega)]
      simp
theorem ref_confirm (L : Nat) (hL : 200000 ≤ L) (l : List Smp) (hl : l.length ≤ 100000) (hs : List (List Int)) (hh : ∀ x ∈ hs, x.length = 32) (hhl : hs.length ≤ 1000) (ht : Int) (k : List (List V) → Option β) :
    F_ref33_Confirm β L (smps l) (hs.map (row .u8)) ht k = k (smps (l.map (cfS hs ht))) := by
  simp only [F_ref33_Confirm, R_ref33_Confirm, e_ref33_Confirm, smps_len, lt_eq, Nat.zero_add, Nat.zero_mul, List.take_zero, List.nil_append, List.flatten_nil, List.length_nil]
  rw [chk_true (by simp [sizeCap]; omega), show ((0 : Int)) = ((0 : Nat) : Int) from rfl, confirm_outer L (by omega) hs hh hhl ht l.length 0 (by omega) _ L 0 l rfl (by omega) (by omega)]
  simp only [rbbabax0_ref33_Confirm, List.take_zero, List.nil_append, List.drop_zero]
  rw [chk_true (by rw [smps_flen, List.length_map]; omega)]
  have := chunks_flat (smps_each (l.map (cfS hs ht)))
  rw [smps_len, List.length_map] at this
  rw [this]
theorem hash_index (L : Nat) (hs : List (List Int)) (hh : ∀ x ∈ hs, x.length = 32) (hhl : hs.length ≤ 1000) (id : List Int) (hid : id.length = 32) (k : Int → Option β) : ∀ (m j : Nat), j ≤ hs.length → hs.length - j < m →
    lbaba_slices_Index_Lapi_Hash_api_Hash L (fun p4 => rbabaret_slices_Index_Lapi_Hash_api_Hash L p4 k) (rbabax0_slices_Index_Lapi_Hash_api_Hash L k) m (hs.map (row .u8)) (hs.length : Int) (j : Int) (row .u8 id) = k (fidx (fun x => decide (id = x)) (hs.drop j) j)
  | 0, j, h1, h2 => by omega
  | m + 1, j, h1, h2 => by
    simp only [lbaba_slices_Index_Lapi_Hash_api_Hash, bbaba_slices_Index_Lapi_Hash_api_Hash, lt_eq, wrap_succ (show j ≤ 1000000000 by omega)]
    by_cases h : j < hs.length
    · have hj := hh _ (List.getElem_mem h)
      rw [ifb_pos (by omega), chk_true (by rw [row_len, hid]; omega), idx_nat (hs_get h), row32 hid, row32 hj, eqC_row .u8 hid hj, ifb_dec, List.drop_eq_getElem_cons h, fidx, hash_index L hs hh hhl id hid k m (j + 1) (by omega) (by omega)]
      by_cases d : id = hs[j]
      · simp only [d, decide_true, if_true]; rfl
      · simp only [d, decide_false, if_false]; rfl
    · rw [ifb_neg (by omega), List.drop_of_length_le (by omega)]; rfl
theorem hash_contains (L : Nat) (hL : 2000 ≤ L) (hs : List (List Int)) (hh : ∀ x ∈ hs, x.length = 32) (hhl : hs.length ≤ 1000) (id : List Int) (hid : id.length = 32) (k : Bool → Option β) :
    F_slices_Contains_Lapi_Hash_api_Hash β L (hs.map (row .u8)) (row .u8 id) k = k (decide (id ∈ hs)) := by
  simp only [F_slices_Contains_Lapi_Hash_api_Hash, R_slices_Contains_Lapi_Hash_api_Hash, F_slices_Index_Lapi_Hash_api_Hash, R_slices_Index_Lapi_Hash_api_Hash, e_slices_Index_Lapi_Hash_api_Hash, List.length_map, row32 hid]
  rw [chk_true (by rw [row_len, hid]; omega), show ((0 : Int)) = ((0 : Nat) : Int) from rfl, hash_index L hs hh hhl id hid _ L 0 (by omega) (by omega)]
  rw [show ((0 : Nat) : Int) = 0 from rfl, fidx_ge, List.drop_zero]
  congr 1
  rw [Bool.eq_iff_iff]
  simp
theorem fees_confirm_loop (L : Nat) (hL : 2000 ≤ L) (hs : List (List Int)) (hh : ∀ x ∈ hs, x.length = 32) (hhl : hs.length ≤ 1000) (ht : Int) (n : Nat) (hn : n ≤ 100000) (kx : Nat → List V → Option β) : ∀ (m i : Nat) (l : List Smp), l.length = n → i ≤ n → n - i < m →
    lbbaba_fees_Confirm F_slices_Clone_Lapi_Sample_api_Sample F_slices_Contains_Lapi_Hash_api_Hash L kx m n (hs.map (row .u8)) ht n (n : Int) (i : Int) (smps l).flatten = kx n (smps (l.take i ++ (l.drop i).map (cfS hs ht))).flatten
  | 0, i, l, h1, h2, h3 => by omega
  | m + 1, i, l, h1, h2, h3 => by
    by_cases h : i < n
    · have hil : i < l.length := by omega
      have hfl := smps_flen l
      have hle : (i + 1) * 35 ≤ l.length * 35 := Nat.mul_le_mul_right _ hil
      have r : ∀ l' : List Smp, l' = l.set i (cfS hs ht l[i]) → lbbaba_fees_Confirm F_slices_Clone_Lapi_Sample_api_Sample F_slices_Contains_Lapi_Hash_api_Hash L kx m n (hs.map (row .u8)) ht n (n : Int) ((i + 1 : Nat) : Int) (smps l').flatten = kx n (smps (l.take i ++ (l.drop i).map (cfS hs ht))).flatten := by
        rintro l' rfl
        rw [fees_confirm_loop L hL hs hh hhl ht n hn kx m (i + 1) _ (by simp [h1]) (by omega) (by omega), set_take hil, set_drop (by omega), step_eq hil]
      simp only [lbbaba_fees_Confirm, bbbaba_fees_Confirm, lt_eq, Nat.zero_add, Int.toNat_natCast, wrap_succ (show i ≤ 1000000000 by omega)]
      rw [ifb_pos (by omega), chk_true (by omega), chk_true (by omega), smps_row hil, chk_true (by simp [l[i].len]), smp_set (by simp), cI_some l[i].g34, ifb_beq, cI_some l[i].g33, ifb_dec, chk_true (by rw [l[i].len]; omega), l[i].take32, hash_contains L hL hs hh hhl _ l[i].hid, ifb_dec, chk_true (by omega), chk_true ⟨trivial, by omega⟩, smps_at hil]
      by_cases d : l[i].f = 0 ∧ l[i].s < ht ∧ l[i].id ∈ hs
      · rw [if_pos d.1, if_pos d.2.1, if_pos d.2.2]
        exact r _ (by rw [cfS, if_pos d])
      · have e : l = l.set i (cfS hs ht l[i]) := by rw [cfS, if_neg d, List.set_getElem_self]
        have r' := r l e
        by_cases d1 : l[i].f = 0
        · rw [if_pos d1]
          by_cases d2 : l[i].s < ht
          · rw [if_pos d2, if_neg (fun d3 => d ⟨d1, d2, d3⟩)]; exact r'
          · rw [if_neg d2]; exact r'
        · rw [if_neg d1]; exact r'
    · simp only [lbbaba_fees_Confirm, bbbaba_fees_Confirm]
      rw [ifb_neg (by omega), List.take_of_length_le (by omega), List.drop_of_length_le (by omega)]
      simp
theorem fees_confirm (L : Nat) (hL : 200000 ≤ L) (l : List Smp) (hl : l.length ≤ 100000) (hs : List (List Int)) (hh : ∀ x ∈ hs, x.length = 32) (hhl : hs.length ≤ 1000) (ht : Int) (k : List (List V) → Option β) :
    F_fees_Confirm β L (smps l) (hs.map (row .u8)) ht k = k (smps (l.map (cfS hs ht))) := by
  simp only [F_fees_Confirm, R_fees_Confirm, e_fees_Confirm, clone_ok L l (by omega), smps_len]
  rw [show ((0 : Int)) = ((0 : Nat) : Int) from rfl, fees_confirm_loop L (by omega) hs hh hhl ht l.length (by omega) _ L 0 l rfl (by omega) (by omega)]
  simp only [rbbabax0_fees_Confirm, List.take_zero, List.nil_append, List.drop_zero]
  rw [chk_true (by rw [smps_flen, List.length_map]; omega)]
  have := chunks_flat (smps_each (l.map (cfS hs ht)))
  rw [smps_len, List.length_map] at this
  rw [this]
end Go.Proofs.Ythplooifbkopgaa
