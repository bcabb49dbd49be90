/- tx: the bytes and the order of outpoints; the law TxPoints. -/
import Derived.Test.YtoeobffjdbdpgaaPTx2
namespace Go.Proofs.Ytoeobffjdbdpgaa
set_option linter.unusedVariables false
set_option linter.unusedSimpArgs false
section
variable {β : Type}
/-- lexicographic order -/
def cmpL : List Int → List Int → Int
  | x :: l, y :: m => if x < y then -1 else if y < x then 1 else cmpL l m
  | _, _ => 0
theorem cmpL_range : ∀ (l m : List Int), cmpL l m = -1 ∨ cmpL l m = 0 ∨ cmpL l m = 1
  | [], _ => by simp [cmpL]
  | _ :: _, [] => by simp [cmpL]
  | x :: l, y :: m => by
    have := cmpL_range l m
    unfold cmpL
    split
    · simp
    · split
      · simp
      · exact this
theorem cmpL_neg : ∀ (l m : List Int), cmpL l m = - cmpL m l
  | [], [] => by simp [cmpL]
  | [], _ :: _ => by simp [cmpL]
  | _ :: _, [] => by simp [cmpL]
  | x :: l, y :: m => by
    have := cmpL_neg l m
    unfold cmpL
    split
    · rw [if_neg (by omega)]
    · split <;> omega
theorem cmpL_eq : ∀ (l m : List Int), l.length = m.length → (cmpL l m = 0 ↔ l = m)
  | [], [], _ => by simp [cmpL]
  | x :: l, y :: m, h => by
    have := cmpL_eq l m (by simpa using h)
    unfold cmpL
    by_cases h1 : x < y
    · rw [if_pos h1]; simp; omega
    · rw [if_neg h1]
      by_cases h2 : y < x
      · rw [if_pos h2]; simp; omega
      · rw [if_neg h2, this]
        have : x = y := by omega
        simp [this]
theorem cmpL_trans : ∀ (l m q : List Int), l.length = m.length → m.length = q.length → cmpL l m ≤ 0 → cmpL m q ≤ 0 → cmpL l q ≤ 0
  | [], _, _, _, _, _, _ => by simp [cmpL]
  | x :: l, [], _, h, _, _, _ => by simp at h
  | x :: l, y :: m, [], _, h, _, _ => by simp at h
  | x :: l, y :: m, z :: q, h1, h2, h3, h4 => by
    have ih := cmpL_trans l m q (by simpa using h1) (by simpa using h2)
    unfold cmpL at h3 h4 ⊢
    by_cases a1 : x < y
    · rw [if_pos a1] at h3
      by_cases a2 : y < z
      · rw [if_pos (by omega)]; omega
      · rw [if_neg a2] at h4
        by_cases a3 : z < y
        · rw [if_pos a3] at h4; omega
        · rw [if_pos (by omega)]; omega
    · rw [if_neg a1] at h3
      by_cases b1 : y < x
      · rw [if_pos b1] at h3; omega
      · rw [if_neg b1] at h3
        have e : x = y := by omega
        subst e
        by_cases a2 : x < z
        · rw [if_pos a2]; omega
        · rw [if_neg a2] at h4 ⊢
          by_cases a3 : z < x
          · rw [if_pos a3] at h4; omega
          · rw [if_neg a3] at h4 ⊢
            exact ih h3 h4
theorem cmpL_app : ∀ (l m : List Int) (i j : Int), l.length = m.length → cmpL (l ++ [i]) (m ++ [j]) = if cmpL l m = 0 then (if i < j then -1 else if j < i then 1 else 0) else cmpL l m
  | [], [], i, j, _ => by simp [cmpL]
  | x :: l, y :: m, i, j, h => by
    have ih := cmpL_app l m i j (by simpa using h)
    simp only [List.cons_append, cmpL]
    by_cases h1 : x < y
    · simp [h1]
    · by_cases h2 : y < x
      · simp [h1, h2]
      · simp only [h1, h2, if_false, ih]
theorem u8lt {a b : Int} (ha : 0 ≤ a ∧ a ≤ 255) (hb : 0 ≤ b ∧ b ≤ 255) : (UInt8.ofNat a.toNat < UInt8.ofNat b.toNat) ↔ a < b := by
  rw [UInt8.lt_iff_toNat_lt]
  have e1 : (UInt8.ofNat a.toNat).toNat = a.toNat := by
    simp; omega
  have e2 : (UInt8.ofNat b.toNat).toNat = b.toNat := by
    simp; omega
  rw [e1, e2]; omega
theorem cmpB_eq : ∀ (l m : List Int), l.length = m.length → bytesOk l → bytesOk m → Lib.compareBytes (l.map fun n => UInt8.ofNat n.toNat) (m.map fun n => UInt8.ofNat n.toNat) = cmpL l m
  | [], [], _, _, _ => by simp [Lib.compareBytes, cmpL]
  | x :: l, y :: m, h, h1, h2 => by
    have ih := cmpB_eq l m (by simpa using h) (fun n hn => h1 n (by simp [hn])) (fun n hn => h2 n (by simp [hn]))
    have hx := h1 x (by simp)
    have hy := h2 y (by simp)
    simp only [List.map_cons, Lib.compareBytes, cmpL, ih, u8lt hx hy, u8lt hy hx]
theorem toBytes_ints8 : ∀ (l : List Int), toBytes (ints .u8 l) = some (l.map fun n => UInt8.ofNat n.toNat)
  | [] => rfl
  | x :: l => by
    have := toBytes_ints8 l
    simp only [ints] at this
    simp [ints, toBytes, this]
theorem cmpC_ints {l m : List Int} (h : l.length = m.length) (h1 : bytesOk l) (h2 : bytesOk m) (k : Int → Option β) : cmpC (ints .u8 l) (ints .u8 m) k = k (cmpL l m) := by
  simp only [cmpC, toBytes_ints8, cmpB_eq l m h h1 h2]
/-! outpoints -/
def ixB (x : Inp) : Int := x.pv.getD 32 0
def ptL (x : Inp) : List Int := hashB x ++ [ixB x]
theorem prow_row (x : Inp) : prow x = row .u8 (hashB x) ++ [V.sc (.int .u32 (ixB x))] := rfl
structure PtOk (x : Inp) : Prop where
  by_ : bytesOk (hashB x)
  ix : 0 ≤ ixB x ∧ ixB x ≤ 4294967295
theorem pt_of {a : List V} (h : HasRow (List.replicate 32 (.int .u8) ++ [.int .u32]) a) : ∃ x, a = prow x ∧ PtOk x := by
  obtain ⟨r, s, rfl, h1, h2⟩ := row_split h
  obtain ⟨l, rfl, hl, hw⟩ := row_of h1
  obtain ⟨v1, r1, rfl, g1, h2⟩ := h2.tail
  obtain rfl := h2.nil
  obtain ⟨i, rfl, hi⟩ := g1.int_inv
  match l, hl with
  | [x0, x1, x2, x3, x4, x5, x6, x7, x8, x9, x10, x11, x12, x13, x14, x15, x16, x17, x18, x19, x20, x21, x22, x23, x24, x25, x26, x27, x28, x29, x30, x31], _ =>
    exact ⟨⟨[x0, x1, x2, x3, x4, x5, x6, x7, x8, x9, x10, x11, x12, x13, x14, x15, x16, x17, x18, x19, x20, x21, x22, x23, x24, x25, x26, x27, x28, x29, x30, x31, i], 0, []⟩, rfl, fun n hn => wf_u8 (hw n hn), wf_u32 hi⟩
theorem eqCells_rowp (k k' : IntKind) : ∀ (l m : List Int) (i j : Int), l.length = m.length → eqCells (row k l ++ [V.sc (.int k' i)]) (row k m ++ [V.sc (.int k' j)]) = some (decide (l ++ [i] = m ++ [j]))
  | [], [], i, j, _ => by
    simp only [row, List.map_nil, List.nil_append, eqCells, if_true, Option.map_some]
    congr 1
    by_cases h : i = j <;> simp [h]
  | x :: l, y :: m, i, j, h => by
    have := eqCells_rowp k k' l m i j (by simpa using h)
    simp only [row] at this
    simp only [row, List.map_cons, List.cons_append, eqCells, if_true, this, Option.map_some]
    congr 1
    by_cases h1 : x = y <;> by_cases h2 : l ++ [i] = m ++ [j] <;> simp [h1, h2]
theorem eqC_pt (x y : Inp) (k : Bool → Option β) : eqC 33 (prow x) (prow y) k = k (decide (ptL x = ptL y)) := by
  have e := eqCells_rowp .u8 .u32 (hashB x) (hashB y) (ixB x) (ixB y) (by rw [hashB_len, hashB_len])
  rw [← prow_row, ← prow_row] at e
  simp only [eqC, prow_len, and_self, if_true, e]
  rfl
theorem take33' (x : Inp) : List.take 33 (prow x) = prow x := Eq.trans (List.take_of_length_le (by rw [prow_len]; exact Nat.le_refl _)) rfl
theorem chunks32 (x : Inp) : chunks 1 32 (prow x) = ints .u8 (hashB x) := by rfl
theorem bytesCompare {L : Nat} {l m : List Int} (h : l.length = m.length) (h1 : bytesOk l) (h2 : bytesOk m) (k : Int → Option β) : F_bytes_Compare β L (ints .u8 l) (ints .u8 m) k = k (cmpL l m) := by
  simp only [F_bytes_Compare, R_bytes_Compare, cmpC_ints h h1 h2, lt_eq]
theorem cmpU32 (L : Nat) (a b : Int) (k : Int → Option β) : F_cmp_Compare_uint32 β L a b k = k (if a < b then -1 else if b < a then 1 else 0) := by
  have e : ∀ (a : Int) (k : Bool → Option β), F_cmp_isNaN_uint32 β L a k = k (a != a) := fun _ _ => rfl
  simp only [F_cmp_Compare_uint32, R_cmp_Compare_uint32, e, bne_self_eq_false, ifb_false]
  by_cases h1 : a < b
  · simp [h1, ifb]
  · by_cases h2 : b < a
    · simp [h1, h2, ifb]
    · simp [h1, h2, ifb]
theorem cmpOr0 (L : Nat) (a b : Int) (k : Int → Option β) : F_cmp_Or_int β (L + 5) (chunks 1 2 [V.sc (.int .i64 a), V.sc (.int .i64 b)]) k = ifb (a != 0) (k a) (ifb (b != 0) (k b) (k 0)) := by kernel_rfl
theorem cmpOr {L : Nat} (hL : 5 ≤ L) (a b : Int) (k : Int → Option β) : F_cmp_Or_int β L (chunks 1 2 [V.sc (.int .i64 a), V.sc (.int .i64 b)]) k = k (if a = 0 then b else a) := by
  obtain ⟨m, rfl⟩ : ∃ m, L = m + 5 := ⟨L - 5, by omega⟩
  rw [cmpOr0]
  rw [ifb_bne, ifb_bne]
  split
  · split
    · rename_i h; rw [h]
    · rfl
  · rfl
theorem txCompare {L : Nat} (hL : 2000 ≤ L) {x y : Inp} (hx : PtOk x) (hy : PtOk y) (k : Int → Option β) : F_tx_Compare β L (prow x) (prow y) k = k (cmpL (ptL x) (ptL y)) := by
  simp only [F_tx_Compare, R_tx_Compare, prow_len]
  rw [chk_true (by omega), chk_true (by omega), chunks32, chunks32, bytesCompare (by rw [hashB_len, hashB_len]) hx.by_ hy.by_, prow_c, prow_c, cmpU32, cmpOr (by omega)]
  unfold ptL
  rw [cmpL_app _ _ _ _ (by rw [hashB_len, hashB_len])]
  rfl
theorem prow_at (x : Inp) {i : Nat} (h : i < 32) (k : Int → Option β) : cI .u8 (prow x) (0 + Int.toNat (i : Int) * 1) k = k ((hashB x)[i]'(by rw [hashB_len]; exact h)) := by
  refine cI_some ?_ k
  have hl : i < (hashB x).length := by rw [hashB_len]; exact h
  rw [prow_row, List.getElem?_append_left (by rw [row_len]; simpa using hl)]
  simp [row, hl]
theorem refc_loop {L : Nat} (x y : Inp) (kr : Int → List V → List V → Option β) (kx : List V → List V → Option β) : ∀ (n i : Nat), i ≤ 32 → 32 - i < n →
    lbaba_ref09_Compare L kr kx n (i : Int) (prow x) (prow y) = if cmpL ((hashB x).drop i) ((hashB y).drop i) = 0 then kx (prow x) (prow y) else kr (cmpL ((hashB x).drop i) ((hashB y).drop i)) (prow x) (prow y)
  | 0, i, h1, h2 => by omega
  | n + 1, i, h1, h2 => by
    have hlx := hashB_len x
    have hly := hashB_len y
    simp only [lbaba_ref09_Compare, bbaba_ref09_Compare, lt_eq]
    by_cases h : i < 32
    · have ex : (hashB x).drop i = (hashB x)[i]'(by omega) :: (hashB x).drop (i + 1) := List.drop_eq_getElem_cons (by omega)
      have ey : (hashB y).drop i = (hashB y)[i]'(by omega) :: (hashB y).drop (i + 1) := List.drop_eq_getElem_cons (by omega)
      rw [ifb_pos (by omega)]
      simp only [chk_true (show 0 ≤ (i : Int) ∧ (i : Int) < ((32 : Nat) : Int) by omega), prow_at x h, prow_at y h]
      have ec : cmpL ((hashB x).drop i) ((hashB y).drop i) = if (hashB x)[i]'(by omega) < (hashB y)[i]'(by omega) then -1 else if (hashB y)[i]'(by omega) < (hashB x)[i]'(by omega) then 1 else cmpL ((hashB x).drop (i + 1)) ((hashB y).drop (i + 1)) := by rw [ex, ey]; rfl
      by_cases c1 : (hashB x)[i]'(by omega) < (hashB y)[i]'(by omega)
      · rw [if_pos c1] at ec
        rw [ifb_pos c1]; simp [ec]
      · rw [if_neg c1] at ec
        rw [ifb_neg c1]
        by_cases c2 : (hashB y)[i]'(by omega) < (hashB x)[i]'(by omega)
        · rw [if_pos c2] at ec
          rw [ifb_pos (by omega)]; simp [ec]
        · rw [if_neg c2] at ec
          rw [ifb_neg (by omega), wrap_i64 (by omega) (by omega)]
          have := refc_loop (L := L) x y kr kx n (i + 1) (by omega) (by omega)
          simp only [ec]
          exact this
    · rw [ifb_neg (by omega), List.drop_of_length_le (by omega), List.drop_of_length_le (by omega)]
      rfl
theorem refCompare {L : Nat} (hL : 2000 ≤ L) (x y : Inp) (k : Int → Option β) : F_ref09_Compare β L (prow x) (prow y) k = k (cmpL (ptL x) (ptL y)) := by
  simp only [F_ref09_Compare, R_ref09_Compare, e_ref09_Compare]
  have := refc_loop (L := L) x y (fun p4 b2 b3 => rbabaret_ref09_Compare L p4 b2 b3 k) (fun b2 b3 => rbabax0_ref09_Compare L b2 b3 k) L 0 (by omega) (by omega)
  refine Eq.trans this ?_
  simp only [List.drop_zero]
  unfold ptL
  rw [cmpL_app _ _ _ _ (by rw [hashB_len, hashB_len])]
  simp only [rbabax0_ref09_Compare, rbabaret_ref09_Compare, prow_c]
  split
  · show ifb (decide (ixB x < ixB y)) _ (ifb (decide (ixB x > ixB y)) _ _) = _
    by_cases h1 : ixB x < ixB y
    · rw [ifb_pos h1, if_pos h1]
    · rw [ifb_neg h1, if_neg h1]
      by_cases h2 : ixB y < ixB x
      · rw [ifb_pos h2, if_pos h2]
      · rw [ifb_neg h2, if_neg h2]
  · rfl
theorem same_selfP {L : Nat} (l : List Int) (k : Bool → Option β) : F_ref01_Same β L (ints .u8 l) (ints .u8 l) k = k true := by
  simp only [F_ref01_Same, R_ref01_Same, strC, toBytes_ints8, beq_self_eq_true]
theorem ifb_nt0 (a b : Option β) : ifb (!true) a b = b := Eq.trans rfl rfl
theorem ptL_len (x : Inp) : (ptL x).length = 33 := by simp [ptL, hashB_len]
end
theorem txPoints_plain (a0 a1 a2 : List V) (wf0 : HasRow (List.replicate 32 (.int .u8) ++ [.int .u32]) a0) (wf1 : HasRow (List.replicate 32 (.int .u8) ++ [.int .u32]) a1) (wf2 : HasRow (List.replicate 32 (.int .u8) ++ [.int .u32]) a2) : ∃ L, ∀ k : Bool → Option Bool, F_law09_TxPoints Bool L a0 a1 a2 k = k true := by
  obtain ⟨x, rfl, hx⟩ := pt_of wf0
  obtain ⟨y, rfl, hy⟩ := pt_of wf1
  obtain ⟨z, rfl, hz⟩ := pt_of wf2
  have key : ∀ L : Nat, 2000 ≤ L → ∀ k : Bool → Option Bool, F_law09_TxPoints Bool L (prow x) (prow y) (prow z) k = k true := by
   intro L hL k
   simp only [F_law09_TxPoints, R_law09_TxPoints, prow_len, take33']
   rw [sane_at (by omega)]
   simp only [Bool.not_true, ifb_false, chk_true (show 0 + 33 ≤ 33 by omega)]
   simp only [txCompare hL hx hy, txCompare hL hy hx, txCompare hL hy hz, txCompare hL hx hz, refCompare hL, lt_eq]
   have r1 := cmpL_range (ptL x) (ptL y)
   have r2 := cmpL_neg (ptL x) (ptL y)
   have r3 := cmpL_eq (ptL x) (ptL y) (by rw [ptL_len, ptL_len])
   have r4 := cmpL_trans (ptL x) (ptL y) (ptL z) (by rw [ptL_len, ptL_len]) (by rw [ptL_len, ptL_len])
   rw [ifb_bne, if_pos rfl, wrap_i64 (by omega) (by omega), ifb_bne, if_pos (by omega), eqC_pt]
   have e : ((cmpL (ptL x) (ptL y) == (0 : Int)) == decide (ptL x = ptL y)) = true := by
     by_cases h : ptL x = ptL y
     · rw [r3.2 h]; simp [h]
     · simp [h, mt r3.1 h]
   rw [e, ifb_nt0, txPoint (by omega), refPoint (by omega), same_selfP, ifb_nt0]
   by_cases h1 : cmpL (ptL x) (ptL y) > 0
   · rw [ifb_pos h1]
   · rw [ifb_neg h1]
     by_cases h2 : cmpL (ptL y) (ptL z) > 0
     · rw [ifb_pos h2]
     · rw [ifb_neg h2]
       have := r4 (by omega) (by omega)
       simp [this]
  exact ⟨5000, key 5000 (by omega)⟩
end Go.Proofs.Ytoeobffjdbdpgaa
