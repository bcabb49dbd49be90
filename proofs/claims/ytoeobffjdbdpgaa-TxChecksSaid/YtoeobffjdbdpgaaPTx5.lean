/- tx: which transactions fit; the law TxEncodes. -/
import Derived.Test.YtoeobffjdbdpgaaPTx4
namespace Go.Proofs.Ytoeobffjdbdpgaa
set_option linter.unusedVariables false
set_option linter.unusedSimpArgs false
set_option maxRecDepth 100000
variable {β : Type}
def okO (o : Outp) : Bool := decide (0 ≤ o.val) && decide (o.scr.length ≤ 520)
def okI (x : Inp) : Bool := decide (x.wit.length ≤ 32) && x.wit.all fun y => decide (y.length ≤ 520)
def fitsB (t : TxT) : Bool := decide (t.ins.length ≤ 64) && decide (t.outs.length ≤ 64) && t.outs.all okO && t.ins.all okI && decide ((encB t true).length ≤ 20000)

theorem tx_outs {L : Nat} (kr : Bool → Int → List (List V) → List (List V) → Int → Option β) (kx : Int → List (List V) → List (List V) → Int → Option β) (l : List Outp) (hl : l.length ≤ 1000000) (b0 b3 : Int) (b1 b2 : List (List V)) : ∀ (n i : Nat), i ≤ l.length → l.length - i < n →
    lbbaba_tx_fits F_tx_encode L kr kx n (l.map orow) (l.length : Int) (i : Int) b0 b1 b2 b3 = ifb ((l.drop i).all okO) (kx b0 b1 b2 b3) (kr false b0 b1 b2 b3)
  | 0, i, h1, h2 => by omega
  | n + 1, i, h1, h2 => by
    simp only [lbbaba_tx_fits, bbbaba_tx_fits, lt_eq]
    by_cases h : i < l.length
    · rw [ifb_pos (by omega), idx_nat (outs_get h)]
      simp only [orow_take, orow_len, chk_T]
      simp only [↓orow_c0, orow_c1, orow_t0, orow_t1, ints_len]
      rw [up (by omega), tx_outs kr kx l hl b0 b3 b1 b2 n (i + 1) (by omega) (by omega), drop_all h]
      by_cases hv : 0 ≤ l[i].val
      · rw [ifb_neg (by omega)]
        by_cases hb : l[i].scr.length ≤ 520
        · rw [ifb_neg (by omega)]; simp [okO, hb, hv]
        · rw [ifb_pos (by omega)]
          have : okO l[i] = false := by simp [okO, hb]
          rw [this]; rfl
      · rw [ifb_pos (by omega)]
        have : okO l[i] = false := by simp [okO, hv]
        rw [this]; rfl
    · rw [ifb_neg (by omega), List.drop_of_length_le (by omega)]; rfl
theorem tx_items {L : Nat} (kr : Bool → Int → List (List V) → List (List V) → Int → Option β) (kx : List (List V) → Int → Int → Int → List (List V) → List (List V) → Int → Int → Int → Int → Int → Int → Int → Int → Int → Int → Int → Int → Int → Int → Int → Int → Int → Int → Int → Int → Int → Int → Int → Int → Int → Int → Int → Int → Int → Int → Int → Int → Int → Int → Int → List (List V) → Option β) (wt : List (List Int)) (hw : wt.length ≤ 1000000) (p37 : List (List V)) (p38 p39 : Int) (b0 b3 : Int) (b1 b2 : List (List V)) (c0 c1 c2 c3 c4 c5 c6 c7 c8 c9 c10 c11 c12 c13 c14 c15 c16 c17 c18 c19 c20 c21 c22 c23 c24 c25 c26 c27 c28 c29 c30 c31 c32 c33 : Int) (c34 : List (List V)) : ∀ (n i : Nat), i ≤ wt.length → wt.length - i < n →
    lbbbabaabbaabbba_tx_fits F_tx_encode L kr kx n p37 p38 p39 (items wt) (wt.length : Int) (i : Int) b0 b1 b2 b3 c0 c1 c2 c3 c4 c5 c6 c7 c8 c9 c10 c11 c12 c13 c14 c15 c16 c17 c18 c19 c20 c21 c22 c23 c24 c25 c26 c27 c28 c29 c30 c31 c32 c33 c34 = ifb ((wt.drop i).all fun y => decide (y.length ≤ 520)) (kx p37 p38 p39 b0 b1 b2 b3 c0 c1 c2 c3 c4 c5 c6 c7 c8 c9 c10 c11 c12 c13 c14 c15 c16 c17 c18 c19 c20 c21 c22 c23 c24 c25 c26 c27 c28 c29 c30 c31 c32 c33 c34) (kr false b0 b1 b2 b3)
  | 0, i, h1, h2 => by omega
  | n + 1, i, h1, h2 => by
    simp only [lbbbabaabbaabbba_tx_fits, bbbbabaabbaabbba_tx_fits, lt_eq]
    by_cases h : i < wt.length
    · rw [ifb_pos (by omega), idx_nat (items_get h), cL_some rfl]
      rw [up (by omega), tx_items kr kx wt hw p37 p38 p39 b0 b3 b1 b2 c0 c1 c2 c3 c4 c5 c6 c7 c8 c9 c10 c11 c12 c13 c14 c15 c16 c17 c18 c19 c20 c21 c22 c23 c24 c25 c26 c27 c28 c29 c30 c31 c32 c33 c34 n (i + 1) (by omega) (by omega), drop_all h, ints_len]
      by_cases hb : wt[i].length ≤ 520
      · rw [ifb_neg (by omega)]; simp [hb]
      · rw [ifb_pos (by omega)]; simp [hb, ifb]
    · rw [ifb_neg (by omega), List.drop_of_length_le (by omega)]; rfl
theorem tx_ins {L : Nat} (hL : 2000 ≤ L) (kr : Bool → Int → List (List V) → List (List V) → Int → Option β) (kx : Int → List (List V) → List (List V) → Int → Option β) (l : List Inp) (hl : l.length ≤ 1000000) (b0 b3 : Int) (b1 b2 : List (List V)) : ∀ (n i : Nat), i ≤ l.length → l.length - i < n →
    lbbbaba_tx_fits F_tx_encode L kr kx n (l.map irow) (l.length : Int) (i : Int) b0 b1 b2 b3 = ifb ((l.drop i).all okI) (kx b0 b1 b2 b3) (kr false b0 b1 b2 b3) := by
  intro n
  induction n with
  | zero => intro i h1 h2; omega
  | succ n ih =>
    intro i h1 h2
    simp only [lbbbaba_tx_fits, Cbbbbaba_tx_fits, bbbbaba_tx_fits, lt_eq]
    by_cases h : i < l.length
    · rw [ifb_pos (by omega), idx_nat (ins_get h)]
      simp only [irow_take, irow_len, chk_T]
      simp only [↓irow_c0, irow_t0, irow_c1, irow_t1, irow_c2, irow_t2, irow_c3, irow_t3, irow_c4, irow_t4, irow_c5, irow_t5, irow_c6, irow_t6, irow_c7, irow_t7, irow_c8, irow_t8, irow_c9, irow_t9, irow_c10, irow_t10, irow_c11, irow_t11, irow_c12, irow_t12, irow_c13, irow_t13, irow_c14, irow_t14, irow_c15, irow_t15, irow_c16, irow_t16, irow_c17, irow_t17, irow_c18, irow_t18, irow_c19, irow_t19, irow_c20, irow_t20, irow_c21, irow_t21, irow_c22, irow_t22, irow_c23, irow_t23, irow_c24, irow_t24, irow_c25, irow_t25, irow_c26, irow_t26, irow_c27, irow_t27, irow_c28, irow_t28, irow_c29, irow_t29, irow_c30, irow_t30, irow_c31, irow_t31, irow_c32, irow_t32, irow_c33, irow_t33, irow_c34, irow_t34, items_len]
      rw [drop_all h]
      by_cases hw : l[i].wit.length ≤ 32
      · rw [ifb_neg (by omega), show ((0 : Int)) = ((0 : Nat) : Int) from rfl, tx_items _ _ _ (by omega) _ _ _ _ _ _ _ _ _ _ _ _ _ _ _ _ _ _ _ _ _ _ _ _ _ _ _ _ _ _ _ _ _ _ _ _ _ _ _ _ _ _ L 0 (by omega) (by omega)]
        simp only [rbbbabaabbaabbbax4_tx_fits, rbbbabaabbaabbbaret_tx_fits, lt_eq, List.drop_zero]
        rw [up (by omega), ih (i + 1) (by omega) (by omega)]
        have : okI l[i] = l[i].wit.all fun y => decide (y.length ≤ 520) := by simp [okI, hw]
        rw [this]
        cases l[i].wit.all fun y => decide (y.length ≤ 520) <;> rfl
      · rw [ifb_pos (by omega)]
        have : okI l[i] = false := by simp [okI, hw]
        rw [this]; rfl
    · rw [ifb_neg (by omega), List.drop_of_length_le (by omega)]; rfl
theorem tx_fitsB {L : Nat} (hL : 2000 ≤ L) {t : TxT} (h : KeptP t) (k : Bool → Option β) : F_tx_fits β L (trow t) k = k (fitsB t) := by
  have hi := h.ni
  have ho := h.no
  simp only [F_tx_fits, R_tx_fits, e_tx_fits, trow_len, chk_T]
  simp only [↓trow_c0, trow_c1, trow_c2, trow_c3, List.length_map]
  by_cases h1 : t.ins.length ≤ 64
  · rw [ifb_neg (by omega)]
    by_cases h2 : t.outs.length ≤ 64
    · rw [ifb_neg (by omega), show ((0 : Int)) = ((0 : Nat) : Int) from rfl, tx_outs _ _ _ (by omega) _ _ _ _ L 0 (by omega) (by omega)]
      simp only [Crbbabax0_tx_fits, rbbabax0_tx_fits, rbbabaret_tx_fits, List.length_map, List.drop_zero]
      cases e1 : t.outs.all okO
      · have e : fitsB t = false := by simp [fitsB, e1]
        rw [e]; rfl
      · rw [ifb_true, show ((0 : Int)) = ((0 : Nat) : Int) from rfl, tx_ins hL _ _ _ (by omega) _ _ _ _ L 0 (by omega) (by omega)]
        simp only [rbbbabax2_tx_fits, rbbbabaret_tx_fits, List.drop_zero, trow_lit]
        cases e2 : t.ins.all okI
        · have e : fitsB t = false := by simp [fitsB, e2]
          rw [e]; rfl
        · rw [ifb_true, txEncode0 hL h, ints_len]
          have e : decide (((encB t true).length : Int) ≤ 20000) = fitsB t := by
            simp only [fitsB, h1, h2, e1, e2, decide_true, Bool.true_and]
            exact decide_eq_decide.2 (by omega)
          rw [e]
    · have e : fitsB t = false := by simp [fitsB, h2]
      rw [ifb_pos (by omega), e]
  · have e : fitsB t = false := by simp [fitsB, h1]
    rw [ifb_pos (by omega), e]

theorem ref_outs {L : Nat} (kr : Bool → Int → List (List V) → List (List V) → Int → Option β) (kx : Int → List (List V) → List (List V) → Int → Option β) (l : List Outp) (hl : l.length ≤ 1000000) (b0 b3 : Int) (b1 b2 : List (List V)) : ∀ (n i : Nat), i ≤ l.length → l.length - i < n →
    lbbaba_ref09_Fits F_ref09_encode L kr kx n (l.map orow) (l.length : Int) (i : Int) b0 b1 b2 b3 = ifb ((l.drop i).all okO) (kx b0 b1 b2 b3) (kr false b0 b1 b2 b3)
  | 0, i, h1, h2 => by omega
  | n + 1, i, h1, h2 => by
    simp only [lbbaba_ref09_Fits, bbbaba_ref09_Fits, lt_eq]
    by_cases h : i < l.length
    · rw [ifb_pos (by omega), idx_nat (outs_get h)]
      simp only [orow_take, orow_len, chk_T]
      simp only [↓orow_c0, orow_c1, orow_t0, orow_t1, ints_len]
      rw [up (by omega), ref_outs kr kx l hl b0 b3 b1 b2 n (i + 1) (by omega) (by omega), drop_all h]
      by_cases hv : 0 ≤ l[i].val
      · rw [ifb_neg (by omega)]
        by_cases hb : l[i].scr.length ≤ 520
        · rw [ifb_neg (by omega)]; simp [okO, hb, hv]
        · rw [ifb_pos (by omega)]
          have : okO l[i] = false := by simp [okO, hb]
          rw [this]; rfl
      · rw [ifb_pos (by omega)]
        have : okO l[i] = false := by simp [okO, hv]
        rw [this]; rfl
    · rw [ifb_neg (by omega), List.drop_of_length_le (by omega)]; rfl
theorem ref_items {L : Nat} (kr : Bool → Int → List (List V) → List (List V) → Int → Option β) (kx : List (List V) → Int → Int → Int → List (List V) → List (List V) → Int → Int → Int → Int → Int → Int → Int → Int → Int → Int → Int → Int → Int → Int → Int → Int → Int → Int → Int → Int → Int → Int → Int → Int → Int → Int → Int → Int → Int → Int → Int → Int → Int → Int → Int → List (List V) → Option β) (wt : List (List Int)) (hw : wt.length ≤ 1000000) (p37 : List (List V)) (p38 p39 : Int) (b0 b3 : Int) (b1 b2 : List (List V)) (c0 c1 c2 c3 c4 c5 c6 c7 c8 c9 c10 c11 c12 c13 c14 c15 c16 c17 c18 c19 c20 c21 c22 c23 c24 c25 c26 c27 c28 c29 c30 c31 c32 c33 : Int) (c34 : List (List V)) : ∀ (n i : Nat), i ≤ wt.length → wt.length - i < n →
    lbbbabaabbaabbba_ref09_Fits F_ref09_encode L kr kx n p37 p38 p39 (items wt) (wt.length : Int) (i : Int) b0 b1 b2 b3 c0 c1 c2 c3 c4 c5 c6 c7 c8 c9 c10 c11 c12 c13 c14 c15 c16 c17 c18 c19 c20 c21 c22 c23 c24 c25 c26 c27 c28 c29 c30 c31 c32 c33 c34 = ifb ((wt.drop i).all fun y => decide (y.length ≤ 520)) (kx p37 p38 p39 b0 b1 b2 b3 c0 c1 c2 c3 c4 c5 c6 c7 c8 c9 c10 c11 c12 c13 c14 c15 c16 c17 c18 c19 c20 c21 c22 c23 c24 c25 c26 c27 c28 c29 c30 c31 c32 c33 c34) (kr false b0 b1 b2 b3)
  | 0, i, h1, h2 => by omega
  | n + 1, i, h1, h2 => by
    simp only [lbbbabaabbaabbba_ref09_Fits, bbbbabaabbaabbba_ref09_Fits, lt_eq]
    by_cases h : i < wt.length
    · rw [ifb_pos (by omega), idx_nat (items_get h), cL_some rfl]
      rw [up (by omega), ref_items kr kx wt hw p37 p38 p39 b0 b3 b1 b2 c0 c1 c2 c3 c4 c5 c6 c7 c8 c9 c10 c11 c12 c13 c14 c15 c16 c17 c18 c19 c20 c21 c22 c23 c24 c25 c26 c27 c28 c29 c30 c31 c32 c33 c34 n (i + 1) (by omega) (by omega), drop_all h, ints_len]
      by_cases hb : wt[i].length ≤ 520
      · rw [ifb_neg (by omega)]; simp [hb]
      · rw [ifb_pos (by omega)]; simp [hb, ifb]
    · rw [ifb_neg (by omega), List.drop_of_length_le (by omega)]; rfl
theorem ref_ins {L : Nat} (hL : 2000 ≤ L) (kr : Bool → Int → List (List V) → List (List V) → Int → Option β) (kx : Int → List (List V) → List (List V) → Int → Option β) (l : List Inp) (hl : l.length ≤ 1000000) (b0 b3 : Int) (b1 b2 : List (List V)) : ∀ (n i : Nat), i ≤ l.length → l.length - i < n →
    lbbbaba_ref09_Fits F_ref09_encode L kr kx n (l.map irow) (l.length : Int) (i : Int) b0 b1 b2 b3 = ifb ((l.drop i).all okI) (kx b0 b1 b2 b3) (kr false b0 b1 b2 b3) := by
  intro n
  induction n with
  | zero => intro i h1 h2; omega
  | succ n ih =>
    intro i h1 h2
    simp only [lbbbaba_ref09_Fits, Cbbbbaba_ref09_Fits, bbbbaba_ref09_Fits, lt_eq]
    by_cases h : i < l.length
    · rw [ifb_pos (by omega), idx_nat (ins_get h)]
      simp only [irow_take, irow_len, chk_T]
      simp only [↓irow_c0, irow_t0, irow_c1, irow_t1, irow_c2, irow_t2, irow_c3, irow_t3, irow_c4, irow_t4, irow_c5, irow_t5, irow_c6, irow_t6, irow_c7, irow_t7, irow_c8, irow_t8, irow_c9, irow_t9, irow_c10, irow_t10, irow_c11, irow_t11, irow_c12, irow_t12, irow_c13, irow_t13, irow_c14, irow_t14, irow_c15, irow_t15, irow_c16, irow_t16, irow_c17, irow_t17, irow_c18, irow_t18, irow_c19, irow_t19, irow_c20, irow_t20, irow_c21, irow_t21, irow_c22, irow_t22, irow_c23, irow_t23, irow_c24, irow_t24, irow_c25, irow_t25, irow_c26, irow_t26, irow_c27, irow_t27, irow_c28, irow_t28, irow_c29, irow_t29, irow_c30, irow_t30, irow_c31, irow_t31, irow_c32, irow_t32, irow_c33, irow_t33, irow_c34, irow_t34, items_len]
      rw [drop_all h]
      by_cases hw : l[i].wit.length ≤ 32
      · rw [ifb_neg (by omega), show ((0 : Int)) = ((0 : Nat) : Int) from rfl, ref_items _ _ _ (by omega) _ _ _ _ _ _ _ _ _ _ _ _ _ _ _ _ _ _ _ _ _ _ _ _ _ _ _ _ _ _ _ _ _ _ _ _ _ _ _ _ _ _ L 0 (by omega) (by omega)]
        simp only [rbbbabaabbaabbbax4_ref09_Fits, rbbbabaabbaabbbaret_ref09_Fits, lt_eq, List.drop_zero]
        rw [up (by omega), ih (i + 1) (by omega) (by omega)]
        have : okI l[i] = l[i].wit.all fun y => decide (y.length ≤ 520) := by simp [okI, hw]
        rw [this]
        cases l[i].wit.all fun y => decide (y.length ≤ 520) <;> rfl
      · rw [ifb_pos (by omega)]
        have : okI l[i] = false := by simp [okI, hw]
        rw [this]; rfl
    · rw [ifb_neg (by omega), List.drop_of_length_le (by omega)]; rfl
theorem ref_fitsB {L : Nat} (hL : 2000 ≤ L) {t : TxT} (h : KeptP t) (k : Bool → Option β) : F_ref09_Fits β L (trow t) k = k (fitsB t) := by
  have hi := h.ni
  have ho := h.no
  simp only [F_ref09_Fits, R_ref09_Fits, e_ref09_Fits, trow_len, chk_T]
  simp only [↓trow_c0, trow_c1, trow_c2, trow_c3, List.length_map]
  by_cases h1 : t.ins.length ≤ 64
  · rw [ifb_neg (by omega)]
    by_cases h2 : t.outs.length ≤ 64
    · rw [ifb_neg (by omega), show ((0 : Int)) = ((0 : Nat) : Int) from rfl, ref_outs _ _ _ (by omega) _ _ _ _ L 0 (by omega) (by omega)]
      simp only [Crbbabax0_ref09_Fits, rbbabax0_ref09_Fits, rbbabaret_ref09_Fits, List.length_map, List.drop_zero]
      cases e1 : t.outs.all okO
      · have e : fitsB t = false := by simp [fitsB, e1]
        rw [e]; rfl
      · rw [ifb_true, show ((0 : Int)) = ((0 : Nat) : Int) from rfl, ref_ins hL _ _ _ (by omega) _ _ _ _ L 0 (by omega) (by omega)]
        simp only [rbbbabax2_ref09_Fits, rbbbabaret_ref09_Fits, List.drop_zero, trow_lit]
        cases e2 : t.ins.all okI
        · have e : fitsB t = false := by simp [fitsB, e2]
          rw [e]; rfl
        · rw [ifb_true, refEncode0 hL h, ints_len]
          have e : decide (((encB t true).length : Int) ≤ 20000) = fitsB t := by
            simp only [fitsB, h1, h2, e1, e2, decide_true, Bool.true_and]
            exact decide_eq_decide.2 (by omega)
          rw [e]
    · have e : fitsB t = false := by simp [fitsB, h2]
      rw [ifb_pos (by omega), e]
  · have e : fitsB t = false := by simp [fitsB, h1]
    rw [ifb_pos (by omega), e]

theorem bytes_to : ∀ (l : List Int), toBytes (ints .u8 l) = some (l.map fun n => UInt8.ofNat n.toNat)
  | [] => rfl
  | n :: l => by
    have := bytes_to l
    simp only [ints] at this
    simp [ints, toBytes, this]
theorem strC_ints (l : List Int) (k : ByteArray → Option β) : strC (ints .u8 l) k = k ⟨(l.map fun n => UInt8.ofNat n.toNat).toArray⟩ := by
  simp only [strC, bytes_to]
theorem same_self {L : Nat} (l : List Int) (k : Bool → Option β) : F_ref01_Same β L (ints .u8 l) (ints .u8 l) k = k true := by
  simp only [F_ref01_Same, R_ref01_Same, strC_ints, BEq.rfl]
theorem txEncode {L : Nat} (hL : 2000 ≤ L) {t : TxT} (h : KeptP t) (w : Bool) (k : List (List V) → Int → Option β) : F_tx_Encode β L (trow t) w k = if fitsB t = true then k (ints .u8 (encB t w)) 0 else k (ints .u8 []) 4 := by
  simp only [F_tx_Encode, R_tx_Encode, trow_len, chk_T]
  simp only [↓trow_c0, trow_c1, trow_c2, trow_c3, trow_lit]
  rw [tx_fitsB hL h, txEncode0 hL h]
  cases fitsB t <;> rfl
theorem refEncode {L : Nat} (hL : 2000 ≤ L) {t : TxT} (h : KeptP t) (w : Bool) (k : List (List V) → Int → Option β) : F_ref09_Encode β L (trow t) w k = if fitsB t = true then k (ints .u8 (encB t w)) 0 else k (ints .u8 []) 4 := by
  simp only [F_ref09_Encode, R_ref09_Encode, trow_len, chk_T]
  simp only [↓trow_c0, trow_c1, trow_c2, trow_c3, trow_lit]
  rw [ref_fitsB hL h, refEncode0 hL h]
  cases fitsB t <;> rfl
theorem encodes_step {L : Nat} (hL : 2000 ≤ L) {t : TxT} (h : KeptP t) {kr : Bool → Int → List (List V) → List (List V) → Int → Option β} {kh : List (List V) → Int → Int → Int → List (List V) → List (List V) → Int → Option β} {kx : Int → List (List V) → List (List V) → Int → Option β} {p14 : List (List V)} {i : Nat} {w : Bool} (hi : i < 2) (hp : p14[i]? = some [V.sc (.bool w)]) :
    bbbbaba_law09_TxEncodes F_law09_sane F_keep_Tx F_tx_Encode F_ref09_Encode F_ref01_Same L p14 2 (i : Int) t.ver (t.ins.map irow) (t.outs.map orow) t.lock kr kh kx = kh p14 2 ((i + 1 : Nat) : Int) t.ver (t.ins.map irow) (t.outs.map orow) t.lock := by
  simp only [bbbbaba_law09_TxEncodes, lt_eq, trow_lit]
  rw [ifb_pos (by omega), idx_nat hp, cB_some rfl, txEncode hL h, up (by omega)]
  cases hf : fitsB t
  · simp only [Bool.false_eq_true, if_false]
    rw [refEncode hL h, hf]
    simp only [Bool.false_eq_true, if_false]
    rw [ifb_bne, if_pos rfl, same_self]; rfl
  · simp only [if_true]
    rw [refEncode hL h, hf]
    simp only [if_true]
    rw [ifb_bne, if_pos rfl, same_self]; rfl
theorem encodes_loop {L : Nat} (hL : 2000 ≤ L) {t : TxT} (h : KeptP t) {kr : Bool → Int → List (List V) → List (List V) → Int → Option β} {kx : Int → List (List V) → List (List V) → Int → Option β} : ∀ (n i : Nat), i ≤ 2 → 2 - i < n →
    lbbbaba_law09_TxEncodes F_law09_sane F_keep_Tx F_tx_Encode F_ref09_Encode F_ref01_Same L kr kx n (chunks 1 2 [V.sc (.bool false), V.sc (.bool true)]) 2 (i : Int) t.ver (t.ins.map irow) (t.outs.map orow) t.lock = kx t.ver (t.ins.map irow) (t.outs.map orow) t.lock
  | 0, i, h1, h2 => by omega
  | n + 1, i, h1, h2 => by
    rw [lbbbaba_law09_TxEncodes]
    by_cases hi : i < 2
    · have hp : ∃ w, (chunks 1 2 [V.sc (.bool false), V.sc (.bool true)])[i]? = some [V.sc (.bool w)] := by
        rcases (show i = 0 ∨ i = 1 by omega) with rfl | rfl
        · exact ⟨false, rfl⟩
        · exact ⟨true, rfl⟩
      obtain ⟨w, hp⟩ := hp
      rw [encodes_step hL h hi hp]
      exact encodes_loop hL h n (i + 1) (by omega) (by omega)
    · rw [bbbbaba_law09_TxEncodes, ifb_neg (by omega)]
theorem txEncodes_plain (a0 : List V) (wf0 : HasRow ([.int .u32] ++ [.sl (List.replicate 32 (.int .u8) ++ List.replicate 2 (.int .u32) ++ [.sl ([.sl ([.int .u8])])])] ++ [.sl ([.int .i64] ++ [.sl ([.int .u8])])] ++ [.int .u32]) a0) : ∃ L, ∀ k : Bool → Option Bool, F_law09_TxEncodes Bool L a0 k = k true := by
  obtain ⟨t, rfl, ht⟩ := tx_of wf0
  obtain ⟨L, hL⟩ : ∃ L : Nat, 2000 ≤ L := ⟨2000, Nat.le_refl _⟩
  refine ⟨L, fun k => ?_⟩
  simp only [F_law09_TxEncodes, R_law09_TxEncodes, e_law09_TxEncodes, trow_len, chk_T]
  simp only [↓trow_c0, trow_c1, trow_c2, trow_c3, trow_lit]
  rw [sane_at (by omega)]
  simp only [Bool.not_true, ifb_false]
  rw [keepTx hL]
  cases hk : kept t with
  | false => rfl
  | true =>
    have hp := kept_p hk
    simp only [Bool.not_true, ifb_false]
    exact encodes_loop hL hp L 0 (by omega) (by omega)
end Go.Proofs.Ytoeobffjdbdpgaa
