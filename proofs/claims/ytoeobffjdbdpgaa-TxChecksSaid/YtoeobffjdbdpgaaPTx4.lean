/- tx: the encoding of a transaction, by the program and by the reference: the whole. -/
import Derived.Test.YtoeobffjdbdpgaaPTx3
namespace Go.Proofs.Ytoeobffjdbdpgaa
set_option linter.unusedVariables false
set_option linter.unusedSimpArgs false
set_option maxRecDepth 100000
variable {β : Type}
theorem ifb_nt (a b : Option β) : ifb (!true) a b = b := rfl
theorem ifb_nf (a b : Option β) : ifb (!false) a b = a := rfl
theorem txe_wits {L : Nat} (hL : 2000 ≤ L) (kx : List (List V) → Int → List (List V) → List (List V) → Int → Option β) (l : List Inp) (hl : l.length ≤ 1000000) (hw : ∀ x ∈ l, x.wit.length ≤ 40) (hs : ∀ x ∈ l, ∀ y ∈ x.wit, y.length ≤ 600) (b0 b3 : Int) (b1 b2 : List (List V)) : ∀ (n i : Nat) (acc : List Int), i ≤ l.length → l.length - i < n → acc.length + ((l.drop i).flatMap witB).length ≤ 400000000000 →
    lbbbbbbbbaba_tx_encode F_codec_AppendU32 F_codec_AppendSize F_tx_Point F_codec_AppendU64 F_codec_AppendBytes L kx n (ints .u8 acc) (l.map irow) (l.length : Int) (i : Int) b0 b1 b2 b3 = kx (ints .u8 (acc ++ (l.drop i).flatMap witB)) b0 b1 b2 b3
  | 0, i, acc, h1, h2, h3 => by omega
  | n + 1, i, acc, h1, h2, h3 => by
    simp only [lbbbbbbbbaba_tx_encode, Cbbbbbbbbbaba_tx_encode, bbbbbbbbbaba_tx_encode, lt_eq]
    by_cases h : i < l.length
    · have h4 := hw l[i] (List.getElem_mem h)
      have h5 := hs l[i] (List.getElem_mem h)
      have h6 := szB_len (l[i].wit.length : Int)
      rw [drop_fm h] at h3
      simp only [List.length_append, witB] at h3
      rw [ifb_pos (by omega), idx_nat (ins_get h)]
      simp only [irow_take, irow_len, chk_T]
      simp only [↓irow_c0, irow_t0, irow_c1, irow_t1, irow_c2, irow_t2, irow_c3, irow_t3, irow_c4, irow_t4, irow_c5, irow_t5, irow_c6, irow_t6, irow_c7, irow_t7, irow_c8, irow_t8, irow_c9, irow_t9, irow_c10, irow_t10, irow_c11, irow_t11, irow_c12, irow_t12, irow_c13, irow_t13, irow_c14, irow_t14, irow_c15, irow_t15, irow_c16, irow_t16, irow_c17, irow_t17, irow_c18, irow_t18, irow_c19, irow_t19, irow_c20, irow_t20, irow_c21, irow_t21, irow_c22, irow_t22, irow_c23, irow_t23, irow_c24, irow_t24, irow_c25, irow_t25, irow_c26, irow_t26, irow_c27, irow_t27, irow_c28, irow_t28, irow_c29, irow_t29, irow_c30, irow_t30, irow_c31, irow_t31, irow_c32, irow_t32, irow_c33, irow_t33, irow_c34, irow_t34, items_len]
      rw [wrap_u64 (by omega) (by omega), ints_nil .u8, appSize (by omega) (by simp) (by omega), List.nil_append, ints_len, ints_len, chk_true (cap_ok (by omega)), ints_app]
      rw [show ((0 : Int)) = ((0 : Nat) : Int) from rfl, txe_items (by omega) _ _ (by omega) h5 _ _ _ _ _ _ _ _ _ _ _ _ _ _ _ _ _ _ _ _ _ _ _ _ _ _ _ _ _ _ _ _ _ _ _ _ _ _ _ _ _ _ L 0 _ (by omega) (by omega) (by simp only [List.drop_zero, List.length_append]; omega)]
      simp only [rbbbbbbbbabaabbaabbbax6_tx_encode, lt_eq, List.drop_zero]
      rw [up (by omega), txe_wits hL kx l hl hw hs b0 b3 b1 b2 n (i + 1) _ (by omega) (by omega) (by simp only [List.length_append, witB]; omega), drop_fm h]
      simp [witB]
    · rw [ifb_neg (by omega), List.drop_of_length_le (by omega)]
      simp
theorem rfe_wits {L : Nat} (hL : 2000 ≤ L) (kx : List (List V) → Int → List (List V) → List (List V) → Int → Option β) (l : List Inp) (hl : l.length ≤ 1000000) (hw : ∀ x ∈ l, x.wit.length ≤ 40) (hs : ∀ x ∈ l, ∀ y ∈ x.wit, y.length ≤ 600) (b0 b3 : Int) (b1 b2 : List (List V)) : ∀ (n i : Nat) (acc : List Int), i ≤ l.length → l.length - i < n → acc.length + ((l.drop i).flatMap witB).length ≤ 400000000000 →
    lbbbbbbbaba_ref09_encode F_ref01_AppendU32 F_ref01_AppendSize F_ref09_Point F_ref09_Out F_ref01_AppendBytes L kx n true (ints .u8 acc) (l.map irow) (l.length : Int) (i : Int) b0 b1 b2 b3 = kx (ints .u8 (acc ++ (l.drop i).flatMap witB)) b0 b1 b2 b3 := by
  intro n
  induction n with
  | zero => intro i acc h1 h2 h3; omega
  | succ n ih =>
    intro i acc h1 h2 h3
    simp only [lbbbbbbbaba_ref09_encode, Cbbbbbbbbaba_ref09_encode, bbbbbbbbaba_ref09_encode, lt_eq]
    by_cases h : i < l.length
    · have h4 := hw l[i] (List.getElem_mem h)
      have h5 := hs l[i] (List.getElem_mem h)
      have h6 := szB_len (l[i].wit.length : Int)
      rw [drop_fm h] at h3
      simp only [List.length_append, witB] at h3
      rw [ifb_pos (by omega), idx_nat (ins_get h)]
      simp only [irow_take, irow_len, chk_T]
      simp only [↓irow_c0, irow_t0, irow_c1, irow_t1, irow_c2, irow_t2, irow_c3, irow_t3, irow_c4, irow_t4, irow_c5, irow_t5, irow_c6, irow_t6, irow_c7, irow_t7, irow_c8, irow_t8, irow_c9, irow_t9, irow_c10, irow_t10, irow_c11, irow_t11, irow_c12, irow_t12, irow_c13, irow_t13, irow_c14, irow_t14, irow_c15, irow_t15, irow_c16, irow_t16, irow_c17, irow_t17, irow_c18, irow_t18, irow_c19, irow_t19, irow_c20, irow_t20, irow_c21, irow_t21, irow_c22, irow_t22, irow_c23, irow_t23, irow_c24, irow_t24, irow_c25, irow_t25, irow_c26, irow_t26, irow_c27, irow_t27, irow_c28, irow_t28, irow_c29, irow_t29, irow_c30, irow_t30, irow_c31, irow_t31, irow_c32, irow_t32, irow_c33, irow_t33, irow_c34, irow_t34, items_len]
      rw [ifb_nt]
      rw [wrap_u64 (by omega) (by omega), rappSize (by omega) (by omega) (by omega)]
      rw [show ((0 : Int)) = ((0 : Nat) : Int) from rfl, rfe_items (by omega) _ _ (by omega) h5 _ _ _ _ _ _ _ _ _ _ _ _ _ _ _ _ _ _ _ _ _ _ _ _ _ _ _ _ _ _ _ _ _ _ _ _ _ _ _ _ _ _ _ L 0 _ (by omega) (by omega) (by simp only [List.drop_zero, List.length_append]; omega)]
      simp only [rbbbbbbbabaabbaabbbbax6_ref09_encode, lt_eq, List.drop_zero]
      rw [up (by omega), ih (i + 1) _ (by omega) (by omega) (by simp only [List.length_append, witB]; omega), drop_fm h]
      simp [witB]
    · rw [ifb_neg (by omega), List.drop_of_length_le (by omega)]
      simp
theorem rfe_bare {L : Nat} (hL : 0 < L) (kx : List (List V) → Int → List (List V) → List (List V) → Int → Option β) (l : List Inp) (b0 b3 : Int) (b1 b2 : List (List V)) (p5 : List (List V)) :
    lbbbbbbbaba_ref09_encode F_ref01_AppendU32 F_ref01_AppendSize F_ref09_Point F_ref09_Out F_ref01_AppendBytes L kx L false p5 (l.map irow) (l.length : Int) ((0 : Nat) : Int) b0 b1 b2 b3 = kx p5 b0 b1 b2 b3 := by
  have key : ∀ (n : Nat), 0 < n → lbbbbbbbaba_ref09_encode F_ref01_AppendU32 F_ref01_AppendSize F_ref09_Point F_ref09_Out F_ref01_AppendBytes L kx n false p5 (l.map irow) (l.length : Int) ((0 : Nat) : Int) b0 b1 b2 b3 = kx p5 b0 b1 b2 b3 := by
    intro n hn
    obtain ⟨m, rfl⟩ : ∃ m, n = m + 1 := ⟨n - 1, by omega⟩
    simp only [lbbbbbbbaba_ref09_encode, Cbbbbbbbbaba_ref09_encode, bbbbbbbbaba_ref09_encode, lt_eq]
    by_cases h : 0 < l.length
    · rw [ifb_pos (by omega), idx_nat (ins_get h)]
      simp only [irow_take, irow_len, chk_T]
      simp only [↓irow_c0, irow_t0, irow_c1, irow_t1, irow_c2, irow_t2, irow_c3, irow_t3, irow_c4, irow_t4, irow_c5, irow_t5, irow_c6, irow_t6, irow_c7, irow_t7, irow_c8, irow_t8, irow_c9, irow_t9, irow_c10, irow_t10, irow_c11, irow_t11, irow_c12, irow_t12, irow_c13, irow_t13, irow_c14, irow_t14, irow_c15, irow_t15, irow_c16, irow_t16, irow_c17, irow_t17, irow_c18, irow_t18, irow_c19, irow_t19, irow_c20, irow_t20, irow_c21, irow_t21, irow_c22, irow_t22, irow_c23, irow_t23, irow_c24, irow_t24, irow_c25, irow_t25, irow_c26, irow_t26, irow_c27, irow_t27, irow_c28, irow_t28, irow_c29, irow_t29, irow_c30, irow_t30, irow_c31, irow_t31, irow_c32, irow_t32, irow_c33, irow_t33, irow_c34, irow_t34]
      rw [ifb_nf]
    · rw [ifb_neg (by omega)]
  exact key L hL
structure Lens (t : TxT) : Prop where
  a : (t.ins.flatMap inB).length ≤ 70 * 40
  b : (t.outs.flatMap outB).length ≤ 70 * 617
  c : (t.ins.flatMap witB).length ≤ 70 * 30000
theorem KeptP.lens {t : TxT} (h : KeptP t) : Lens t := by
  have hi := h.ni
  have ho := h.no
  have h1 := fm_len (f := inB) (c := 40) (l := t.ins) (fun x _ => by rw [inB_len]; omega)
  have h2 := fm_len (f := outB) (c := 617) (l := t.outs) (fun x hx => by have := outB_len x; have := h.sl x hx; omega)
  have h3 := fm_len (f := witB) (c := 30000) (l := t.ins) (fun x hx => witB_len (h.wl x hx) (h.wi x hx))
  have e1 : t.ins.length * 40 ≤ 70 * 40 := Nat.mul_le_mul_right _ hi
  have e2 : t.outs.length * 617 ≤ 70 * 617 := Nat.mul_le_mul_right _ ho
  have e3 : t.ins.length * 30000 ≤ 70 * 30000 := Nat.mul_le_mul_right _ hi
  exact ⟨by omega, by omega, by omega⟩
theorem txEncode0 {L : Nat} (hL : 2000 ≤ L) {t : TxT} (h : KeptP t) (w : Bool) (k : List (List V) → Option β) : F_tx_encode β L (trow t) w k = k (ints .u8 (encB t w)) := by
  obtain ⟨q1, q2, q3⟩ := h.lens
  have hi := h.ni
  have ho := h.no
  have s1 := szB_len (t.ins.length : Int)
  have s2 := szB_len (t.outs.length : Int)
  simp only [F_tx_encode, R_tx_encode, e_tx_encode, trow_len, chk_T, lt_eq]
  simp only [↓trow_c0, trow_c1, trow_c2, trow_c3, List.length_map]
  rw [ints_nil .u8, app32 (by omega) (by simp), wrap_u64 (by omega) (by omega), appSize (by omega) (by simp) (by omega), ints_len, ints_len, List.nil_append, List.nil_append, chk_true (cap_ok (by rw [u32B_len]; omega)), ints_app]
  rw [show ((0 : Int)) = ((0 : Nat) : Int) from rfl, txe_ins (by omega) _ _ (by omega) _ _ _ _ _ L 0 _ (by omega) (by omega) (by simp only [List.drop_zero, List.length_append, u32B_len]; omega)]
  simp only [Crbbbabax0_tx_encode, rbbbabax0_tx_encode, lt_eq, List.length_map, List.drop_zero]
  rw [ints_nil .u8, wrap_u64 (by omega) (by omega), appSize (by omega) (by simp) (by omega), ints_len, ints_len, List.nil_append, chk_true (cap_ok (by simp only [List.length_append, u32B_len]; omega)), ints_app]
  rw [show ((0 : Int)) = ((0 : Nat) : Int) from rfl, txe_outs (by omega) _ _ (by omega) h.sl _ _ _ _ _ L 0 _ (by omega) (by omega) (by simp only [List.drop_zero, List.length_append, u32B_len]; omega)]
  simp only [Crbbbbbabax2_tx_encode, rbbbbbabax2_tx_encode, lt_eq, List.length_map, List.drop_zero]
  rw [ints_nil .u8, app32 (by omega) (by simp), ints_len, ints_len, List.nil_append, chk_true (cap_ok (by simp only [List.length_append, u32B_len]; omega)), ints_app]
  cases w with
  | false =>
    simp only [Bool.not_false, ifb_true, encB, Bool.false_eq_true, if_false, List.append_nil]
  | true =>
    simp only [Bool.not_true, ifb_false]
    rw [show ((0 : Int)) = ((0 : Nat) : Int) from rfl, txe_wits hL _ _ (by omega) h.wl h.wi _ _ _ _ L 0 _ (by omega) (by omega) (by simp only [List.drop_zero, List.length_append, u32B_len]; omega)]
    simp only [rbbbbbbbbabax4_tx_encode, List.drop_zero, encB, if_true]
theorem refEncode0 {L : Nat} (hL : 2000 ≤ L) {t : TxT} (h : KeptP t) (w : Bool) (k : List (List V) → Option β) : F_ref09_encode β L (trow t) w k = k (ints .u8 (encB t w)) := by
  obtain ⟨q1, q2, q3⟩ := h.lens
  have hi := h.ni
  have ho := h.no
  have s1 := szB_len (t.ins.length : Int)
  have s2 := szB_len (t.outs.length : Int)
  simp only [F_ref09_encode, R_ref09_encode, e_ref09_encode, trow_len, chk_T, lt_eq]
  simp only [↓trow_c0, trow_c1, trow_c2, trow_c3, List.length_map]
  rw [ints_nil .u8, rapp32 (by omega) (by simp), wrap_u64 (by omega) (by omega), rappSize (by omega) (by simp [u32B_len]) (by omega), List.nil_append]
  rw [show ((0 : Int)) = ((0 : Nat) : Int) from rfl, rfe_ins (by omega) _ _ (by omega) _ _ _ _ _ L 0 _ (by omega) (by omega) (by simp only [List.drop_zero, List.length_append, u32B_len]; omega)]
  simp only [Crbbbabax0_ref09_encode, rbbbabax0_ref09_encode, lt_eq, List.length_map, List.drop_zero]
  rw [wrap_u64 (by omega) (by omega), rappSize (by omega) (by simp only [List.length_append, u32B_len]; omega) (by omega)]
  rw [show ((0 : Int)) = ((0 : Nat) : Int) from rfl, rfe_outs (by omega) _ _ (by omega) h.sl _ _ _ _ _ L 0 _ (by omega) (by omega) (by simp only [List.drop_zero, List.length_append, u32B_len]; omega)]
  simp only [Crbbbbbabax2_ref09_encode, rbbbbbabax2_ref09_encode, lt_eq, List.length_map, List.drop_zero]
  rw [rapp32 (by omega) (by simp only [List.length_append, u32B_len]; omega), show ((0 : Int)) = ((0 : Nat) : Int) from rfl]
  cases w with
  | false =>
    rw [rfe_bare (by omega)]
    simp only [rbbbbbbbabax4_ref09_encode, encB, Bool.false_eq_true, if_false, List.append_nil]
  | true =>
    rw [rfe_wits hL _ _ (by omega) h.wl h.wi _ _ _ _ L 0 _ (by omega) (by omega) (by simp only [List.drop_zero, List.length_append, u32B_len]; omega)]
    simp only [rbbbbbbbabax4_ref09_encode, List.drop_zero, encB, if_true]
end Go.Proofs.Ytoeobffjdbdpgaa
