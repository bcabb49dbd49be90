/- tx: the encoding of a transaction, by the program and by the reference. -/
import Derived.Test.YtoeobffjdbdpgaaPTx2
namespace Go.Proofs.Ytoeobffjdbdpgaa
set_option linter.unusedVariables false
set_option linter.unusedSimpArgs false
set_option maxRecDepth 100000
variable {β : Type}
def inB (x : Inp) : List Int := ptB x ++ u32B x.seq
def outB (o : Outp) : List Int := u64B (IntKind.wrap .u64 o.val) ++ bsB o.scr
def witB (x : Inp) : List Int := szB (x.wit.length : Int) ++ x.wit.flatMap bsB
def encB (t : TxT) (w : Bool) : List Int := u32B t.ver ++ szB (t.ins.length : Int) ++ t.ins.flatMap inB ++ szB (t.outs.length : Int) ++ t.outs.flatMap outB ++ u32B t.lock ++ (if w then t.ins.flatMap witB else [])
theorem drop_fm {α : Type} {l : List α} {f : α → List Int} {i : Nat} (h : i < l.length) : (l.drop i).flatMap f = f l[i] ++ (l.drop (i + 1)).flatMap f := by
  rw [List.drop_eq_getElem_cons h, List.flatMap_cons]
theorem fm_len {α : Type} {f : α → List Int} {c : Nat} : ∀ {l : List α}, (∀ x ∈ l, (f x).length ≤ c) → (l.flatMap f).length ≤ l.length * c
  | [], _ => by simp
  | x :: l, h => by
    have h1 := h x (by simp)
    have h2 := fm_len (l := l) (fun y hy => h y (by simp [hy]))
    rw [List.flatMap_cons, List.length_append, List.length_cons, Nat.add_mul]; omega
theorem inB_len (x : Inp) : (inB x).length = 40 := by simp [inB, ptB_len, u32B_len]
theorem bsB_len (s : List Int) : (bsB s).length ≤ 9 + s.length := by have := szB_len (s.length : Int); simp [bsB]; omega
theorem outB_len (o : Outp) : (outB o).length ≤ 17 + o.scr.length := by have := bsB_len o.scr; simp [outB, u64B_len]; omega
theorem witB_len {x : Inp} (h1 : x.wit.length ≤ 40) (h2 : ∀ y ∈ x.wit, y.length ≤ 600) : (witB x).length ≤ 30000 := by
  have h3 := fm_len (f := bsB) (c := 609) (l := x.wit) (fun y hy => by have := bsB_len y; have := h2 y hy; omega)
  have h4 := szB_len (x.wit.length : Int)
  have h5 : x.wit.length * 609 ≤ 40 * 609 := Nat.mul_le_mul_right _ h1
  simp only [witB, List.length_append]; omega

theorem orow_lit (x : Outp) : [V.sc (.int .i64 x.val), V.sl 1 (ints .u8 x.scr)] = orow x := Eq.trans rfl rfl
theorem refOut {L : Nat} (hL : 20 ≤ L) {x : Outp} (hs : x.scr.length ≤ 600) (k : List (List V) → Option β) : F_ref09_Out β L (orow x) k = k (ints .u8 (outB x)) := by
  simp only [F_ref09_Out, R_ref09_Out, orow_len, chk_T, lt_eq]
  simp only [↓orow_c0, orow_c1, orow_t0, orow_t1]
  rw [ints_nil .u8, rapp64 hL (by simp), rappBytes hL (by simp [u64B_len]) (by omega)]
  simp [outB]

/-! tx -/
theorem txe_ins {L : Nat} (hL : 20 ≤ L) (kx : Bool → List (List V) → Int → List (List V) → List (List V) → Int → Option β) (l : List Inp) (hl : l.length ≤ 1000000) (w : Bool) (b0 b3 : Int) (b1 b2 : List (List V)) : ∀ (n i : Nat) (acc : List Int), i ≤ l.length → l.length - i < n → acc.length + ((l.drop i).flatMap inB).length ≤ 500000000000 →
    lbbbaba_tx_encode F_codec_AppendU32 F_codec_AppendSize F_tx_Point F_codec_AppendU64 F_codec_AppendBytes L kx n w (ints .u8 acc) (l.map irow) (l.length : Int) (i : Int) b0 b1 b2 b3 = kx w (ints .u8 (acc ++ (l.drop i).flatMap inB)) b0 b1 b2 b3
  | 0, i, acc, h1, h2, h3 => by omega
  | n + 1, i, acc, h1, h2, h3 => by
    simp only [lbbbaba_tx_encode, bbbbaba_tx_encode, lt_eq]
    by_cases h : i < l.length
    · rw [drop_fm h] at h3
      simp only [List.length_append, inB_len] at h3
      rw [ifb_pos (by omega), idx_nat (ins_get h)]
      simp only [irow_take, irow_len, chk_T]
      simp only [↓irow_c0, irow_t0, irow_c1, irow_t1, irow_c2, irow_t2, irow_c3, irow_t3, irow_c4, irow_t4, irow_c5, irow_t5, irow_c6, irow_t6, irow_c7, irow_t7, irow_c8, irow_t8, irow_c9, irow_t9, irow_c10, irow_t10, irow_c11, irow_t11, irow_c12, irow_t12, irow_c13, irow_t13, irow_c14, irow_t14, irow_c15, irow_t15, irow_c16, irow_t16, irow_c17, irow_t17, irow_c18, irow_t18, irow_c19, irow_t19, irow_c20, irow_t20, irow_c21, irow_t21, irow_c22, irow_t22, irow_c23, irow_t23, irow_c24, irow_t24, irow_c25, irow_t25, irow_c26, irow_t26, irow_c27, irow_t27, irow_c28, irow_t28, irow_c29, irow_t29, irow_c30, irow_t30, irow_c31, irow_t31, irow_c32, irow_t32, irow_c33, irow_t33, irow_c34, irow_t34, prow_lit]
      rw [txPoint hL, ints_len, ints_len, chk_true (cap_ok (by rw [ptB_len]; omega)), ints_app]
      rw [ints_nil .u8, app32 hL (by simp), ints_len, ints_len, chk_true (cap_ok (by simp [ptB_len, u32B_len]; omega)), ints_app, List.nil_append]
      rw [up (by omega), txe_ins hL kx l hl w b0 b3 b1 b2 n (i + 1) _ (by omega) (by omega) (by simp only [List.length_append, ptB_len, u32B_len]; omega), drop_fm h]
      simp [inB]
    · rw [ifb_neg (by omega), List.drop_of_length_le (by omega)]
      simp
theorem txe_outs {L : Nat} (hL : 20 ≤ L) (kx : Bool → List (List V) → Int → List (List V) → List (List V) → Int → Option β) (l : List Outp) (hl : l.length ≤ 1000000) (hs : ∀ x ∈ l, x.scr.length ≤ 600) (w : Bool) (b0 b3 : Int) (b1 b2 : List (List V)) : ∀ (n i : Nat) (acc : List Int), i ≤ l.length → l.length - i < n → acc.length + ((l.drop i).flatMap outB).length ≤ 500000000000 →
    lbbbbbaba_tx_encode F_codec_AppendU32 F_codec_AppendSize F_tx_Point F_codec_AppendU64 F_codec_AppendBytes L kx n w (ints .u8 acc) (l.map orow) (l.length : Int) (i : Int) b0 b1 b2 b3 = kx w (ints .u8 (acc ++ (l.drop i).flatMap outB)) b0 b1 b2 b3
  | 0, i, acc, h1, h2, h3 => by omega
  | n + 1, i, acc, h1, h2, h3 => by
    simp only [lbbbbbaba_tx_encode, bbbbbbaba_tx_encode, lt_eq]
    by_cases h : i < l.length
    · have h4 := hs l[i] (List.getElem_mem h)
      rw [drop_fm h] at h3
      simp only [List.length_append, outB, u64B_len] at h3
      rw [ifb_pos (by omega), idx_nat (outs_get h)]
      simp only [orow_take, orow_len, chk_T]
      simp only [↓orow_c0, orow_c1, orow_t0, orow_t1, orow_lit]
      rw [ints_nil .u8, app64 hL (by simp), ints_len, ints_len, chk_true (cap_ok (by simp [u64B_len]; omega)), ints_app, List.nil_append, appBytes hL (by simp) (by omega), ints_len, ints_len, chk_true (cap_ok (by simp [u64B_len]; omega)), ints_app, List.nil_append]
      rw [up (by omega), txe_outs hL kx l hl hs w b0 b3 b1 b2 n (i + 1) _ (by omega) (by omega) (by simp only [List.length_append, u64B_len, outB]; omega), drop_fm h]
      simp [outB]
    · rw [ifb_neg (by omega), List.drop_of_length_le (by omega)]
      simp
theorem txe_items {L : Nat} (hL : 20 ≤ L) (kx : List (List V) → List (List V) → Int → Int → Int → List (List V) → List (List V) → Int → Int → Int → Int → Int → Int → Int → Int → Int → Int → Int → Int → Int → Int → Int → Int → Int → Int → Int → Int → Int → Int → Int → Int → Int → Int → Int → Int → Int → Int → Int → Int → Int → Int → Int → List (List V) → Option β) (wt : List (List Int)) (hw : wt.length ≤ 1000000) (hs : ∀ y ∈ wt, y.length ≤ 600) (p77 : List (List V)) (p78 p79 : Int) (b0 b3 : Int) (b1 b2 : List (List V)) (c0 c1 c2 c3 c4 c5 c6 c7 c8 c9 c10 c11 c12 c13 c14 c15 c16 c17 c18 c19 c20 c21 c22 c23 c24 c25 c26 c27 c28 c29 c30 c31 c32 c33 : Int) (c34 : List (List V)) : ∀ (n i : Nat) (acc : List Int), i ≤ wt.length → wt.length - i < n → acc.length + ((wt.drop i).flatMap bsB).length ≤ 500000000000 →
    lbbbbbbbbabaabbaabbba_tx_encode F_codec_AppendU32 F_codec_AppendSize F_tx_Point F_codec_AppendU64 F_codec_AppendBytes L kx n (ints .u8 acc) p77 p78 p79 (items wt) (wt.length : Int) (i : Int) b0 b1 b2 b3 c0 c1 c2 c3 c4 c5 c6 c7 c8 c9 c10 c11 c12 c13 c14 c15 c16 c17 c18 c19 c20 c21 c22 c23 c24 c25 c26 c27 c28 c29 c30 c31 c32 c33 c34 = kx (ints .u8 (acc ++ (wt.drop i).flatMap bsB)) p77 p78 p79 b0 b1 b2 b3 c0 c1 c2 c3 c4 c5 c6 c7 c8 c9 c10 c11 c12 c13 c14 c15 c16 c17 c18 c19 c20 c21 c22 c23 c24 c25 c26 c27 c28 c29 c30 c31 c32 c33 c34
  | 0, i, acc, h1, h2, h3 => by omega
  | n + 1, i, acc, h1, h2, h3 => by
    simp only [lbbbbbbbbabaabbaabbba_tx_encode, bbbbbbbbbabaabbaabbba_tx_encode, lt_eq]
    by_cases h : i < wt.length
    · have h4 := hs wt[i] (List.getElem_mem h)
      rw [drop_fm h] at h3
      simp only [List.length_append] at h3
      rw [ifb_pos (by omega), idx_nat (items_get h), cL_some rfl]
      rw [ints_nil .u8, appBytes hL (by simp) (by omega), List.nil_append, ints_len, ints_len, chk_true (cap_ok (by omega)), ints_app]
      rw [up (by omega), txe_items hL kx wt hw hs p77 p78 p79 b0 b3 b1 b2 c0 c1 c2 c3 c4 c5 c6 c7 c8 c9 c10 c11 c12 c13 c14 c15 c16 c17 c18 c19 c20 c21 c22 c23 c24 c25 c26 c27 c28 c29 c30 c31 c32 c33 c34 n (i + 1) _ (by omega) (by omega) (by simp only [List.length_append]; omega), drop_fm h]
      simp
    · rw [ifb_neg (by omega), List.drop_of_length_le (by omega)]
      simp

/-! ref09 -/
theorem rfe_ins {L : Nat} (hL : 20 ≤ L) (kx : Bool → List (List V) → Int → List (List V) → List (List V) → Int → Option β) (l : List Inp) (hl : l.length ≤ 1000000) (w : Bool) (b0 b3 : Int) (b1 b2 : List (List V)) : ∀ (n i : Nat) (acc : List Int), i ≤ l.length → l.length - i < n → acc.length + ((l.drop i).flatMap inB).length ≤ 500000000000 →
    lbbbaba_ref09_encode F_ref01_AppendU32 F_ref01_AppendSize F_ref09_Point F_ref09_Out F_ref01_AppendBytes L kx n w (ints .u8 acc) (l.map irow) (l.length : Int) (i : Int) b0 b1 b2 b3 = kx w (ints .u8 (acc ++ (l.drop i).flatMap inB)) b0 b1 b2 b3
  | 0, i, acc, h1, h2, h3 => by omega
  | n + 1, i, acc, h1, h2, h3 => by
    simp only [lbbbaba_ref09_encode, bbbbaba_ref09_encode, lt_eq]
    by_cases h : i < l.length
    · rw [drop_fm h] at h3
      simp only [List.length_append, inB_len] at h3
      rw [ifb_pos (by omega), idx_nat (ins_get h)]
      simp only [irow_take, irow_len, chk_T]
      simp only [↓irow_c0, irow_t0, irow_c1, irow_t1, irow_c2, irow_t2, irow_c3, irow_t3, irow_c4, irow_t4, irow_c5, irow_t5, irow_c6, irow_t6, irow_c7, irow_t7, irow_c8, irow_t8, irow_c9, irow_t9, irow_c10, irow_t10, irow_c11, irow_t11, irow_c12, irow_t12, irow_c13, irow_t13, irow_c14, irow_t14, irow_c15, irow_t15, irow_c16, irow_t16, irow_c17, irow_t17, irow_c18, irow_t18, irow_c19, irow_t19, irow_c20, irow_t20, irow_c21, irow_t21, irow_c22, irow_t22, irow_c23, irow_t23, irow_c24, irow_t24, irow_c25, irow_t25, irow_c26, irow_t26, irow_c27, irow_t27, irow_c28, irow_t28, irow_c29, irow_t29, irow_c30, irow_t30, irow_c31, irow_t31, irow_c32, irow_t32, irow_c33, irow_t33, irow_c34, irow_t34, prow_lit]
      rw [refPoint hL, ints_len, ints_len, chk_true (cap_ok (by rw [ptB_len]; omega)), ints_app]
      rw [rapp32 hL (by simp only [List.length_append, ptB_len]; omega)]
      rw [up (by omega), rfe_ins hL kx l hl w b0 b3 b1 b2 n (i + 1) _ (by omega) (by omega) (by simp only [List.length_append, ptB_len, u32B_len]; omega), drop_fm h]
      simp [inB]
    · rw [ifb_neg (by omega), List.drop_of_length_le (by omega)]
      simp
theorem rfe_outs {L : Nat} (hL : 20 ≤ L) (kx : Bool → List (List V) → Int → List (List V) → List (List V) → Int → Option β) (l : List Outp) (hl : l.length ≤ 1000000) (hs : ∀ x ∈ l, x.scr.length ≤ 600) (w : Bool) (b0 b3 : Int) (b1 b2 : List (List V)) : ∀ (n i : Nat) (acc : List Int), i ≤ l.length → l.length - i < n → acc.length + ((l.drop i).flatMap outB).length ≤ 500000000000 →
    lbbbbbaba_ref09_encode F_ref01_AppendU32 F_ref01_AppendSize F_ref09_Point F_ref09_Out F_ref01_AppendBytes L kx n w (ints .u8 acc) (l.map orow) (l.length : Int) (i : Int) b0 b1 b2 b3 = kx w (ints .u8 (acc ++ (l.drop i).flatMap outB)) b0 b1 b2 b3
  | 0, i, acc, h1, h2, h3 => by omega
  | n + 1, i, acc, h1, h2, h3 => by
    simp only [lbbbbbaba_ref09_encode, bbbbbbaba_ref09_encode, lt_eq]
    by_cases h : i < l.length
    · have h4 := hs l[i] (List.getElem_mem h)
      rw [drop_fm h] at h3
      simp only [List.length_append, outB, u64B_len] at h3
      rw [ifb_pos (by omega), idx_nat (outs_get h)]
      simp only [orow_take, orow_len, chk_T]
      simp only [↓orow_c0, orow_c1, orow_t0, orow_t1, orow_lit]
      rw [refOut hL h4, ints_len, ints_len, chk_true (cap_ok (by simp only [outB, List.length_append, u64B_len]; omega)), ints_app]
      rw [up (by omega), rfe_outs hL kx l hl hs w b0 b3 b1 b2 n (i + 1) _ (by omega) (by omega) (by simp only [List.length_append, u64B_len, outB]; omega), drop_fm h]
      simp [outB]
    · rw [ifb_neg (by omega), List.drop_of_length_le (by omega)]
      simp
theorem rfe_items {L : Nat} (hL : 20 ≤ L) (kx : Bool → List (List V) → List (List V) → Int → Int → Int → List (List V) → List (List V) → Int → Int → Int → Int → Int → Int → Int → Int → Int → Int → Int → Int → Int → Int → Int → Int → Int → Int → Int → Int → Int → Int → Int → Int → Int → Int → Int → Int → Int → Int → Int → Int → Int → Int → Int → List (List V) → Option β) (wt : List (List Int)) (hw : wt.length ≤ 1000000) (hs : ∀ y ∈ wt, y.length ≤ 600) (w : Bool) (p77 : List (List V)) (p78 p79 : Int) (b0 b3 : Int) (b1 b2 : List (List V)) (c0 c1 c2 c3 c4 c5 c6 c7 c8 c9 c10 c11 c12 c13 c14 c15 c16 c17 c18 c19 c20 c21 c22 c23 c24 c25 c26 c27 c28 c29 c30 c31 c32 c33 : Int) (c34 : List (List V)) : ∀ (n i : Nat) (acc : List Int), i ≤ wt.length → wt.length - i < n → acc.length + ((wt.drop i).flatMap bsB).length ≤ 500000000000 →
    lbbbbbbbabaabbaabbbba_ref09_encode F_ref01_AppendU32 F_ref01_AppendSize F_ref09_Point F_ref09_Out F_ref01_AppendBytes L kx n w (ints .u8 acc) p77 p78 p79 (items wt) (wt.length : Int) (i : Int) b0 b1 b2 b3 c0 c1 c2 c3 c4 c5 c6 c7 c8 c9 c10 c11 c12 c13 c14 c15 c16 c17 c18 c19 c20 c21 c22 c23 c24 c25 c26 c27 c28 c29 c30 c31 c32 c33 c34 = kx w (ints .u8 (acc ++ (wt.drop i).flatMap bsB)) p77 p78 p79 b0 b1 b2 b3 c0 c1 c2 c3 c4 c5 c6 c7 c8 c9 c10 c11 c12 c13 c14 c15 c16 c17 c18 c19 c20 c21 c22 c23 c24 c25 c26 c27 c28 c29 c30 c31 c32 c33 c34
  | 0, i, acc, h1, h2, h3 => by omega
  | n + 1, i, acc, h1, h2, h3 => by
    simp only [lbbbbbbbabaabbaabbbba_ref09_encode, bbbbbbbbabaabbaabbbba_ref09_encode, lt_eq]
    by_cases h : i < wt.length
    · have h4 := hs wt[i] (List.getElem_mem h)
      rw [drop_fm h] at h3
      simp only [List.length_append] at h3
      rw [ifb_pos (by omega), idx_nat (items_get h), cL_some rfl]
      rw [rappBytes hL (by omega) (by omega)]
      rw [up (by omega), rfe_items hL kx wt hw hs w p77 p78 p79 b0 b3 b1 b2 c0 c1 c2 c3 c4 c5 c6 c7 c8 c9 c10 c11 c12 c13 c14 c15 c16 c17 c18 c19 c20 c21 c22 c23 c24 c25 c26 c27 c28 c29 c30 c31 c32 c33 c34 n (i + 1) _ (by omega) (by omega) (by simp only [List.length_append]; omega), drop_fm h]
      simp
    · rw [ifb_neg (by omega), List.drop_of_length_le (by omega)]
      simp

end Go.Proofs.Ytoeobffjdbdpgaa
