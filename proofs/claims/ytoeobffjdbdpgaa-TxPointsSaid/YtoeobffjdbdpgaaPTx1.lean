/- tx: the sanity check, what is kept, when a transaction is final. -/
import Derived.Test.YtoeobffjdbdpgaaPT0
import Derived.Test.YtoeobffjdbdpgaaFtx4
namespace Go.Proofs.Ytoeobffjdbdpgaa
set_option linter.unusedVariables false
set_option linter.unusedSimpArgs false
set_option maxRecDepth 100000
variable {β : Type}
theorem sane_holds (L : Nat) (k : Bool → Option β) : F_law09_sane β (L + 200) k = k true := by kernel_rfl
theorem sane_at {L : Nat} (h : 200 ≤ L) (k : Bool → Option β) : F_law09_sane β L k = k true := by
  obtain ⟨m, rfl⟩ : ∃ m, L = m + 200 := ⟨L - 200, by omega⟩
  exact sane_holds m k
theorem up {i : Nat} (h : i ≤ 1000000000) : IntKind.wrap .i64 ((i : Int) + 1) = ((i + 1 : Nat) : Int) := by
  rw [wrap_i64 (by omega) (by omega)]; omega
theorem items_len (w : List (List Int)) : (items w).length = w.length := by simp [items]
theorem items_get {w : List (List Int)} {i : Nat} (h : i < w.length) : (items w)[i]? = some [V.sl 1 (ints .u8 w[i])] := by simp [items, h]
theorem drop_all {α : Type} {l : List α} {p : α → Bool} {i : Nat} (h : i < l.length) : (l.drop i).all p = (p l[i] && (l.drop (i + 1)).all p) := by
  rw [List.drop_eq_getElem_cons h]; rfl
theorem ifb_not (b : Bool) (x y : Option β) : ifb (!b) x y = ifb b y x := by cases b <;> rfl
theorem ifb_if (b : Bool) (x y : Option β) : ifb b x y = if b = true then x else y := by cases b <;> rfl
theorem keepItems_loop (L : Nat) (b : Int) (kr : Bool → Option β) (kx : Option β) (w : List (List Int)) (hw : w.length ≤ 1000000) : ∀ (n i : Nat), i ≤ w.length → w.length - i < n →
    lbbaba_keep_Items L kr kx n b (items w) (w.length : Int) (i : Int) = ifb ((w.drop i).all fun x => decide ((x.length : Int) ≤ b)) kx (kr false)
  | 0, i, h1, h2 => by omega
  | n + 1, i, h1, h2 => by
    simp only [lbbaba_keep_Items, bbbaba_keep_Items, lt_eq]
    by_cases h : i < w.length
    · rw [ifb_pos (by omega), idx_nat (items_get h), cL_some rfl, up (by omega), keepItems_loop L b kr kx w hw n (i + 1) (by omega) (by omega), drop_all h]
      simp only [ints_len]
      by_cases hb : ((w[i].length : Nat) : Int) ≤ b
      · rw [ifb_neg (by omega)]; simp [hb]
      · rw [ifb_pos (by omega)]; simp [hb, ifb]
    · rw [ifb_neg (by omega), List.drop_of_length_le (by omega)]; rfl
theorem keepItems {L : Nat} (hL : 2000 ≤ L) {a b : Int} (ha : a ≤ 1000) (w : List (List Int)) (k : Bool → Option β) : F_keep_Items β L (items w) a b k = k (decide ((w.length : Int) ≤ a) && w.all fun x => decide ((x.length : Int) ≤ b)) := by
  simp only [F_keep_Items, R_keep_Items, e_keep_Items, items_len, rbbabaret_keep_Items, rbbabax0_keep_Items]
  by_cases h : (w.length : Int) ≤ a
  · rw [ifb_neg (by omega), show ((0 : Int)) = ((0 : Nat) : Int) from rfl, keepItems_loop L b _ _ w (by omega) L 0 (by omega) (by omega)]
    simp only [List.drop_zero, h, decide_true, Bool.true_and]
    cases w.all fun x => decide ((x.length : Int) ≤ b) <;> rfl
  · rw [ifb_pos (by omega)]; simp [h]
theorem ins_get {l : List Inp} {i : Nat} (h : i < l.length) : (l.map irow)[i]? = some (irow l[i]) := by simp [h]
theorem outs_get {l : List Outp} {i : Nat} (h : i < l.length) : (l.map orow)[i]? = some (orow l[i]) := by simp [h]
def keptI (x : Inp) : Bool := decide ((x.wit.length : Int) ≤ 40) && x.wit.all fun y => decide ((y.length : Int) ≤ 600)
theorem keepTx_in {L : Nat} (hL : 2000 ≤ L) (kr : Bool → Int → List (List V) → List (List V) → Int → Option β) (kx : Int → List (List V) → List (List V) → Int → Option β) (l : List Inp) (hl : l.length ≤ 1000000) (b0 b3 : Int) (b1 b2 : List (List V)) : ∀ (n i : Nat), i ≤ l.length → l.length - i < n →
    lbbaba_keep_Tx F_keep_Items L kr kx n (l.map irow) (l.length : Int) (i : Int) b0 b1 b2 b3 = ifb ((l.drop i).all keptI) (kx b0 b1 b2 b3) (kr false b0 b1 b2 b3)
  | 0, i, h1, h2 => by omega
  | n + 1, i, h1, h2 => by
    simp only [lbbaba_keep_Tx, bbbaba_keep_Tx, lt_eq]
    by_cases h : i < l.length
    · rw [ifb_pos (by omega), idx_nat (ins_get h)]
      simp only [irow_take, irow_len, chk_T]
      simp only [↓irow_c0, irow_t0, irow_c1, irow_t1, irow_c2, irow_t2, irow_c3, irow_t3, irow_c4, irow_t4, irow_c5, irow_t5, irow_c6, irow_t6, irow_c7, irow_t7, irow_c8, irow_t8, irow_c9, irow_t9, irow_c10, irow_t10, irow_c11, irow_t11, irow_c12, irow_t12, irow_c13, irow_t13, irow_c14, irow_t14, irow_c15, irow_t15, irow_c16, irow_t16, irow_c17, irow_t17, irow_c18, irow_t18, irow_c19, irow_t19, irow_c20, irow_t20, irow_c21, irow_t21, irow_c22, irow_t22, irow_c23, irow_t23, irow_c24, irow_t24, irow_c25, irow_t25, irow_c26, irow_t26, irow_c27, irow_t27, irow_c28, irow_t28, irow_c29, irow_t29, irow_c30, irow_t30, irow_c31, irow_t31, irow_c32, irow_t32, irow_c33, irow_t33, irow_c34, irow_t34]
      rw [keepItems hL (by omega), up (by omega), keepTx_in hL kr kx l hl b0 b3 b1 b2 n (i + 1) (by omega) (by omega), drop_all h]
      show ifb (!(keptI l[i])) _ _ = _
      cases keptI l[i] <;> rfl
    · rw [ifb_neg (by omega), List.drop_of_length_le (by omega)]; rfl
def keptO (x : Outp) : Bool := decide ((x.scr.length : Int) ≤ 600)
theorem keepTx_out {L : Nat} (kr : Bool → Int → List (List V) → List (List V) → Int → Option β) (kx : Int → List (List V) → List (List V) → Int → Option β) (l : List Outp) (hl : l.length ≤ 1000000) (b0 b3 : Int) (b1 b2 : List (List V)) : ∀ (n i : Nat), i ≤ l.length → l.length - i < n →
    lbbbaba_keep_Tx F_keep_Items L kr kx n (l.map orow) (l.length : Int) (i : Int) b0 b1 b2 b3 = ifb ((l.drop i).all keptO) (kx b0 b1 b2 b3) (kr false b0 b1 b2 b3)
  | 0, i, h1, h2 => by omega
  | n + 1, i, h1, h2 => by
    simp only [lbbbaba_keep_Tx, bbbbaba_keep_Tx, lt_eq]
    by_cases h : i < l.length
    · rw [ifb_pos (by omega), idx_nat (outs_get h)]
      simp only [orow_take, orow_len, chk_T]
      simp only [↓orow_c0, orow_c1, orow_t0, orow_t1, ints_len]
      rw [up (by omega), keepTx_out kr kx l hl b0 b3 b1 b2 n (i + 1) (by omega) (by omega), drop_all h]
      by_cases hb : ((l[i].scr.length : Nat) : Int) ≤ 600
      · rw [ifb_neg (by omega)]; simp [keptO, hb]
      · rw [ifb_pos (by omega)]; simp [keptO, hb, ifb]
    · rw [ifb_neg (by omega), List.drop_of_length_le (by omega)]; rfl
/-- what a statement asks of a transaction -/
def kept (t : TxT) : Bool := decide (t.ins.length ≤ 70) && decide (t.outs.length ≤ 70) && t.ins.all keptI && t.outs.all keptO
theorem keepTx {L : Nat} (hL : 2000 ≤ L) (t : TxT) (k : Bool → Option β) : F_keep_Tx β L (trow t) k = k (kept t) := by
  simp only [F_keep_Tx, R_keep_Tx, e_keep_Tx, trow_len, chk_T]
  simp only [↓trow_c0, trow_c1, trow_c2, trow_c3, List.length_map, rbbabaret_keep_Tx, Crbbabax0_keep_Tx, rbbabax0_keep_Tx, rbbbabaret_keep_Tx, rbbbabax2_keep_Tx]
  by_cases h1 : t.ins.length ≤ 70
  · rw [ifb_neg (by omega)]
    by_cases h2 : t.outs.length ≤ 70
    · rw [ifb_neg (by omega), show ((0 : Int)) = ((0 : Nat) : Int) from rfl, keepTx_in hL _ _ _ (by omega) _ _ _ _ L 0 (by omega) (by omega)]
      simp only [List.length_map]
      rw [keepTx_out _ _ _ (by omega) _ _ _ _ L 0 (by omega) (by omega)]
      simp only [List.drop_zero, kept, h1, h2, decide_true, Bool.true_and]
      cases t.ins.all keptI <;> cases t.outs.all keptO <;> rfl
    · rw [ifb_pos (by omega)]; simp [kept, h2]
  · rw [ifb_pos (by omega)]; simp [kept, h1]
structure KeptP (t : TxT) : Prop where
  ni : t.ins.length ≤ 70
  no : t.outs.length ≤ 70
  wl : ∀ x ∈ t.ins, x.wit.length ≤ 40
  wi : ∀ x ∈ t.ins, ∀ y ∈ x.wit, y.length ≤ 600
  sl : ∀ x ∈ t.outs, x.scr.length ≤ 600
theorem kept_p {t : TxT} (h : kept t = true) : KeptP t := by
  simp only [kept, keptI, keptO, Bool.and_eq_true, decide_eq_true_eq, List.all_eq_true] at h
  exact ⟨h.1.1.1, h.1.1.2, fun x hx => by have := (h.1.2 x hx).1; omega, fun x hx y hy => by have := (h.1.2 x hx).2 y hy; omega, fun x hx => by have := h.2 x hx; omega⟩
/-! final -/
def lastI (x : Inp) : Bool := x.seq == 4294967295
theorem final_loop {L : Nat} (kr : Bool → Int → List (List V) → List (List V) → Int → Option β) (kx : Int → List (List V) → List (List V) → Int → Option β) (l : List Inp) (hl : l.length ≤ 1000000) (b0 b3 : Int) (b1 b2 : List (List V)) : ∀ (n i : Nat), i ≤ l.length → l.length - i < n →
    lbbaba_tx_Final L kr kx n (l.map irow) (l.length : Int) (i : Int) b0 b1 b2 b3 = ifb ((l.drop i).all lastI) (kx b0 b1 b2 b3) (kr false b0 b1 b2 b3)
  | 0, i, h1, h2 => by omega
  | n + 1, i, h1, h2 => by
    simp only [lbbaba_tx_Final, bbbaba_tx_Final, lt_eq]
    by_cases h : i < l.length
    · rw [ifb_pos (by omega), idx_nat (ins_get h)]
      simp only [irow_take, irow_len, chk_T]
      simp only [↓irow_c0, irow_t0, irow_c1, irow_t1, irow_c2, irow_t2, irow_c3, irow_t3, irow_c4, irow_t4, irow_c5, irow_t5, irow_c6, irow_t6, irow_c7, irow_t7, irow_c8, irow_t8, irow_c9, irow_t9, irow_c10, irow_t10, irow_c11, irow_t11, irow_c12, irow_t12, irow_c13, irow_t13, irow_c14, irow_t14, irow_c15, irow_t15, irow_c16, irow_t16, irow_c17, irow_t17, irow_c18, irow_t18, irow_c19, irow_t19, irow_c20, irow_t20, irow_c21, irow_t21, irow_c22, irow_t22, irow_c23, irow_t23, irow_c24, irow_t24, irow_c25, irow_t25, irow_c26, irow_t26, irow_c27, irow_t27, irow_c28, irow_t28, irow_c29, irow_t29, irow_c30, irow_t30, irow_c31, irow_t31, irow_c32, irow_t32, irow_c33, irow_t33, irow_c34, irow_t34]
      rw [up (by omega), final_loop kr kx l hl b0 b3 b1 b2 n (i + 1) (by omega) (by omega), drop_all h, ifb_bne]
      by_cases hb : l[i].seq = 4294967295
      · simp [lastI, hb]
      · have hb' : lastI l[i] = false := by simp [lastI, hb]
        rw [if_neg hb, hb']; rfl
    · rw [ifb_neg (by omega), List.drop_of_length_le (by omega)]; rfl
theorem txFinal {L : Nat} (hL : 2000 ≤ L) {t : TxT} (ht : TxOk t) (hl : t.ins.length ≤ 1000) (h : Int) (k : Bool → Option β) : F_tx_Final β L (trow t) h k = k (decide (t.lock ≤ h) || t.ins.all lastI) := by
  have hlock := ht.lock
  simp only [F_tx_Final, R_tx_Final, e_tx_Final, trow_len, chk_T]
  simp only [↓trow_c0, trow_c1, trow_c2, trow_c3, List.length_map, rbbabaret_tx_Final, rbbabax0_tx_Final, lt_eq]
  rw [wrap_i64 (by omega) (by omega), ifb_dec]
  by_cases h1 : t.lock ≤ h
  · rw [if_pos h1]; simp [h1]
  · rw [if_neg h1, show ((0 : Int)) = ((0 : Nat) : Int) from rfl, final_loop _ _ _ (by omega) _ _ _ _ L 0 (by omega) (by omega)]
    simp only [List.drop_zero, h1, decide_false, Bool.false_or]
    cases t.ins.all lastI <;> rfl
theorem txLater_plain (a0 : List V) (a1 a2 : Int) (wf0 : HasRow ([.int .u32] ++ [.sl (List.replicate 32 (.int .u8) ++ List.replicate 2 (.int .u32) ++ [.sl ([.sl ([.int .u8])])])] ++ [.sl ([.int .i64] ++ [.sl ([.int .u8])])] ++ [.int .u32]) a0) (wf1 : (Lit.int .u32 a1).wf = true) (wf2 : (Lit.int .u32 a2).wf = true) : ∃ L, ∀ k : Bool → Option Bool, F_law09_TxLater Bool L a0 a1 a2 k = k true := by
  obtain ⟨t, rfl, ht⟩ := tx_of wf0
  have h1 := wf_u32 wf1
  have h2 := wf_u32 wf2
  refine ⟨5000, fun k => ?_⟩
  simp only [F_law09_TxLater, R_law09_TxLater, trow_len, chk_T]
  simp only [↓trow_c0, trow_c1, trow_c2, trow_c3, lt_eq]
  rw [sane_at (by omega)]
  simp only [Bool.not_true, ifb_false, trow_lit]
  rw [keepTx (by omega)]
  cases hk : kept t with
  | false => rfl
  | true =>
    have hp := kept_p hk
    rw [wrap_i64 (n := a1) (by omega) (by omega), wrap_i64 (n := a2) (by omega) (by omega), wrap_i64 (by omega) (by omega)]
    rw [txFinal (by omega) ht (by have := hp.ni; omega), txFinal (by omega) ht (by have := hp.ni; omega)]
    simp only [Bool.not_true, ifb_false]
    cases t.ins.all lastI with
    | true => simp [ifb]
    | false =>
      by_cases h3 : t.lock ≤ a1
      · have h4 : t.lock ≤ a1 + a2 := by omega
        simp [h3, h4, ifb]
      · simp [h3, ifb]
end Go.Proofs.Ytoeobffjdbdpgaa
