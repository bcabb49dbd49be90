/- tx: the first structural error; the law TxChecks. -/
import Derived.Test.YtoeobffjdbdpgaaPTx5
namespace Go.Proofs.Ytoeobffjdbdpgaa
set_option linter.unusedVariables false
set_option linter.unusedSimpArgs false
set_option maxRecDepth 100000
variable {β : Type}
/-! final, by the reference -/
theorem rfinal_loop {L : Nat} (kr : Bool → Int → List (List V) → List (List V) → Int → Option β) (kx : Int → List (List V) → List (List V) → Int → Option β) (l : List Inp) (hl : l.length ≤ 1000000) (b0 b3 : Int) (b1 b2 : List (List V)) : ∀ (n i : Nat), i ≤ l.length → l.length - i < n →
    lbbaba_ref09_Final L kr kx n (l.map irow) (l.length : Int) (i : Int) b0 b1 b2 b3 = ifb ((l.drop i).all lastI) (kx b0 b1 b2 b3) (kr false b0 b1 b2 b3)
  | 0, i, h1, h2 => by omega
  | n + 1, i, h1, h2 => by
    simp only [lbbaba_ref09_Final, bbbaba_ref09_Final, lt_eq]
    by_cases h : i < l.length
    · rw [ifb_pos (by omega), idx_nat (ins_get h)]
      simp only [irow_take, irow_len, chk_T]
      simp only [↓irow_c0, irow_t0, irow_c1, irow_t1, irow_c2, irow_t2, irow_c3, irow_t3, irow_c4, irow_t4, irow_c5, irow_t5, irow_c6, irow_t6, irow_c7, irow_t7, irow_c8, irow_t8, irow_c9, irow_t9, irow_c10, irow_t10, irow_c11, irow_t11, irow_c12, irow_t12, irow_c13, irow_t13, irow_c14, irow_t14, irow_c15, irow_t15, irow_c16, irow_t16, irow_c17, irow_t17, irow_c18, irow_t18, irow_c19, irow_t19, irow_c20, irow_t20, irow_c21, irow_t21, irow_c22, irow_t22, irow_c23, irow_t23, irow_c24, irow_t24, irow_c25, irow_t25, irow_c26, irow_t26, irow_c27, irow_t27, irow_c28, irow_t28, irow_c29, irow_t29, irow_c30, irow_t30, irow_c31, irow_t31, irow_c32, irow_t32, irow_c33, irow_t33, irow_c34, irow_t34]
      rw [up (by omega), rfinal_loop kr kx l hl b0 b3 b1 b2 n (i + 1) (by omega) (by omega), drop_all h, ifb_bne]
      by_cases hb : l[i].seq = 4294967295
      · simp [lastI, hb]
      · have hb' : lastI l[i] = false := by simp [lastI, hb]
        rw [if_neg hb, hb']; rfl
    · rw [ifb_neg (by omega), List.drop_of_length_le (by omega)]; rfl
theorem refFinal {L : Nat} (hL : 2000 ≤ L) {t : TxT} (ht : TxOk t) (hl : t.ins.length ≤ 1000) (h : Int) (k : Bool → Option β) : F_ref09_Final β L (trow t) h k = k (decide (t.lock ≤ h) || t.ins.all lastI) := by
  have hlock := ht.lock
  simp only [F_ref09_Final, R_ref09_Final, e_ref09_Final, trow_len, chk_T]
  simp only [↓trow_c0, trow_c1, trow_c2, trow_c3, List.length_map, rbbabaret_ref09_Final, rbbabax0_ref09_Final, lt_eq]
  rw [wrap_i64 (by omega) (by omega), ifb_dec]
  by_cases h1 : t.lock ≤ h
  · rw [if_pos h1]; simp [h1]
  · rw [if_neg h1, show ((0 : Int)) = ((0 : Nat) : Int) from rfl, rfinal_loop _ _ _ (by omega) _ _ _ _ L 0 (by omega) (by omega)]
    simp only [List.drop_zero, h1, decide_false, Bool.false_or]
    cases t.ins.all lastI <;> rfl
/-! money -/
def sumV : List Outp → Int
  | [] => 0
  | o :: l => o.val + sumV l
theorem sumV_nonneg : ∀ {l : List Outp}, (∀ o ∈ l, 0 ≤ o.val) → 0 ≤ sumV l
  | [], _ => Int.le_refl 0
  | o :: l, h => by
    have h1 := h o (by simp)
    have h2 := sumV_nonneg (l := l) (fun x hx => h x (by simp [hx]))
    simp only [sumV]; omega
theorem drop_sum {l : List Outp} {i : Nat} (h : i < l.length) : sumV (l.drop i) = l[i].val + sumV (l.drop (i + 1)) := by
  rw [List.drop_eq_getElem_cons h]; rfl
theorem money_loop {L : Nat} (kr : Bool → Option β) (kx : Option β) (l : List Outp) (hl : l.length ≤ 1000000) (hv : ∀ o ∈ l, 0 ≤ o.val) : ∀ (n i : Nat) (s : Int), i ≤ l.length → l.length - i < n → 0 ≤ s → s ≤ 2100000000000000 →
    lbbaba_tx_money L kr kx n s (l.map orow) (l.length : Int) (i : Int) = ifb (decide (s + sumV (l.drop i) ≤ 2100000000000000)) kx (kr false)
  | 0, i, s, h1, h2, h3, h4 => by omega
  | n + 1, i, s, h1, h2, h3, h4 => by
    simp only [lbbaba_tx_money, bbbaba_tx_money, lt_eq]
    by_cases h : i < l.length
    · have h5 := hv l[i] (List.getElem_mem h)
      have h6 := sumV_nonneg (l := l.drop (i + 1)) (fun x hx => hv x (List.mem_of_mem_drop hx))
      rw [ifb_pos (by omega), idx_nat (outs_get h)]
      simp only [orow_take, orow_len, chk_T]
      simp only [↓orow_c0, orow_c1, orow_t0, orow_t1]
      rw [wrap_i64 (n := 2100000000000000 - s) (by omega) (by omega), drop_sum h]
      by_cases hb : l[i].val > 2100000000000000 - s
      · rw [ifb_pos hb, ifb_neg (by omega)]
      · rw [ifb_neg hb, wrap_i64 (n := s + l[i].val) (by omega) (by omega), up (by omega), money_loop kr kx l hl hv n (i + 1) _ (by omega) (by omega) (by omega) (by omega), Int.add_assoc]
    · rw [ifb_neg (by omega), List.drop_of_length_le (by omega), ifb_pos (by simp [sumV]; omega)]
theorem txMoney {L : Nat} (hL : 2000 ≤ L) {l : List Outp} (hl : l.length ≤ 1000) (hv : ∀ o ∈ l, 0 ≤ o.val) (k : Bool → Option β) : F_tx_money β L (l.map orow) k = k (decide (sumV l ≤ 2100000000000000)) := by
  simp only [F_tx_money, R_tx_money, e_tx_money, List.length_map, rbbabaret_tx_money, rbbabax0_tx_money]
  have := money_loop (L := L) (fun p => k p) (k true) l (by omega) hv L 0 0 (by omega) (by omega) (by omega) (by omega)
  simp only [List.drop_zero, Int.zero_add] at this
  refine Eq.trans this ?_
  by_cases h : sumV l ≤ 2100000000000000
  · rw [ifb_pos h]; simp [h]
  · rw [ifb_neg h]; simp [h]
/-! prevs -/
def nullrow : List V := List.replicate 32 (V.sc (.int .u8 (0 : Int))) ++ [(V.sc (.int .u32 (4294967295 : Int)))]
def eqP (x y : Inp) : Bool := (eqCells (prow x) (prow y)).getD false
def eqN (x : Inp) : Bool := (eqCells (prow x) nullrow).getD false
theorem eqP_some (x y : Inp) : eqCells (prow x) (prow y) = some (eqP x y) := by
  have h : (eqCells (prow x) (prow y)).isSome = true := by rfl
  unfold eqP
  obtain ⟨b, hb⟩ := Option.isSome_iff_exists.1 h
  rw [hb]; rfl
theorem eqN_some (x : Inp) : eqCells (prow x) nullrow = some (eqN x) := by
  have h : (eqCells (prow x) nullrow).isSome = true := by rfl
  unfold eqN
  obtain ⟨b, hb⟩ := Option.isSome_iff_exists.1 h
  rw [hb]; rfl
theorem eqCells_comm : ∀ (a b : List V) (r : Bool), eqCells a b = some r → eqCells b a = some r
  | [], [], r, h => h
  | [], y :: b, r, h => by simp [eqCells] at h
  | x :: a, [], r, h => by unfold eqCells at h; split at h <;> simp_all
  | x :: a, y :: b, r, h => by
    unfold eqCells at h
    split at h
    · simp_all
    · rename_i e1 e2
      cases e1; cases e2
      split at h
      · rename_i hk
        simp only [Option.map_eq_some_iff] at h
        obtain ⟨q, hq, rfl⟩ := h
        simp only [eqCells, hk, if_true, eqCells_comm _ _ _ hq, Option.map_some]
        congr 2
        exact Bool.beq_comm ..
      · cases h
    · cases h
theorem take33 (x : Inp) : List.take 33 (irow x) = prow x := by rfl
theorem take33p (x : Inp) : List.take 33 (prow x) = prow x := by rfl
theorem nullrow_len : nullrow.length = 33 := by simp [nullrow]
theorem eqC_null (x : Inp) (k : Bool → Option β) : eqC 33 (prow x) nullrow k = k (eqN x) := by
  simp only [eqC, prow_len, nullrow_len, and_self, if_true, eqN_some]
theorem eqC_prow (x y : Inp) (k : Bool → Option β) : eqC 33 (prow x) (prow y) k = k (eqP x y) := by
  simp only [eqC, prow_len, and_self, if_true, eqP_some]
theorem txNull {L : Nat} (x : Inp) (k : Bool → Option β) : F_tx_null β L (prow x) k = k (eqN x) := by
  simp only [F_tx_null, R_tx_null]
  rw [chk_true (by rw [prow_len]; omega), take33p]
  exact eqC_null x k
theorem refNull {L : Nat} (x : Inp) (k : Bool → Option β) : F_ref09_Null β L (prow x) k = k (eqN x) := by
  simp only [F_ref09_Null, R_ref09_Null]
  rw [chk_true (by rw [prow_len]; omega), take33p]
  exact eqC_null x k
def cbB (t : TxT) : Bool := match t.ins with
  | [x] => eqN x
  | _ => false
theorem one_of {l : List Inp} (h : l.length = 1) : ∃ x, l = [x] := List.length_eq_one_iff.1 h
theorem txCoinbase {L : Nat} (t : TxT) (k : Bool → Option β) : F_tx_Coinbase β L (trow t) k = k (cbB t) := by
  simp only [F_tx_Coinbase, R_tx_Coinbase, trow_len, chk_T]
  simp only [↓trow_c0, trow_c1, trow_c2, trow_c3, List.length_map]
  by_cases h : t.ins.length = 1
  · obtain ⟨x, hx⟩ := one_of h
    rw [ifb_beq_pos (by omega), hx, idx_some (j := 0) (by omega) rfl, take33, txNull]
    simp [cbB, hx]
  · rw [ifb_beq_neg (by omega)]
    have : cbB t = false := by
      unfold cbB
      split
      · rename_i x hx; rw [hx] at h; simp at h
      · rfl
    rw [this]
theorem refCoinbase {L : Nat} (t : TxT) (k : Bool → Option β) : F_ref09_Coinbase β L (trow t) k = k (cbB t) := by
  simp only [F_ref09_Coinbase, R_ref09_Coinbase, trow_len, chk_T]
  simp only [↓trow_c0, trow_c1, trow_c2, trow_c3, List.length_map]
  by_cases h : t.ins.length = 1
  · obtain ⟨x, hx⟩ := one_of h
    rw [ifb_beq_pos (by omega), hx, idx_some (j := 0) (by omega) rfl, take33, refNull]
    simp [cbB, hx]
  · rw [ifb_beq_neg (by omega)]
    have : cbB t = false := by
      unfold cbB
      split
      · rename_i x hx; rw [hx] at h; simp at h
      · rfl
    rw [this]
/-! the map of what was seen -/
def seen (l : List Inp) : List (V × V) := l.map fun x => (V.agg (prow x), V.sc (.bool true))
theorem mfind_seen (x : Inp) : ∀ (l : List Inp), mfind (V.agg (prow x)) (seen l) = some (if l.any (eqP x) = true then some (V.sc (.bool true)) else none)
  | [] => rfl
  | y :: l => by
    have ih := mfind_seen x l
    simp only [seen] at ih
    simp only [seen, List.map_cons, mfind, keyEq, prow_len, if_true, eqP_some, List.any_cons]
    by_cases hb : eqP x y = true
    · simp only [hb]; rfl
    · simp only [Bool.not_eq_true] at hb
      simp only [hb]
      simpa using ih
theorem mfind_null : ∀ (l : List Inp), mfind (V.agg nullrow) (seen l) = some (if l.any eqN = true then some (V.sc (.bool true)) else none)
  | [] => rfl
  | y :: l => by
    have ih := mfind_null l
    simp only [seen] at ih
    simp only [seen, List.map_cons, mfind, keyEq, prow_len, nullrow_len, if_true, eqCells_comm _ _ _ (eqN_some y), List.any_cons]
    by_cases hb : eqN y = true
    · simp only [hb]; rfl
    · simp only [Bool.not_eq_true] at hb
      simp only [hb]
      simpa using ih
theorem mset_seen (x : Inp) : ∀ (l : List Inp), l.any (eqP x) = false → mset (V.agg (prow x)) (V.sc (.bool true)) (seen l) = some (seen (l ++ [x]))
  | [], _ => rfl
  | y :: l, h => by
    simp only [List.any_cons, Bool.or_eq_false_iff] at h
    have ih := mset_seen x l h.2
    simp only [seen] at ih
    simp only [seen, List.map_cons, mset, keyEq, prow_len, if_true, eqP_some, h.1, ih, Option.map_some, List.cons_append]
theorem keyOk_prow (x : Inp) : keyOk 35 (V.agg (prow x)) = true := by simp [keyOk, prow_len]
theorem keyOk_null : keyOk 35 (V.agg nullrow) = true := by simp [keyOk, nullrow_len]
theorem mAt_seen (x : Inp) (l : List Inp) (k : Bool → Option β) : (mAt 35 (V.agg (prow x)) (seen l) fun q => aB (Option.getD q (V.sc (.bool false))) k) = k (l.any (eqP x)) := by
  simp only [mAt, keyOk_prow, mfind_seen]
  cases l.any (eqP x) <;> rfl
theorem mAt_null (l : List Inp) (k : Bool → Option β) : (mAt 35 (V.agg nullrow) (seen l) fun q => aB (Option.getD q (V.sc (.bool false))) k) = k (l.any eqN) := by
  simp only [mAt, keyOk_null, mfind_null]
  cases l.any eqN <;> rfl
theorem mPut_seen {x : Inp} {l : List Inp} (h : l.any (eqP x) = false) (k : List (V × V) → Option β) : mPut 35 (V.agg (prow x)) (V.sc (.bool true)) (seen l) k = k (seen (l ++ [x])) := by
  simp only [mPut, keyOk_prow, mset_seen x l h]
/-- a prev that stands twice -/
def dupFrom : List Inp → List Inp → Bool
  | _, [] => false
  | pre, x :: l => pre.any (eqP x) || dupFrom (pre ++ [x]) l
theorem drop_dup {l : List Inp} {i : Nat} (h : i < l.length) : dupFrom (l.take i) (l.drop i) = ((l.take i).any (eqP l[i]) || dupFrom (l.take (i + 1)) (l.drop (i + 1))) := by
  rw [List.drop_eq_getElem_cons h, dupFrom, List.take_succ_eq_append_getElem h]
theorem tdup_loop {L : Nat} (kr : Int → Int → List (List V) → List (List V) → Int → List (V × V) → Option β) (kx : Int → List (List V) → List (List V) → Int → List (V × V) → Option β) (l : List Inp) (hl : l.length ≤ 1000000) (b0 b3 : Int) (b1 b2 : List (List V)) (R : Option β) (hr : ∀ m, kr 91 b0 b1 b2 b3 m = R) : ∀ (n i : Nat), i ≤ l.length → l.length - i < n →
    lbbbbbaba_tx_Check F_tx_fits F_tx_money F_tx_Coinbase L kr kx n (l.map irow) (l.length : Int) (i : Int) b0 b1 b2 b3 (seen (l.take i)) = ifb (dupFrom (l.take i) (l.drop i)) R (kx b0 b1 b2 b3 (seen l)) := by
  intro n
  induction n with
  | zero => intro i h1 h2; omega
  | succ n ih =>
    intro i h1 h2
    simp only [lbbbbbaba_tx_Check, bbbbbbaba_tx_Check, lt_eq]
    by_cases h : i < l.length
    · rw [ifb_pos (by omega), idx_nat (ins_get h)]
      simp only [irow_take, irow_len, chk_T]
      simp only [↓irow_c0, irow_t0, irow_c1, irow_t1, irow_c2, irow_t2, irow_c3, irow_t3, irow_c4, irow_t4, irow_c5, irow_t5, irow_c6, irow_t6, irow_c7, irow_t7, irow_c8, irow_t8, irow_c9, irow_t9, irow_c10, irow_t10, irow_c11, irow_t11, irow_c12, irow_t12, irow_c13, irow_t13, irow_c14, irow_t14, irow_c15, irow_t15, irow_c16, irow_t16, irow_c17, irow_t17, irow_c18, irow_t18, irow_c19, irow_t19, irow_c20, irow_t20, irow_c21, irow_t21, irow_c22, irow_t22, irow_c23, irow_t23, irow_c24, irow_t24, irow_c25, irow_t25, irow_c26, irow_t26, irow_c27, irow_t27, irow_c28, irow_t28, irow_c29, irow_t29, irow_c30, irow_t30, irow_c31, irow_t31, irow_c32, irow_t32, irow_c33, irow_t33, irow_c34, irow_t34, prow_lit]
      rw [mAt_seen, drop_dup h]
      cases hd : (l.take i).any (eqP l[i])
      · rw [mPut_seen hd, ← List.take_succ_eq_append_getElem h, up (by omega), ih (i + 1) (by omega) (by omega)]
        rfl
      · rw [hr]; rfl
    · rw [ifb_neg (by omega), List.drop_of_length_le (by omega), List.take_of_length_le (by omega)]; rfl
/-! the reference -/
def bigO (o : Outp) : Bool := decide (o.val > 2100000000000000)
theorem drop_any {α : Type} {l : List α} {p : α → Bool} {i : Nat} (h : i < l.length) : (l.drop i).any p = (p l[i] || (l.drop (i + 1)).any p) := by
  rw [List.drop_eq_getElem_cons h]; rfl
theorem rmoney_loop {L : Nat} (kr : Int → Int → List (List V) → List (List V) → Int → Option β) (kx : Int → Int → List (List V) → List (List V) → Int → Option β) (l : List Outp) (hl : l.length ≤ 1000) (hv : ∀ o ∈ l, 0 ≤ o.val) (b0 b3 : Int) (b1 b2 : List (List V)) : ∀ (n i : Nat) (s : Int), i ≤ l.length → l.length - i < n → 0 ≤ s → s ≤ i * 2100000000000000 →
    lbbbbaba_ref09_Check F_ref09_Fits F_ref09_Null F_ref09_Coinbase L kr kx n s (l.map orow) (l.length : Int) (i : Int) b0 b1 b2 b3 = ifb ((l.drop i).any bigO) (kr 90 b0 b1 b2 b3) (kx (s + sumV (l.drop i)) b0 b1 b2 b3) := by
  intro n
  induction n with
  | zero => intro i s h1 h2 h3 h4; omega
  | succ n ih =>
    intro i s h1 h2 h3 h4
    simp only [lbbbbaba_ref09_Check, bbbbbaba_ref09_Check, lt_eq]
    by_cases h : i < l.length
    · have h5 := hv l[i] (List.getElem_mem h)
      rw [ifb_pos (by omega), idx_nat (outs_get h)]
      simp only [orow_take, orow_len, chk_T]
      simp only [↓orow_c0, orow_c1, orow_t0, orow_t1]
      rw [drop_sum h, drop_any h]
      by_cases hb : l[i].val > 2100000000000000
      · have hb' : bigO l[i] = true := by simp [bigO, hb]
        rw [ifb_pos hb, hb']; rfl
      · have hb' : bigO l[i] = false := by simp [bigO]; omega
        rw [ifb_neg hb, wrap_i64 (n := s + l[i].val) (by omega) (by omega), up (by omega), ih (i + 1) _ (by omega) (by omega) (by omega) (by omega), Int.add_assoc, hb']
        rfl
    · rw [ifb_neg (by omega), List.drop_of_length_le (by omega)]
      simp [sumV, ifb]
theorem big_sum : ∀ {l : List Outp}, (∀ o ∈ l, 0 ≤ o.val) → l.any bigO = true → sumV l > 2100000000000000
  | [], _, h => by simp at h
  | o :: l, hv, h => by
    have h1 := hv o (by simp)
    have h2 := sumV_nonneg (l := l) (fun x hx => hv x (by simp [hx]))
    simp only [List.any_cons, Bool.or_eq_true] at h
    simp only [sumV]
    rcases h with h | h
    · simp [bigO] at h; omega
    · have := big_sum (l := l) (fun x hx => hv x (by simp [hx])) h
      omega
theorem rdup_in {L : Nat} (kr : Int → Int → List (List V) → List (List V) → Int → Option β) (kx : Int → Int → Int → List (List V) → List (List V) → Int → Option β) (l : List Inp) (hl : l.length ≤ 1000000) {i : Nat} (hi : i < l.length) (p42 p43 b0 b3 : Int) (b2 : List (List V)) : ∀ (n k : Nat), k ≤ i → i - k < n →
    lbbbbbbabaabbaabba_ref09_Check F_ref09_Fits F_ref09_Null F_ref09_Coinbase L kr kx n (i : Int) (k : Int) p42 p43 b0 (l.map irow) b2 b3 = ifb (((l.take i).drop k).any (eqP l[i])) (kr 91 b0 (l.map irow) b2 b3) (kx p42 p43 b0 (l.map irow) b2 b3)
  | 0, k, h1, h2 => by omega
  | n + 1, k, h1, h2 => by
    simp only [lbbbbbbabaabbaabba_ref09_Check, bbbbbbbabaabbaabba_ref09_Check, lt_eq]
    by_cases h : k < i
    · have hk : k < (l.take i).length := by simp; omega
      have e : (l.take i)[k] = l[k]'(by omega) := List.getElem_take
      rw [ifb_pos (by omega), idx_nat (ins_get hi), idx_nat (ins_get (i := k) (by omega)), take33, take33, eqC_prow, drop_any hk, e]
      cases hq : eqP l[i] (l[k]'(by omega))
      · rw [up (by omega), rdup_in kr kx l hl hi p42 p43 b0 b3 b2 n (k + 1) (by omega) (by omega)]
        rfl
      · rfl
    · rw [ifb_neg (by omega), List.drop_of_length_le (by simp; omega)]; rfl
theorem rdup_loop {L : Nat} (hL : 2000 ≤ L) (kr : Int → Int → List (List V) → List (List V) → Int → Option β) (kx : Int → List (List V) → List (List V) → Int → Option β) (l : List Inp) (hl : l.length ≤ 1000) (b0 b3 : Int) (b2 : List (List V)) : ∀ (n i : Nat), i ≤ l.length → l.length - i < n →
    lbbbbbbaba_ref09_Check F_ref09_Fits F_ref09_Null F_ref09_Coinbase L kx kr n (l.length : Int) (i : Int) b0 (l.map irow) b2 b3 = ifb (dupFrom (l.take i) (l.drop i)) (kr 91 b0 (l.map irow) b2 b3) (kx b0 (l.map irow) b2 b3)
  | 0, i, h1, h2 => by omega
  | n + 1, i, h1, h2 => by
    simp only [lbbbbbbaba_ref09_Check, Cbbbbbbbaba_ref09_Check, bbbbbbbaba_ref09_Check, lt_eq]
    by_cases h : i < l.length
    · rw [ifb_pos (by omega), show ((0 : Int)) = ((0 : Nat) : Int) from rfl, rdup_in _ _ l (by omega) h _ _ _ _ _ L 0 (by omega) (by omega), drop_dup h, List.drop_zero]
      simp only [rbbbbbbabaabbaabbaret_ref09_Check, rbbbbbbabaabbaabbax4_ref09_Check, lt_eq]
      rw [up (by omega), rdup_loop hL kr kx l hl b0 b3 b2 n (i + 1) (by omega) (by omega)]
      cases (l.take i).any (eqP l[i]) <;> rfl
    · rw [ifb_neg (by omega), List.drop_of_length_le (by omega)]; rfl
theorem rnull_loop {L : Nat} (kr : Int → Int → List (List V) → List (List V) → Int → Option β) (kx : Int → List (List V) → List (List V) → Int → Option β) (t : TxT) (hl : t.ins.length ≤ 1000000) : ∀ (n i : Nat), i ≤ t.ins.length → t.ins.length - i < n →
    lbbbbbbbaba_ref09_Check F_ref09_Fits F_ref09_Null F_ref09_Coinbase L kr kx n (t.ins.map irow) (t.ins.length : Int) (i : Int) t.ver (t.ins.map irow) (t.outs.map orow) t.lock = ifb ((t.ins.drop i).any eqN && !(cbB t)) (kr 92 t.ver (t.ins.map irow) (t.outs.map orow) t.lock) (kx t.ver (t.ins.map irow) (t.outs.map orow) t.lock) := by
  intro n
  induction n with
  | zero => intro i h1 h2; omega
  | succ n ih =>
    intro i h1 h2
    simp only [lbbbbbbbaba_ref09_Check, bbbbbbbbaba_ref09_Check, lt_eq]
    by_cases h : i < t.ins.length
    · rw [ifb_pos (by omega), idx_nat (ins_get h)]
      simp only [irow_take, irow_len, chk_T]
      simp only [↓irow_c0, irow_t0, irow_c1, irow_t1, irow_c2, irow_t2, irow_c3, irow_t3, irow_c4, irow_t4, irow_c5, irow_t5, irow_c6, irow_t6, irow_c7, irow_t7, irow_c8, irow_t8, irow_c9, irow_t9, irow_c10, irow_t10, irow_c11, irow_t11, irow_c12, irow_t12, irow_c13, irow_t13, irow_c14, irow_t14, irow_c15, irow_t15, irow_c16, irow_t16, irow_c17, irow_t17, irow_c18, irow_t18, irow_c19, irow_t19, irow_c20, irow_t20, irow_c21, irow_t21, irow_c22, irow_t22, irow_c23, irow_t23, irow_c24, irow_t24, irow_c25, irow_t25, irow_c26, irow_t26, irow_c27, irow_t27, irow_c28, irow_t28, irow_c29, irow_t29, irow_c30, irow_t30, irow_c31, irow_t31, irow_c32, irow_t32, irow_c33, irow_t33, irow_c34, irow_t34, prow_lit, trow_lit]
      rw [refNull, refCoinbase, drop_any h, up (by omega), ih (i + 1) (by omega) (by omega)]
      cases eqN t.ins[i] <;> cases cbB t <;> cases (t.ins.drop (i + 1)).any eqN <;> rfl
    · rw [ifb_neg (by omega), List.drop_of_length_le (by omega)]; rfl
/-- the first structural error -/
def checkB (t : TxT) : Int := if fitsB t = true then (if t.ins.length = 0 then 93 else if t.outs.length = 0 then 93 else if sumV t.outs ≤ 2100000000000000 then (if dupFrom [] t.ins = true then 91 else if (t.ins.any eqN && !(cbB t)) = true then 92 else 0) else 90) else 4
theorem fits_val {t : TxT} (h : fitsB t = true) : ∀ o ∈ t.outs, 0 ≤ o.val := by
  simp only [fitsB, Bool.and_eq_true, List.all_eq_true, okO, decide_eq_true_eq] at h
  exact fun o ho => (h.1.1.2 o ho).1
theorem txCheck {L : Nat} (hL : 2000 ≤ L) {t : TxT} (hp : KeptP t) (k : Int → Option β) : F_tx_Check β L (trow t) k = k (checkB t) := by
  have hi := hp.ni
  have ho := hp.no
  simp only [F_tx_Check, R_tx_Check, e_tx_Check, trow_len, chk_T]
  simp only [↓trow_c0, trow_c1, trow_c2, trow_c3, trow_lit, List.length_map]
  rw [tx_fitsB hL hp]
  cases hf : fitsB t with
  | false => simp only [checkB, hf]; rfl
  | true =>
    rw [ifb_nt]
    by_cases h1 : t.ins.length = 0
    · rw [ifb_beq_pos (by omega)]; simp [checkB, hf, h1]
    · rw [ifb_beq_neg (by omega)]
      by_cases h2 : t.outs.length = 0
      · rw [ifb_beq_pos (by omega)]; simp [checkB, hf, h2]
      · rw [ifb_beq_neg (by omega), txMoney hL (by omega) (fits_val hf)]
        by_cases h3 : sumV t.outs ≤ 2100000000000000
        · rw [show decide (sumV t.outs ≤ 2100000000000000) = true by simp [h3], ifb_nt]
          rw [show ((0 : Int)) = ((0 : Nat) : Int) from rfl]
          have := tdup_loop (β := β) (L := L) (fun p2 b1_0 b1_1 b1_2 b1_3 b23 => rbbbbbabaret_tx_Check F_tx_fits F_tx_money F_tx_Coinbase L p2 b1_0 b1_1 b1_2 b1_3 b23 k) (fun b1_0 b1_1 b1_2 b1_3 b23 => rbbbbbabax0_tx_Check F_tx_fits F_tx_money F_tx_Coinbase L b1_0 b1_1 b1_2 b1_3 b23 k) t.ins (by omega) t.ver t.lock (t.ins.map irow) (t.outs.map orow) (k 91) (fun m => rfl) L 0 (by omega) (by omega)
          refine Eq.trans this ?_
          simp only [List.take_zero, List.drop_zero]
          cases h4 : dupFrom [] t.ins
          · rw [ifb_false]
            simp only [rbbbbbabax0_tx_Check, trow_lit]
            have e : (List.replicate 32 (V.sc (.int .u8 (0 : Int))) ++ [(V.sc (.int .u32 (4294967295 : Int)))]) = nullrow := by unfold nullrow; rfl
            rw [e, mAt_null, txCoinbase]
            simp only [checkB, hf, h1, h2, h3, h4, if_true, if_false, Bool.false_eq_true]
            cases t.ins.any eqN <;> cases cbB t <;> rfl
          · rw [ifb_true]; simp [checkB, hf, h1, h2, h3, h4]
        · rw [show decide (sumV t.outs ≤ 2100000000000000) = false by simp [h3], ifb_nf]
          simp [checkB, hf, h1, h2, h3]
theorem refCheck {L : Nat} (hL : 2000 ≤ L) {t : TxT} (hp : KeptP t) (k : Int → Option β) : F_ref09_Check β L (trow t) k = k (checkB t) := by
  have hi := hp.ni
  have ho := hp.no
  simp only [F_ref09_Check, R_ref09_Check, e_ref09_Check, trow_len, chk_T]
  simp only [↓trow_c0, trow_c1, trow_c2, trow_c3, trow_lit, List.length_map]
  rw [ref_fitsB hL hp]
  cases hf : fitsB t with
  | false => simp only [checkB, hf]; rfl
  | true =>
    rw [ifb_nt]
    by_cases h1 : t.ins.length = 0
    · rw [ifb_beq_pos (by omega)]; simp [checkB, hf, h1]
    · rw [ifb_beq_neg (by omega)]
      by_cases h2 : t.outs.length = 0
      · rw [ifb_beq_pos (by omega)]; simp [checkB, hf, h2]
      · rw [ifb_beq_neg (by omega)]
        have hv := fits_val hf
        have := rmoney_loop (β := β) (L := L) (fun p2 b1_0 b1_1 b1_2 b1_3 => rbbbbabaret_ref09_Check F_ref09_Fits F_ref09_Null F_ref09_Coinbase L p2 b1_0 b1_1 b1_2 b1_3 k) (fun p3 b1_0 b1_1 b1_2 b1_3 => Crbbbbabax0_ref09_Check F_ref09_Fits F_ref09_Null F_ref09_Coinbase L p3 b1_0 b1_1 b1_2 b1_3 k) t.outs (by omega) hv t.ver t.lock (t.ins.map irow) (t.outs.map orow) L 0 0 (by omega) (by omega) (by omega) (by omega)
        refine Eq.trans this ?_
        simp only [List.drop_zero, Int.zero_add]
        cases h5 : t.outs.any bigO
        · rw [ifb_false]
          simp only [Crbbbbabax0_ref09_Check, rbbbbabax0_ref09_Check, List.length_map]
          by_cases h3 : sumV t.outs ≤ 2100000000000000
          · rw [ifb_neg (by omega), show ((0 : Int)) = ((0 : Nat) : Int) from rfl, rdup_loop hL _ _ _ (by omega) _ _ _ L 0 (by omega) (by omega)]
            simp only [List.take_zero, List.drop_zero]
            cases h4 : dupFrom [] t.ins
            · rw [ifb_false]
              simp only [Crbbbbbbabax2_ref09_Check, rbbbbbbabax2_ref09_Check, List.length_map]
              rw [show ((0 : Int)) = ((0 : Nat) : Int) from rfl, rnull_loop _ _ t (by omega) L 0 (by omega) (by omega), List.drop_zero]
              simp only [rbbbbbbbabaret_ref09_Check, rbbbbbbbabax6_ref09_Check, checkB, hf, h1, h2, h3, h4, if_true, if_false, Bool.false_eq_true]
              cases t.ins.any eqN <;> cases cbB t <;> rfl
            · rw [ifb_true]
              simp only [rbbbbbbabaret_ref09_Check, checkB, hf, h1, h2, h3, h4, if_true, if_false]
          · rw [ifb_pos (by omega)]
            simp [checkB, hf, h1, h2, h3]
        · have h3 := big_sum hv h5
          have h3' : ¬ sumV t.outs ≤ 2100000000000000 := by omega
          rw [ifb_true]
          simp only [rbbbbabaret_ref09_Check, checkB, hf, h1, h2, h3', if_true, if_false]
theorem txChecks_plain (a0 : List V) (a1 : Int) (wf0 : HasRow ([.int .u32] ++ [.sl (List.replicate 32 (.int .u8) ++ List.replicate 2 (.int .u32) ++ [.sl ([.sl ([.int .u8])])])] ++ [.sl ([.int .i64] ++ [.sl ([.int .u8])])] ++ [.int .u32]) a0) (wf1 : (Lit.int .i64 a1).wf = true) : ∃ L, ∀ k : Bool → Option Bool, F_law09_TxChecks Bool L a0 a1 k = k true := by
  obtain ⟨t, rfl, ht⟩ := tx_of wf0
  obtain ⟨L, hL⟩ : ∃ L : Nat, 2000 ≤ L := ⟨2000, Nat.le_refl _⟩
  refine ⟨L, fun k => ?_⟩
  simp only [F_law09_TxChecks, R_law09_TxChecks, trow_len, chk_T]
  simp only [↓trow_c0, trow_c1, trow_c2, trow_c3, trow_lit]
  rw [sane_at (by omega)]
  simp only [Bool.not_true, ifb_false]
  rw [keepTx hL]
  cases hk : kept t with
  | false => rfl
  | true =>
    have hp := kept_p hk
    have hi := hp.ni
    rw [ifb_nt, txCheck hL hp, refCheck hL hp, ifb_beq_pos rfl, txFinal hL ht (by omega), refFinal hL ht (by omega)]
    simp
end Go.Proofs.Ytoeobffjdbdpgaa
