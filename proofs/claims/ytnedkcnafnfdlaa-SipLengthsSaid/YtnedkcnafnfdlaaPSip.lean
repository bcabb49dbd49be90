/- sip: what the words, the rounds and the sums are. -/
import Derived.Test.YtnedkcnafnfdlaaP0
import Derived.Test.YtnedkcnafnfdlaaFsip1
namespace Go.Proofs.Ytnedkcnafnfdlaa
set_option linter.unusedVariables false
set_option maxRecDepth 100000
variable {β : Type}
def wfold (m : Int) (i : Nat) : List Int → Int
  | [] => m
  | b :: bs => wfold (ior .u64 m (ishl .u64 (IntKind.wrap .u64 b) (IntKind.wrap .i64 (8 * (i : Int))))) (i + 1) bs
theorem sip_word_loop (L : Nat) (kx : Int → Option β) (l : List Int) (hl : l.length ≤ 1000000) : ∀ (n : Nat) (m : Int) (i : Nat), i ≤ l.length → l.length - i < n → lbbaba_sip_word L kx n m (ints .u8 l) (l.length : Int) (i : Int) = kx (wfold m i (l.drop i))
  | 0, m, i, hi, hn => by omega
  | n + 1, m, i, hi, hn => by
    simp only [lbbaba_sip_word, bbbaba_sip_word, lt_eq]
    by_cases h : i < l.length
    · rw [ifb_pos (by omega), idx_nat (ints_get _ h), cI_some (by rfl), chk_true (by rw [wrap_i64 (by omega) (by omega)]; omega)]
      rw [show IntKind.wrap .i64 ((i : Int) + 1) = ((i + 1 : Nat) : Int) by rw [wrap_i64 (by omega) (by omega)]; omega]
      rw [sip_word_loop L kx l hl n _ (i + 1) (by omega) (by omega), List.drop_eq_getElem_cons h]
      rfl
    · rw [ifb_neg (by omega), List.drop_of_length_le (by omega)]
      rfl
theorem sip_word (L : Nat) (l : List Int) (hl : l.length ≤ 1000000) (hL : l.length < L) (k : Int → Option β) : F_sip_word β L (ints .u8 l) k = k (wfold 0 0 l) := by
  simp only [F_sip_word, R_sip_word, e_sip_word, ints_len]
  exact sip_word_loop L _ l hl L 0 0 (by omega) (by omega)
theorem ref_word_loop (L : Nat) (kx : Int → Option β) (l : List Int) (hl : l.length ≤ 1000000) : ∀ (n : Nat) (m : Int) (i : Nat), i ≤ l.length → l.length - i < n → lbbaba_ref04_word L kx n (ints .u8 l) m (l.length : Int) (i : Int) = kx (wfold m i (l.drop i))
  | 0, m, i, hi, hn => by omega
  | n + 1, m, i, hi, hn => by
    simp only [lbbaba_ref04_word, bbbaba_ref04_word, lt_eq]
    by_cases h : i < l.length
    · rw [ifb_pos (by omega), idx_nat (ints_get _ h), cI_some (by rfl), chk_true (by rw [wrap_i64 (by omega) (by omega)]; omega)]
      rw [show IntKind.wrap .i64 ((i : Int) + 1) = ((i + 1 : Nat) : Int) by rw [wrap_i64 (by omega) (by omega)]; omega]
      rw [ref_word_loop L kx l hl n _ (i + 1) (by omega) (by omega), List.drop_eq_getElem_cons h]
      rfl
    · rw [ifb_neg (by omega), List.drop_of_length_le (by omega)]
      rfl
theorem ref_word (L : Nat) (l : List Int) (hl : l.length ≤ 1000000) (hL : l.length < L) (k : Int → Option β) : F_ref04_word β L (ints .u8 l) k = k (wfold 0 0 l) := by
  simp only [F_ref04_word, R_ref04_word, e_ref04_word, ints_len]
  exact ref_word_loop L _ l hl L 0 0 (by omega) (by omega)
/-! the law SipScales -/
theorem sane_holds (L : Nat) (k : Bool → Option β) : F_law04_sane β (L + 40) k = k true := by kernel_rfl
theorem key_eq (L : Nat) (hL : 8 < L) (l : List Int) (h : l.length = 32) (k : List V → Option β) : F_sip_Key β L (row .u8 l) k = k (row .u64 [wfold 0 0 (l.take 8), wfold 0 0 ((l.drop 8).take 8)]) ∧ F_ref04_Key β L (row .u8 l) k = k (row .u64 [wfold 0 0 (l.take 8), wfold 0 0 ((l.drop 8).take 8)]) := by
  constructor
  · simp only [F_sip_Key, R_sip_Key, lt_eq, row_len, h, row_drop]
    rw [chk_true (by decide), chunks_row _ _ _ (by omega), sip_word _ _ (by simp; omega) (by simp; omega), chk_true (by decide), chunks_row _ _ _ (by simp; omega), sip_word _ _ (by simp; omega) (by simp; omega), chk_true (by simp)]
    rfl
  · simp only [F_ref04_Key, R_ref04_Key, lt_eq, row_len, h, row_drop]
    rw [chk_true (by decide), chunks_row _ _ _ (by omega), ref_word _ _ (by simp; omega) (by simp; omega), chk_true (by decide), chunks_row _ _ _ (by simp; omega), ref_word _ _ (by simp; omega) (by simp; omega), chk_true (by simp)]
    rfl
theorem eqCells_row (k : IntKind) : ∀ (l : List Int), eqCells (row k l) (row k l) = some true
  | [] => rfl
  | x :: l => by
    have := eqCells_row k l
    simp only [row] at this
    simp [row, eqCells, this]
theorem sipScales_plain (a0 a1 : Int) (a2 : List V) (wf0 : (Lit.int .u64 a0).wf = true) (wf1 : (Lit.int .u64 a1).wf = true) (wf2 : HasRow (List.replicate 32 (.int .u8)) a2) : ∃ L, ∀ k : Bool → Option Bool, F_law04_SipScales Bool L a0 a1 a2 k = k true := by
  refine ⟨100, fun k => ?_⟩
  obtain ⟨l, rfl, hl, _⟩ := row_of wf2
  have e : ∀ (k : Int → Option Bool), F_ref04_Scale Bool 100 a0 a1 k = F_sip_Scale Bool 100 a0 a1 k := fun k => rfl
  have e2 : ∃ z, ∀ (k : Int → Option Bool), F_sip_Scale Bool 100 a0 a1 k = k z := ⟨_, fun k => rfl⟩
  obtain ⟨z, e2⟩ := e2
  simp only [F_law04_SipScales, R_law04_SipScales, e, e2]
  rw [show (100 : Nat) = 60 + 40 from rfl, sane_holds]
  simp only [ifb_true, row_len, hl, row_take]
  rw [ifb_beq_pos rfl]
  rw [chk_true (by simp), (key_eq _ (by omega) _ (by simp [hl]) _).1, chk_true (by simp), (key_eq _ (by omega) _ (by simp [hl]) _).2]
  simp only [eqC, row_len, eqCells_row]
  rfl
end Go.Proofs.Ytnedkcnafnfdlaa
