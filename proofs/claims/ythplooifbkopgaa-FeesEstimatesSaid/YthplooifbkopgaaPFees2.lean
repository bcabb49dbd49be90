/- fees: the samples that a deck makes. -/
import Derived.Test.YthplooifbkopgaaPFees
namespace Go.Proofs.Ythplooifbkopgaa
set_option linter.unusedVariables false
set_option linter.unusedSimpArgs false
set_option maxRecDepth 100000
/-! class and find end -/
theorem rclass_ex (L : Nat) (hL : 100 ≤ L) (rate : Int) : ∃ c : Int, ∀ (β : Type) (k : Int → Option β), F_ref33_Class β L rate k = k c := by
  have loop : ∀ (m c : Nat) (x : Int), c ≤ 24 → 24 - c < m → ∃ r : Int, ∀ (β : Type) (kx : Int → Option β), lbbaba_ref33_Class F_ref33_Bound L kx m rate x (c : Int) = kx r := by
    intro m
    induction m with
    | zero => intro c x h1 h2; omega
    | succ m ih =>
      intro c x h1 h2
      by_cases h : c < 24
      · obtain ⟨b, hb⟩ := bound_ex L hL c (by omega) (by omega)
        have w : IntKind.wrap .i64 ((c : Int) + 1) = ((c + 1 : Nat) : Int) := by rw [wrap_i64 (by omega) (by omega)]; omega
        obtain ⟨r1, q1⟩ := ih (c + 1) c (by omega) (by omega)
        obtain ⟨r2, q2⟩ := ih (c + 1) x (by omega) (by omega)
        refine ⟨if b ≤ rate then r1 else r2, fun β kx => ?_⟩
        simp only [lbbaba_ref33_Class, bbbaba_ref33_Class, lt_eq, (hb β _).2, w]
        rw [ifb_pos (by omega), ifb_dec]
        by_cases g : b ≤ rate
        · rw [if_pos g, if_pos g]; exact q1 β kx
        · rw [if_neg g, if_neg g]; exact q2 β kx
      · refine ⟨x, fun β kx => ?_⟩
        simp only [lbbaba_ref33_Class, bbbaba_ref33_Class]
        rw [ifb_neg (by omega)]
  obtain ⟨r, q⟩ := loop L 0 (-1) (by omega) (by omega)
  refine ⟨r, fun β k => ?_⟩
  simp only [F_ref33_Class, R_ref33_Class, e_ref33_Class]
  exact q β _
theorem find_ex (L : Nat) (l : List Smp) (hl : l.length ≤ 1000000) (hL : l.length < L) (id : List Int) (hid : id.length = 32) : ∃ c : Int, ∀ (β : Type) (k : Int → Option β), F_ref33_find β L (smps l) (row .u8 id) k = k c := by
  have t32 : List.take 32 (row .u8 id) = row .u8 id := List.take_of_length_le (by rw [row_len, hid]; omega)
  have loop : ∀ (m i : Nat), i ≤ l.length → l.length - i < m → ∃ r : Int, ∀ (β : Type) (k : Int → Option β), lbaba_ref33_find L (fun p4 b3 => rbabaret_ref33_find L p4 b3 k) (fun b3 => rbabax0_ref33_find L b3 k) m (smps l) (i : Int) (row .u8 id) = k r := by
    intro m
    induction m with
    | zero => intro i h1 h2; omega
    | succ m ih =>
      intro i h1 h2
      by_cases h : i < l.length
      · have w : IntKind.wrap .i64 ((i : Int) + 1) = ((i + 1 : Nat) : Int) := by rw [wrap_i64 (by omega) (by omega)]; omega
        obtain ⟨r1, q1⟩ := ih (i + 1) (by omega) (by omega)
        refine ⟨if l[i].id = id then i else r1, fun β k => ?_⟩
        simp only [lbaba_ref33_find, bbaba_ref33_find, lt_eq, smps_len, w]
        rw [ifb_pos (by omega), idx_nat (smps_get h), chk_true (by rw [row_len, hid]; omega), l[i].take32, t32, eqC_row .u8 l[i].hid hid, ifb_dec]
        by_cases g : l[i].id = id
        · rw [if_pos g, if_pos g]; rfl
        · rw [if_neg g, if_neg g]; exact q1 β k
      · refine ⟨-1, fun β k => ?_⟩
        simp only [lbaba_ref33_find, bbaba_ref33_find, smps_len]
        rw [ifb_neg (by omega)]
        rfl
  obtain ⟨r, q⟩ := loop L 0 (by omega) (by omega)
  refine ⟨r, fun β k => ?_⟩
  simp only [F_ref33_find, R_ref33_find, e_ref33_find]
  exact q β k
theorem observe_ex (L : Nat) (hL : 10000 ≤ L) (l : List Smp) (hl : l.length ≤ 5000) (id : List Int) (hid : id.length = 32) (rate h : Int) : ∃ (l' : List Smp) (e : Int), l'.length ≤ l.length + 1 ∧ ∀ (β : Type) (k : List (List V) → Int → Option β), F_ref33_Observe β L (smps l) (row .u8 id) rate h k = k (smps l') e := by
  obtain ⟨c, hc⟩ := rclass_ex L (by omega) rate
  obtain ⟨f, hf⟩ := find_ex L l (by omega) (by omega) id hid
  have t32 : List.take 32 (row .u8 id) = row .u8 id := List.take_of_length_le (by rw [row_len, hid]; omega)
  have hrow : row IntKind.u8 id ++ [V.sc (Value.int IntKind.i64 c), V.sc (Value.int IntKind.i64 h), V.sc (Value.int IntKind.i64 0)] = Smp.row ⟨id, c, h, 0, hid⟩ := rfl
  simp only [F_ref33_Observe, R_ref33_Observe, hc, in_ok, t32, hf, ifb_dec, ifb_decT, lt_eq, row_len, hid, smps_len]
  have bad : ∀ e : Int, ∃ (l' : List Smp) (e' : Int), l'.length ≤ l.length + 1 ∧ ∀ (β : Type) (k : List (List V) → Int → Option β), k [] e = k (smps l') e' := fun e => ⟨[], e, by simp, fun β k => rfl⟩
  by_cases h1 : c < 0
  · simp only [h1, if_true]; exact bad 5
  by_cases h2n : ¬ (1 ≤ h ∧ h ≤ 16777216)
  · simp only [h1, h2n, if_true, if_false]; exact bad 5
  have h2 : 1 ≤ h ∧ h ≤ 16777216 := Decidable.not_not.1 h2n
  clear h2n
  by_cases h3 : f ≥ 0
  · simp only [h1, h2, h3, if_true, if_false, chk_T, true_and, and_true, and_self, Nat.reduceAdd, Nat.reduceMul, Nat.reduceLeDiff, Nat.le_refl, Nat.zero_add]; exact bad 150
  by_cases h4 : (l.length : Int) ≥ 2048
  · simp only [h1, h2, h3, h4, if_true, if_false, chk_T, true_and, and_true, and_self, Nat.reduceAdd, Nat.reduceMul, Nat.reduceLeDiff, Nat.le_refl, Nat.zero_add]; exact bad 380
  refine ⟨l ++ [⟨id, c, h, 0, hid⟩], 0, by simp, fun β k => ?_⟩
  have z1 : ∀ z : List V, z.length = 35 → setAt z 0 (row .u8 id) = row .u8 id ++ z.drop 32 := by
    intro z hz; simp [setAt, row_len, hid]
  have s1 : ∀ (a b d e : V), setAt (row .u8 id ++ [a, b, d]) 32 [e] = row .u8 id ++ [e, b, d] := by
    intro a b d e; simp [setAt, List.take_append, List.drop_append, row_len, hid, List.drop_of_length_le, List.take_of_length_le]
  have s2 : ∀ (a b d e : V), setAt (row .u8 id ++ [a, b, d]) 33 [e] = row .u8 id ++ [a, e, d] := by
    intro a b d e; simp [setAt, List.take_append, List.drop_append, row_len, hid, List.drop_of_length_le, List.take_of_length_le]
  simp only [h1, h2, h3, h4, if_true, if_false, chk_T, true_and, and_true, and_self, Nat.reduceAdd, Nat.reduceMul, Nat.reduceLeDiff, Nat.le_refl, Nat.zero_add]
  rw [z1 _ (by simp)]
  simp only [show List.drop 32 (List.replicate 32 (V.sc (Value.int IntKind.u8 0)) ++ [V.sc (Value.int IntKind.i64 0), V.sc (Value.int IntKind.i64 0), V.sc (Value.int IntKind.i64 0)]) = [V.sc (Value.int IntKind.i64 0), V.sc (Value.int IntKind.i64 0), V.sc (Value.int IntKind.i64 0)] from rfl, s1, s2, hrow]
  have ec : ∀ z : List V, z.length = 35 → chunks 35 1 (setAt z 0 (Smp.row ⟨id, c, h, 0, hid⟩)) = [Smp.row ⟨id, c, h, 0, hid⟩] := by
    intro z hz
    rw [smp_set hz]
    simp [chunks, Smp.take]
  rw [ec _ (by simp)]
  rw [chk_true (by simp [sizeCap]; omega), chk_true (by simp [row_len, hid]), chk_true (by simp [row_len, hid]), chk_true (by simp [Smp.len]), chk_true (by simp [sizeCap, smps_len]; omega)]
  simp [smps]
end Go.Proofs.Ythplooifbkopgaa
