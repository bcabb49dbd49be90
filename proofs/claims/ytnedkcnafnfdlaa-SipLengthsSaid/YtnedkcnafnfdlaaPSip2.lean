/- sip: the rounds and the sums. -/
import Derived.Test.YtnedkcnafnfdlaaPSip
namespace Go.Proofs.Ytnedkcnafnfdlaa
set_option linter.unusedVariables false
set_option linter.unusedSimpArgs false
set_option maxRecDepth 100000
variable {β : Type}
structure S4 where
  a : Int
  b : Int
  c : Int
  d : Int
def S4.row (s : S4) : List V := [.sc (.int .u64 s.a), .sc (.int .u64 s.b), .sc (.int .u64 s.c), .sc (.int .u64 s.d)]
def rotl (x n : Int) : Int := ior .u64 (ishl .u64 x (iand .u64 (IntKind.wrap .u64 n) 63)) (ishr .u64 x (IntKind.wrap .u64 (64 - iand .u64 (IntKind.wrap .u64 n) 63)))
theorem rot13 (L : Nat) (x : Int) (k : Int → Option β) : F_math_bits_RotateLeft64 β L x 13 k = k (rotl x 13) := by kernel_rfl
theorem rot32 (L : Nat) (x : Int) (k : Int → Option β) : F_math_bits_RotateLeft64 β L x 32 k = k (rotl x 32) := by kernel_rfl
theorem rot16 (L : Nat) (x : Int) (k : Int → Option β) : F_math_bits_RotateLeft64 β L x 16 k = k (rotl x 16) := by kernel_rfl
theorem rot21 (L : Nat) (x : Int) (k : Int → Option β) : F_math_bits_RotateLeft64 β L x 21 k = k (rotl x 21) := by kernel_rfl
theorem rot17 (L : Nat) (x : Int) (k : Int → Option β) : F_math_bits_RotateLeft64 β L x 17 k = k (rotl x 17) := by kernel_rfl
def r1 (s : S4) : S4 := ⟨IntKind.wrap .u64 (s.a + s.b), s.b, s.c, s.d⟩
def r2 (s : S4) : S4 := ⟨s.a, ixor .u64 (rotl s.b 13) s.a, s.c, s.d⟩
def r3 (s : S4) : S4 := ⟨rotl s.a 32, s.b, s.c, s.d⟩
def r4 (s : S4) : S4 := ⟨s.a, s.b, IntKind.wrap .u64 (s.c + s.d), s.d⟩
def r5 (s : S4) : S4 := ⟨s.a, s.b, s.c, ixor .u64 (rotl s.d 16) s.c⟩
def r6 (s : S4) : S4 := ⟨IntKind.wrap .u64 (s.a + s.d), s.b, s.c, s.d⟩
def r7 (s : S4) : S4 := ⟨s.a, s.b, s.c, ixor .u64 (rotl s.d 21) s.a⟩
def r8 (s : S4) : S4 := ⟨s.a, s.b, IntKind.wrap .u64 (s.c + s.b), s.d⟩
def r9 (s : S4) : S4 := ⟨s.a, ixor .u64 (rotl s.b 17) s.c, s.c, s.d⟩
def r10 (s : S4) : S4 := ⟨s.a, s.b, rotl s.c 32, s.d⟩
def rnd (s : S4) : S4 := r10 (r9 (r8 (r7 (r6 (r5 (r4 (r3 (r2 (r1 s)))))))))
theorem c0 (s : S4) (k : Int → Option β) : cI .u64 s.row 0 k = k s.a := by cases s; rfl
theorem c1 (s : S4) (k : Int → Option β) : cI .u64 s.row 1 k = k s.b := by cases s; rfl
theorem c2 (s : S4) (k : Int → Option β) : cI .u64 s.row 2 k = k s.c := by cases s; rfl
theorem c3 (s : S4) (k : Int → Option β) : cI .u64 s.row 3 k = k s.d := by cases s; rfl
theorem set0 (s : S4) (x : Int) : setAt s.row 0 [.sc (.int .u64 x)] = S4.row ⟨x, s.b, s.c, s.d⟩ := by cases s; rfl
theorem set1 (s : S4) (x : Int) : setAt s.row 1 [.sc (.int .u64 x)] = S4.row ⟨s.a, x, s.c, s.d⟩ := by cases s; rfl
theorem set2 (s : S4) (x : Int) : setAt s.row 2 [.sc (.int .u64 x)] = S4.row ⟨s.a, s.b, x, s.d⟩ := by cases s; rfl
theorem set3 (s : S4) (x : Int) : setAt s.row 3 [.sc (.int .u64 x)] = S4.row ⟨s.a, s.b, s.c, x⟩ := by cases s; rfl
theorem setall (s t : S4) : setAt s.row 0 t.row = t.row := by cases s; cases t; rfl
theorem setz (z0 z1 z2 z3 : Int) (t : S4) : setAt [V.sc (.int .u64 z0), V.sc (.int .u64 z1), V.sc (.int .u64 z2), V.sc (.int .u64 z3)] 0 t.row = t.row := by cases t; rfl
theorem len4 (s : S4) : s.row.length = 4 := by cases s; rfl
theorem take4 (s : S4) : s.row.take 4 = s.row := by cases s; rfl
theorem ref_round (L : Nat) (s : S4) (k : List V → Option β) : F_ref04_round β L s.row k = k (rnd s).row := by
  simp only [F_ref04_round, R_ref04_round, lt_eq, c0, c1, c2, c3, set0, set1, set2, set3, rot13, rot32, rot16, rot21, rot17, len4, take4, setz]
  repeat rw [chk_true (by decide)]
  rfl
theorem sip_round (L : Nat) (p5 p6 : Int) (s : S4) (z0 z1 z2 z3 : Int) (kh : Int → Int → List V → Int → Int → Int → Int → Option β) (kx : List V → Int → Int → Int → Int → Option β) (h : p6 < p5) : bbaba_sip_rounds F_math_bits_RotateLeft64 L p5 p6 s.row z0 z1 z2 z3 kh kx = kh p5 (IntKind.wrap .i64 (p6 + 1)) (rnd s).row z0 z1 z2 z3 := by
  simp only [bbaba_sip_rounds, lt_eq, c0, c1, c2, c3, set0, set1, set2, set3, rot13, rot32, rot16, rot21, rot17, len4, chk_T, true_and, and_true, and_self, Nat.reduceAdd, Nat.reduceMul, Nat.reduceLeDiff, Nat.le_refl, Nat.zero_add]
  rw [ifb_pos h]
  simp only [rnd, r1, r2, r3, r4, r5, r6, r7, r8, r9, r10]
def rnds : Nat → S4 → S4
  | 0, s => s
  | n + 1, s => rnds n (rnd s)
theorem sip_rounds_loop (L : Nat) (kx : List V → Int → Int → Int → Int → Option β) (z0 z1 z2 z3 : Int) (m : Nat) (hm : m ≤ 1000) : ∀ (n i : Nat) (s : S4), i ≤ m → m - i < n → lbaba_sip_rounds F_math_bits_RotateLeft64 L kx n (m : Int) (i : Int) s.row z0 z1 z2 z3 = kx (rnds (m - i) s).row z0 z1 z2 z3
  | 0, i, s, hi, hn => by omega
  | n + 1, i, s, hi, hn => by
    simp only [lbaba_sip_rounds]
    by_cases h : i < m
    · rw [sip_round _ _ _ _ _ _ _ _ _ _ (by omega)]
      rw [show IntKind.wrap .i64 ((i : Int) + 1) = ((i + 1 : Nat) : Int) by rw [wrap_i64 (by omega) (by omega)]; omega]
      rw [sip_rounds_loop L kx z0 z1 z2 z3 m hm n (i + 1) _ (by omega) (by omega), show m - i = (m - (i + 1)) + 1 by omega]
      rfl
    · simp only [bbaba_sip_rounds]
      rw [ifb_neg (by omega), show m - i = 0 by omega]
      rfl
theorem sip_rounds (L : Nat) (s : S4) (m : Nat) (hm : m ≤ 1000) (hL : m < L) (k : List V → Option β) : F_sip_rounds β L s.row (m : Int) k = k (rnds m s).row := by
  simp only [F_sip_rounds, R_sip_rounds, e_sip_rounds]
  rw [show (0 : Int) = ((0 : Nat) : Int) from rfl, sip_rounds_loop L _ _ _ _ _ m hm L 0 s (by omega) (by omega)]
  simp only [rbabax0_sip_rounds, lt_eq, len4, take4, Nat.sub_zero, setz, chk_T, true_and, and_true, and_self, Nat.reduceAdd, Nat.reduceMul, Nat.reduceLeDiff, Nat.le_refl, Nat.zero_add]
def absorb (s : S4) (m : Int) : S4 := ⟨ixor .u64 (rnd (rnd ⟨s.a, s.b, s.c, ixor .u64 s.d m⟩)).a m, (rnd (rnd ⟨s.a, s.b, s.c, ixor .u64 s.d m⟩)).b, (rnd (rnd ⟨s.a, s.b, s.c, ixor .u64 s.d m⟩)).c, (rnd (rnd ⟨s.a, s.b, s.c, ixor .u64 s.d m⟩)).d⟩
theorem sip_absorb (L : Nat) (hL : 2 < L) (s : S4) (m : Int) (k : List V → Option β) : F_sip_absorb β L s.row m k = k (absorb s m).row := by
  simp only [F_sip_absorb, R_sip_absorb, lt_eq, c3, set3, len4, take4, chk_T, true_and, and_true, and_self, Nat.reduceAdd, Nat.reduceMul, Nat.reduceLeDiff, Nat.le_refl, Nat.zero_add]
  rw [show (2 : Int) = ((2 : Nat) : Int) from rfl, sip_rounds L _ 2 (by omega) hL]
  simp only [len4, setall, c0, set0, take4, setz, rnds, absorb, chk_T, true_and, and_true, and_self, Nat.reduceAdd, Nat.reduceMul, Nat.reduceLeDiff, Nat.le_refl, Nat.zero_add]
theorem ref_absorb (L : Nat) (s : S4) (m : Int) (k : List V → Option β) : F_ref04_absorb β L s.row m k = k (absorb s m).row := by
  simp only [F_ref04_absorb, R_ref04_absorb, lt_eq, c3, set3, len4, take4, ref_round, setall, c0, set0, setz, absorb, chk_T, true_and, and_true, and_self, Nat.reduceAdd, Nat.reduceMul, Nat.reduceLeDiff, Nat.le_refl, Nat.zero_add]
/-- groups of 8 bytes -/
def groups : Nat → S4 → List Int → S4
  | 0, s, _ => s
  | n + 1, s, l => groups n (absorb s (wfold 0 0 (l.take 8))) (l.drop 8)
def lastA (s : S4) (n : Int) (l : List Int) : S4 := absorb s (ior .u64 (wfold 0 0 l) (ishl .u64 (IntKind.wrap .u64 (Int.tmod n 256)) 56))
def lastB (s : S4) : S4 := rnds 4 ⟨s.a, s.b, ixor .u64 s.c 255, s.d⟩
def lastC (s : S4) : Int := ixor .u64 (ixor .u64 (ixor .u64 s.a s.b) s.c) s.d
def last (s : S4) (n : Int) (l : List Int) : Int := lastC (lastB (lastA s n l))
def start (x y : Int) : S4 := ⟨ixor .u64 x 8317987319222330741, ixor .u64 y 7237128888997146477, ixor .u64 x 7816392313619706465, ixor .u64 y 8387220255154660723⟩
def sumOf (x y : Int) (l : List Int) : Int := last (groups (l.length / 8) (start x y) l) l.length (l.drop (l.length / 8 * 8))
theorem sip_sum_loop (L : Nat) (hL : 10 < L) (l : List Int) (hl : l.length ≤ 1000000) (kx : List (List V) → Int → List V → List V → Option β) (p6 : Int) (b2 : List V) : ∀ (n i : Nat) (s : S4), i ≤ l.length / 8 → l.length / 8 - i < n → lbbbaba_sip_Sum F_sip_word F_sip_absorb F_sip_rounds L kx n (ints .u8 l) p6 ((l.length / 8 : Nat) : Int) (i : Int) b2 s.row = kx (ints .u8 l) p6 b2 (groups (l.length / 8 - i) s (l.drop (8 * i))).row
  | 0, i, s, hi, hn => by omega
  | n + 1, i, s, hi, hn => by
    simp only [lbbbaba_sip_Sum, bbbbaba_sip_Sum, lt_eq, len4, take4, ints_len]
    by_cases h : i < l.length / 8
    · have e1 : IntKind.wrap .i64 (8 * (i : Int)) = ((8 * i : Nat) : Int) := by rw [wrap_i64 (by omega) (by omega)]; omega
      have e2 : IntKind.wrap .i64 (((8 * i : Nat) : Int) + 8) = ((8 * i + 8 : Nat) : Int) := by rw [wrap_i64 (by omega) (by omega)]; omega
      have e3 : IntKind.wrap .i64 ((i : Int) + 1) = ((i + 1 : Nat) : Int) := by rw [wrap_i64 (by omega) (by omega)]; omega
      rw [ifb_pos (by omega), e1, e2, e3, chk_true (by decide), chk_true (by omega), chk_true (by simp; omega)]
      simp only [Int.toNat_natCast, ints_drop, ints_take]
      rw [sip_word _ _ (by simp; omega) (by simp; omega), sip_absorb _ (by omega)]
      simp only [len4, setall]
      rw [chk_true (by decide), sip_sum_loop L hL l hl kx p6 b2 n (i + 1) _ (by omega) (by omega), show l.length / 8 - i = (l.length / 8 - (i + 1)) + 1 by omega, groups, List.drop_drop]
      rw [show 8 * i + 8 - 8 * i = 8 by omega, show 8 * (i + 1) = 8 * i + 8 by omega]
    · rw [ifb_neg (by omega), show l.length / 8 - i = 0 by omega]
      rfl
theorem sip_sum (L : Nat) (x y : Int) (l : List Int) (hl : l.length ≤ 1000000) (hL : l.length + 10 < L) (k : Int → Option β) : F_sip_Sum β L (row .u64 [x, y]) (ints .u8 l) k = k (sumOf x y l) := by
  simp only [F_sip_Sum, R_sip_Sum, e_sip_Sum, lt_eq, ints_len]
  rw [cI_some (n := x) (by rfl), cI_some (n := y) (by rfl), cI_some (n := x) (by rfl), cI_some (n := y) (by rfl)]
  have e1 : IntKind.wrap .i64 (Int.tdiv (l.length : Int) 8) = ((l.length / 8 : Nat) : Int) := by
    rw [Int.tdiv_eq_ediv_of_nonneg (by omega), wrap_i64 (by omega) (by omega)]; omega
  rw [e1, show (0 : Int) = ((0 : Nat) : Int) from rfl]
  have := sip_sum_loop (β := β) L (by omega) l hl (fun p1 p6 b2 b5 => rbbbabax0_sip_Sum F_sip_word F_sip_absorb F_sip_rounds L p1 p6 b2 b5 k) ((l.length / 8 : Nat) : Int) (row .u64 [x, y]) L 0 (start x y) (by omega) (by omega)
  refine (show _ = _ from this).trans ?_
  have e2 : IntKind.wrap .i64 (8 * ((l.length / 8 : Nat) : Int)) = ((l.length / 8 * 8 : Nat) : Int) := by rw [wrap_i64 (by omega) (by omega)]; omega
  simp only [rbbbabax0_sip_Sum, lt_eq, len4, take4, ints_len, Nat.sub_zero, Nat.mul_zero, List.drop_zero]
  rw [chk_true (by decide), e2, chk_true (by omega)]
  simp only [Int.toNat_natCast, ints_drop, ints_take]
  rw [List.take_of_length_le (by simp), sip_word _ _ (by simp; omega) (by simp; omega), sip_absorb _ (by omega)]
  simp only [len4, setall, c2, set2, take4, chk_T, true_and, and_true, and_self, Nat.reduceAdd, Nat.reduceMul, Nat.reduceLeDiff, Nat.le_refl, Nat.zero_add]
  rw [show (4 : Int) = ((4 : Nat) : Int) from rfl, sip_rounds _ _ 4 (by omega) (by omega)]
  simp only [len4, setall, c0, c1, c2, c3, sumOf, last, lastA, lastB, lastC, chk_T, true_and, and_true, and_self, Nat.reduceAdd, Nat.reduceMul, Nat.reduceLeDiff, Nat.le_refl, Nat.zero_add]
theorem groups_app (n : Nat) : ∀ (s : S4) (l : List Int), groups (n + 1) s l = groups n (absorb s (wfold 0 0 (l.take 8))) (l.drop 8) := fun _ _ => rfl
theorem ref_sum_loop (L : Nat) (hL : 10 < L) (kx : List (List V) → Int → List V → List V → Option β) (p6 : Int) (b2 : List V) : ∀ (n : Nat) (l : List Int) (s : S4), l.length ≤ 1000000 → l.length / 8 < n → lbbbaa_ref04_Sum F_ref04_word F_ref04_absorb F_ref04_round L kx n (ints .u8 l) p6 b2 s.row = kx (ints .u8 (l.drop (l.length / 8 * 8))) p6 b2 (groups (l.length / 8) s l).row
  | 0, l, s, hl, hn => by omega
  | n + 1, l, s, hl, hn => by
    simp only [lbbbaa_ref04_Sum, bbbbaa_ref04_Sum, lt_eq, len4, take4, ints_len]
    by_cases h : 8 ≤ l.length
    · rw [ifb_pos (by omega), chk_true (by decide), chk_true (by omega)]
      simp only [ints_drop, ints_take, List.drop_zero]
      rw [ref_word _ _ (by simp; omega) (by simp; omega), ref_absorb, chk_true (by omega)]
      simp only [len4, setall]
      rw [chk_true (by decide), List.take_of_length_le (by simp), ref_sum_loop L hL kx p6 b2 n _ _ (by simp; omega) (by simp; omega)]
      have e : (l.drop 8).length / 8 = l.length / 8 - 1 := by simp; omega
      rw [e, List.drop_drop, show 8 + (l.length / 8 - 1) * 8 = l.length / 8 * 8 by omega]
      obtain ⟨q, hq⟩ : ∃ q, l.length / 8 = q + 1 := ⟨l.length / 8 - 1, by omega⟩
      rw [hq, groups_app]
      rfl
    · have e : l.length / 8 = 0 := by omega
      rw [ifb_neg (by omega), e]
      rfl
theorem ref_sum (L : Nat) (x y : Int) (l : List Int) (hl : l.length ≤ 1000000) (hL : l.length + 10 < L) (k : Int → Option β) : F_ref04_Sum β L (row .u64 [x, y]) (ints .u8 l) k = k (sumOf x y l) := by
  simp only [F_ref04_Sum, R_ref04_Sum, e_ref04_Sum, lt_eq, ints_len]
  rw [cI_some (n := x) (by rfl), cI_some (n := y) (by rfl), cI_some (n := x) (by rfl), cI_some (n := y) (by rfl)]
  have := ref_sum_loop (β := β) L (by omega) (fun p1 p6 b2 b5 => rbbbaax0_ref04_Sum F_ref04_word F_ref04_absorb F_ref04_round L p1 p6 b2 b5 k) (l.length : Int) (row .u64 [x, y]) L l (start x y) hl (by omega)
  refine (show _ = _ from this).trans ?_
  simp only [rbbbaax0_ref04_Sum, lt_eq, len4, take4]
  rw [chk_true (by decide), ref_word _ _ (by simp; omega) (by simp; omega)]
  simp only [ref_absorb, len4, setall, c2, set2, take4, ref_round, c0, c1, c3, sumOf, last, lastA, lastB, lastC, rnds, chk_T, true_and, and_true, and_self, Nat.reduceAdd, Nat.reduceMul, Nat.reduceLeDiff, Nat.le_refl, Nat.zero_add]
theorem sipSums_plain (a0 : List V) (a1 : List (List V)) (wf0 : HasRow (List.replicate 2 (.int .u64)) a0) (hl1 : a1.length ≤ maxLen) (wf1 : ∀ e ∈ a1, HasRow [.int .u8] e) : ∃ L, ∀ k : Bool → Option Bool, F_law04_SipSums Bool L a0 a1 k = k true := by
  obtain ⟨w, rfl, hw, _⟩ := row_of wf0
  obtain ⟨l, rfl, _⟩ := ints_of wf1
  match w, hw with
  | [x, y], _ =>
  refine ⟨l.length + 20 + 40, fun k => ?_⟩
  simp only [F_law04_SipSums, R_law04_SipSums, sane_holds, ints_len, row_len]
  show ifb (decide ((l.length : Int) > 3000)) _ _ = _
  by_cases h : (l.length : Int) > 3000
  · rw [ifb_pos h]
  · rw [ifb_neg h, chk_true (by simp), show List.take 2 (row IntKind.u64 [x, y]) = row .u64 [x, y] from rfl, sip_sum _ _ _ _ (by omega) (by omega), chk_true (by simp), ref_sum _ _ _ _ (by omega) (by omega)]
    simp
end Go.Proofs.Ytnedkcnafnfdlaa
