/- tx: both encodings. -/
import Derived.Test.YtoeobffjdbdpgaaPTx1
namespace Go.Proofs.Ytoeobffjdbdpgaa
set_option linter.unusedVariables false
set_option linter.unusedSimpArgs false
set_option maxRecDepth 100000
variable {β : Type}
theorem cap_ok {a b : Nat} (h : a + b ≤ 1000000000000) : (a + b) * 1 ≤ sizeCap ∧ a + b ≤ sizeCap := by
  unfold sizeCap; omega
/-- the lowest bytes of a number -/
def lows (n : Int) (w : Nat) : List Int := (List.range w).map fun (i : Nat) => IntKind.wrap .u8 (ishr .u64 n (8 * (i : Int)))
theorem lows_len (n : Int) (w : Nat) : (lows n w).length = w := by simp [lows]
def u32B (n : Int) : List Int := lows (IntKind.wrap .u64 n) 4
def u64B (n : Int) : List Int := lows n 8
theorem u32B_len (n : Int) : (u32B n).length = 4 := lows_len _ _
theorem u64B_len (n : Int) : (u64B n).length = 8 := lows_len _ _
/-- a size -/
def szB (n : Int) : List Int := if n < 253 then [IntKind.wrap .u8 n] else if n < 65536 then 253 :: lows n 2 else if n < 4294967296 then 254 :: lows n 4 else 255 :: lows n 8
theorem szB_len (n : Int) : (szB n).length ≤ 9 := by
  unfold szB; repeat' split
  all_goals simp [lows_len]
def bsB (s : List Int) : List Int := szB (s.length : Int) ++ s
def prow (x : Inp) : List V := [V.sc (.int .u8 (x.pv.getD 0 0)), V.sc (.int .u8 (x.pv.getD 1 0)), V.sc (.int .u8 (x.pv.getD 2 0)), V.sc (.int .u8 (x.pv.getD 3 0)), V.sc (.int .u8 (x.pv.getD 4 0)), V.sc (.int .u8 (x.pv.getD 5 0)), V.sc (.int .u8 (x.pv.getD 6 0)), V.sc (.int .u8 (x.pv.getD 7 0)), V.sc (.int .u8 (x.pv.getD 8 0)), V.sc (.int .u8 (x.pv.getD 9 0)), V.sc (.int .u8 (x.pv.getD 10 0)), V.sc (.int .u8 (x.pv.getD 11 0)), V.sc (.int .u8 (x.pv.getD 12 0)), V.sc (.int .u8 (x.pv.getD 13 0)), V.sc (.int .u8 (x.pv.getD 14 0)), V.sc (.int .u8 (x.pv.getD 15 0)), V.sc (.int .u8 (x.pv.getD 16 0)), V.sc (.int .u8 (x.pv.getD 17 0)), V.sc (.int .u8 (x.pv.getD 18 0)), V.sc (.int .u8 (x.pv.getD 19 0)), V.sc (.int .u8 (x.pv.getD 20 0)), V.sc (.int .u8 (x.pv.getD 21 0)), V.sc (.int .u8 (x.pv.getD 22 0)), V.sc (.int .u8 (x.pv.getD 23 0)), V.sc (.int .u8 (x.pv.getD 24 0)), V.sc (.int .u8 (x.pv.getD 25 0)), V.sc (.int .u8 (x.pv.getD 26 0)), V.sc (.int .u8 (x.pv.getD 27 0)), V.sc (.int .u8 (x.pv.getD 28 0)), V.sc (.int .u8 (x.pv.getD 29 0)), V.sc (.int .u8 (x.pv.getD 30 0)), V.sc (.int .u8 (x.pv.getD 31 0)), V.sc (.int .u32 (x.pv.getD 32 0))]
theorem prow_lit (x : Inp) : [V.sc (.int .u8 (x.pv.getD 0 0)), V.sc (.int .u8 (x.pv.getD 1 0)), V.sc (.int .u8 (x.pv.getD 2 0)), V.sc (.int .u8 (x.pv.getD 3 0)), V.sc (.int .u8 (x.pv.getD 4 0)), V.sc (.int .u8 (x.pv.getD 5 0)), V.sc (.int .u8 (x.pv.getD 6 0)), V.sc (.int .u8 (x.pv.getD 7 0)), V.sc (.int .u8 (x.pv.getD 8 0)), V.sc (.int .u8 (x.pv.getD 9 0)), V.sc (.int .u8 (x.pv.getD 10 0)), V.sc (.int .u8 (x.pv.getD 11 0)), V.sc (.int .u8 (x.pv.getD 12 0)), V.sc (.int .u8 (x.pv.getD 13 0)), V.sc (.int .u8 (x.pv.getD 14 0)), V.sc (.int .u8 (x.pv.getD 15 0)), V.sc (.int .u8 (x.pv.getD 16 0)), V.sc (.int .u8 (x.pv.getD 17 0)), V.sc (.int .u8 (x.pv.getD 18 0)), V.sc (.int .u8 (x.pv.getD 19 0)), V.sc (.int .u8 (x.pv.getD 20 0)), V.sc (.int .u8 (x.pv.getD 21 0)), V.sc (.int .u8 (x.pv.getD 22 0)), V.sc (.int .u8 (x.pv.getD 23 0)), V.sc (.int .u8 (x.pv.getD 24 0)), V.sc (.int .u8 (x.pv.getD 25 0)), V.sc (.int .u8 (x.pv.getD 26 0)), V.sc (.int .u8 (x.pv.getD 27 0)), V.sc (.int .u8 (x.pv.getD 28 0)), V.sc (.int .u8 (x.pv.getD 29 0)), V.sc (.int .u8 (x.pv.getD 30 0)), V.sc (.int .u8 (x.pv.getD 31 0)), V.sc (.int .u32 (x.pv.getD 32 0))] = prow x := Eq.trans rfl rfl
def hashB (x : Inp) : List Int := [x.pv.getD 0 0, x.pv.getD 1 0, x.pv.getD 2 0, x.pv.getD 3 0, x.pv.getD 4 0, x.pv.getD 5 0, x.pv.getD 6 0, x.pv.getD 7 0, x.pv.getD 8 0, x.pv.getD 9 0, x.pv.getD 10 0, x.pv.getD 11 0, x.pv.getD 12 0, x.pv.getD 13 0, x.pv.getD 14 0, x.pv.getD 15 0, x.pv.getD 16 0, x.pv.getD 17 0, x.pv.getD 18 0, x.pv.getD 19 0, x.pv.getD 20 0, x.pv.getD 21 0, x.pv.getD 22 0, x.pv.getD 23 0, x.pv.getD 24 0, x.pv.getD 25 0, x.pv.getD 26 0, x.pv.getD 27 0, x.pv.getD 28 0, x.pv.getD 29 0, x.pv.getD 30 0, x.pv.getD 31 0]
def ptB (x : Inp) : List Int := hashB x ++ u32B (x.pv.getD 32 0)
theorem prow_len (x : Inp) : (prow x).length = 33 := by simp [prow]
theorem prow_take (x : Inp) : (List.take 32 (prow x)).length = 32 := by simp [prow]
theorem prow_chunks (x : Inp) : chunks 1 32 (List.take 32 (prow x)) = ints .u8 (hashB x) := by rfl
theorem prow_c (x : Inp) (k : Int → Option β) : cI .u32 (prow x) 32 k = k (x.pv.getD 32 0) := cI_some rfl k
theorem hashB_len (x : Inp) : (hashB x).length = 32 := by simp [hashB]
theorem ptB_len (x : Inp) : (ptB x).length = 36 := by simp [ptB, hashB_len, u32B_len]
theorem ints_nil (k : IntKind) : ([] : List (List V)) = ints k [] := rfl
theorem ishr_zero (k : IntKind) (n : Int) : ishr k n 0 = n := by
  simp [ishr, Int.fdiv_one]
theorem lows_one (n : Int) : lows n 1 = [IntKind.wrap .u8 n] := by
  simp [lows, List.range_succ, ishr_zero]
/-! the program's codec -/
theorem ext_ok {L : Nat} {b s : List Int} (h : b.length + s.length ≤ 1000000000000) (k : List (List V) → Option β) : F_codec_extend β L (ints .u8 b) (ints .u8 s) k = k (ints .u8 (b ++ s)) := by
  simp only [F_codec_extend, R_codec_extend, lt_eq, ints_len, List.replicate_zero, List.length_nil, List.nil_append]
  rw [wrap_i64 (by omega) (by omega), chk_true (by unfold sizeCap; omega), chk_true (by unfold sizeCap; omega), chk_true (cap_ok h), ints_app]
theorem low2 (L : Nat) (n : Int) (k : List (List V) → Option β) : F_codec_lowest β (L + 20) n 2 k = k (ints .u8 (lows n 2)) := by kernel_rfl
theorem low4 (L : Nat) (n : Int) (k : List (List V) → Option β) : F_codec_lowest β (L + 20) n 4 k = k (ints .u8 (lows n 4)) := by kernel_rfl
theorem low8 (L : Nat) (n : Int) (k : List (List V) → Option β) : F_codec_lowest β (L + 20) n 8 k = k (ints .u8 (lows n 8)) := by kernel_rfl
theorem low_at {L : Nat} (hL : 20 ≤ L) (n : Int) (k : List (List V) → Option β) : F_codec_lowest β L n 2 k = k (ints .u8 (lows n 2)) ∧ F_codec_lowest β L n 4 k = k (ints .u8 (lows n 4)) ∧ F_codec_lowest β L n 8 k = k (ints .u8 (lows n 8)) := by
  obtain ⟨m, rfl⟩ : ∃ m, L = m + 20 := ⟨L - 20, by omega⟩
  exact ⟨low2 m n k, low4 m n k, low8 m n k⟩
theorem app16 {L : Nat} (hL : 20 ≤ L) {b : List Int} (h : b.length ≤ 900000000000) (n : Int) (k : List (List V) → Option β) : F_codec_AppendU16 β L (ints .u8 b) n k = k (ints .u8 (b ++ lows (IntKind.wrap .u64 n) 2)) := by
  simp only [F_codec_AppendU16, R_codec_AppendU16, lt_eq]
  rw [(low_at hL _ _).1, ext_ok (by rw [lows_len]; omega)]
theorem app32 {L : Nat} (hL : 20 ≤ L) {b : List Int} (h : b.length ≤ 900000000000) (n : Int) (k : List (List V) → Option β) : F_codec_AppendU32 β L (ints .u8 b) n k = k (ints .u8 (b ++ u32B n)) := by
  simp only [F_codec_AppendU32, R_codec_AppendU32, lt_eq]
  rw [(low_at hL _ _).2.1, ext_ok (by rw [lows_len]; omega)]; rfl
theorem app64 {L : Nat} (hL : 20 ≤ L) {b : List Int} (h : b.length ≤ 900000000000) (n : Int) (k : List (List V) → Option β) : F_codec_AppendU64 β L (ints .u8 b) n k = k (ints .u8 (b ++ u64B n)) := by
  simp only [F_codec_AppendU64, R_codec_AppendU64, lt_eq]
  rw [(low_at hL _ _).2.2, ext_ok (by rw [lows_len]; omega)]; rfl
theorem one_int (n : Int) : chunks 1 1 [V.sc (.int .u8 n)] = ints .u8 [n] := rfl
theorem appSize {L : Nat} (hL : 20 ≤ L) {b : List Int} (h : b.length ≤ 800000000000) {n : Int} (h0 : 0 ≤ n) (k : List (List V) → Option β) : F_codec_AppendSize β L (ints .u8 b) n k = k (ints .u8 (b ++ szB n)) := by
  simp only [F_codec_AppendSize, R_codec_AppendSize, lt_eq, one_int, ifb_dec]
  unfold szB
  split
  · rw [ext_ok (by simp; omega)]
  · split
    · rw [ext_ok (by simp; omega), app16 hL (by simp; omega), wrap_u16 (by omega) (by omega), wrap_u64 (by omega) (by omega)]
      simp
    · split
      · rw [ext_ok (by simp; omega), app32 hL (by simp; omega), u32B, wrap_u32 (by omega) (by omega), wrap_u64 (by omega) (by omega)]
        simp
      · rw [ext_ok (by simp; omega), app64 hL (by simp; omega), u64B]
        simp
theorem appBytes {L : Nat} (hL : 20 ≤ L) {b s : List Int} (h : b.length ≤ 700000000000) (hs : s.length ≤ 10000000) (k : List (List V) → Option β) : F_codec_AppendBytes β L (ints .u8 b) (ints .u8 s) k = k (ints .u8 (b ++ bsB s)) := by
  simp only [F_codec_AppendBytes, R_codec_AppendBytes, lt_eq, ints_len]
  have := szB_len (s.length : Int)
  rw [wrap_u64 (by omega) (by omega), appSize hL (by omega) (by omega), ext_ok (by simp; omega)]
  simp [bsB]
theorem txPoint {L : Nat} (hL : 20 ≤ L) (x : Inp) (k : List (List V) → Option β) : F_tx_Point β L (prow x) k = k (ints .u8 (ptB x)) := by
  simp only [F_tx_Point, R_tx_Point, F_codec_AppendHash, R_codec_AppendHash]
  rw [chk_true (by rw [prow_len]; omega), chk_true (by rw [prow_take]; omega), prow_chunks, ints_nil .u8, ext_ok (by simp [hashB_len]), prow_c, app32 hL (by simp [hashB_len])]
  rfl
/-! the reference's -/
theorem rext_ok {L : Nat} {b s : List Int} (h : b.length + s.length ≤ 1000000000000) (k : List (List V) → Option β) : F_ref01_joined β L (ints .u8 b) (ints .u8 s) k = k (ints .u8 (b ++ s)) := by
  simp only [F_ref01_joined, R_ref01_joined, lt_eq, ints_len, List.replicate_zero, List.length_nil, List.nil_append]
  rw [wrap_i64 (by omega) (by omega), chk_true (by unfold sizeCap; omega), chk_true (by unfold sizeCap; omega), chk_true (cap_ok h), ints_app]
theorem rlow1 (L : Nat) (n : Int) (k : List (List V) → Option β) : F_ref01_little β (L + 20) n 1 k = k (ints .u8 (lows n 1)) := by kernel_rfl
theorem rlow2 (L : Nat) (n : Int) (k : List (List V) → Option β) : F_ref01_little β (L + 20) n 2 k = k (ints .u8 (lows n 2)) := by kernel_rfl
theorem rlow4 (L : Nat) (n : Int) (k : List (List V) → Option β) : F_ref01_little β (L + 20) n 4 k = k (ints .u8 (lows n 4)) := by kernel_rfl
theorem rlow8 (L : Nat) (n : Int) (k : List (List V) → Option β) : F_ref01_little β (L + 20) n 8 k = k (ints .u8 (lows n 8)) := by kernel_rfl
theorem rlow_at {L : Nat} (hL : 20 ≤ L) (n : Int) (k : List (List V) → Option β) : F_ref01_little β L n 1 k = k (ints .u8 (lows n 1)) ∧ F_ref01_little β L n 2 k = k (ints .u8 (lows n 2)) ∧ F_ref01_little β L n 4 k = k (ints .u8 (lows n 4)) ∧ F_ref01_little β L n 8 k = k (ints .u8 (lows n 8)) := by
  obtain ⟨m, rfl⟩ : ∃ m, L = m + 20 := ⟨L - 20, by omega⟩
  exact ⟨rlow1 m n k, rlow2 m n k, rlow4 m n k, rlow8 m n k⟩
theorem rapp32 {L : Nat} (hL : 20 ≤ L) {b : List Int} (h : b.length ≤ 900000000000) (n : Int) (k : List (List V) → Option β) : F_ref01_AppendU32 β L (ints .u8 b) n k = k (ints .u8 (b ++ u32B n)) := by
  simp only [F_ref01_AppendU32, R_ref01_AppendU32, lt_eq]
  rw [(rlow_at hL _ _).2.2.1, rext_ok (by rw [lows_len]; omega)]; rfl
theorem rapp64 {L : Nat} (hL : 20 ≤ L) {b : List Int} (h : b.length ≤ 900000000000) (n : Int) (k : List (List V) → Option β) : F_ref01_AppendU64 β L (ints .u8 b) n k = k (ints .u8 (b ++ u64B n)) := by
  simp only [F_ref01_AppendU64, R_ref01_AppendU64, lt_eq]
  rw [(rlow_at hL _ _).2.2.2, rext_ok (by rw [lows_len]; omega)]; rfl
theorem rappSize {L : Nat} (hL : 20 ≤ L) {b : List Int} (h : b.length ≤ 800000000000) {n : Int} (h0 : 0 ≤ n) (k : List (List V) → Option β) : F_ref01_AppendSize β L (ints .u8 b) n k = k (ints .u8 (b ++ szB n)) := by
  simp only [F_ref01_AppendSize, R_ref01_AppendSize, lt_eq, one_int, ifb_dec]
  unfold szB
  split
  · rw [(rlow_at hL _ _).1, rext_ok (by rw [lows_len]; omega), lows_one]
  · split
    · rw [(rlow_at hL _ _).2.1, rext_ok (by simp [lows_len]), rext_ok (by simp [lows_len]; omega)]
      simp
    · split
      · rw [(rlow_at hL _ _).2.2.1, rext_ok (by simp [lows_len]), rext_ok (by simp [lows_len]; omega)]
        simp
      · rw [(rlow_at hL _ _).2.2.2, rext_ok (by simp [lows_len]), rext_ok (by simp [lows_len]; omega)]
        simp
theorem rappBytes {L : Nat} (hL : 20 ≤ L) {b s : List Int} (h : b.length ≤ 700000000000) (hs : s.length ≤ 10000000) (k : List (List V) → Option β) : F_ref01_AppendBytes β L (ints .u8 b) (ints .u8 s) k = k (ints .u8 (b ++ bsB s)) := by
  simp only [F_ref01_AppendBytes, R_ref01_AppendBytes, lt_eq, ints_len]
  have := szB_len (s.length : Int)
  rw [wrap_u64 (by omega) (by omega), rappSize hL (by omega) (by omega), rext_ok (by simp; omega)]
  simp [bsB]
theorem refPoint {L : Nat} (hL : 20 ≤ L) (x : Inp) (k : List (List V) → Option β) : F_ref09_Point β L (prow x) k = k (ints .u8 (ptB x)) := by
  simp only [F_ref09_Point, R_ref09_Point, F_ref01_AppendHash, R_ref01_AppendHash]
  rw [chk_true (by rw [prow_len]; omega), chk_true (by rw [prow_take]; omega), prow_chunks, ints_nil .u8, rext_ok (by simp [hashB_len]), prow_c, rapp32 hL (by simp [hashB_len])]
  rfl
end Go.Proofs.Ytoeobffjdbdpgaa
