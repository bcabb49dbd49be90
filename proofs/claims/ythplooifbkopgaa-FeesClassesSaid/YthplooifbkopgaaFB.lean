/- Contracts of Bound, Class, Rate (program and reference), in, sane. -/
import Derived.Test.YthplooifbkopgaaFA
namespace Go.Proofs.Ythplooifbkopgaa
open Go.RowKit

def bound (c : Int) : Int := if 0 ≤ c ∧ c < 24 then bd c.toNat else 0
def clsTo (r : Int) : Nat → Int
  | 0 => -1
  | k + 1 => if bd k ≤ r then (k : Int) else clsTo r k
def cls (r : Int) : Int := clsTo r 24
theorem clsTo_range (r : Int) : ∀ k, -1 ≤ clsTo r k ∧ clsTo r k < k
  | 0 => by simp [clsTo]
  | k + 1 => by
    rw [clsTo]
    have := clsTo_range r k
    split <;> omega
def rate (fee weight : Int) : Int := if 0 ≤ fee ∧ fee ≤ 2100000000000000 ∧ 1 ≤ weight ∧ weight ≤ 80000 then (if 1000 * fee / weight ≤ 1048576 then 1000 * fee / weight else 1048576) else 0

theorem idx24 (k : Nat) (hk : k < 24) (w : World) : (Instr.index 56 (.agg (bArr 24)) (.int .i64 (k : Int))).run Try.prog w = .ok (.int .i64 (bd k)) w :=
  run_index_arr Try.underlying56 (by kernel_rfl) (by kernel_rfl) k hk (by rw [bArr_at hk, if_pos hk]) w

set_option maxHeartbeats 1000000 in
theorem bound_any (c : Int) (w : World) : Calls Try.prog 12 #[.int .i64 c] w fun e w' => e = .returned (.int .i64 (bound c)) ∧ Hid (Kept No w w') := by
  by_cases h : 0 ≤ c ∧ c < 24
  · obtain ⟨h1, h2⟩ := h
    obtain ⟨k, rfl⟩ := Int.eq_ofNat_of_zero_le h1
    have hx := idx24 k (by omega)
    have hb : bound (k : Int) = bd k := by unfold bound; rw [if_pos ⟨h1, h2⟩]; simp
    rw [hb]
    generalize bd k = x at *
    clear hb
    go_enter Try.func12, Try.ntmps12
    go_wp2_with (go_at_call 35; refine (bounds_any _).mono ?_; rintro e w1 ⟨rfl, hK⟩)
    go_ret
    exact ⟨rfl, hK⟩
  · have hb : bound c = 0 := by unfold bound; rw [if_neg h]
    rw [hb]
    clear hb
    by_cases h1 : 0 ≤ c
    · have h2 : ¬ c < 24 := fun h2 => h ⟨h1, h2⟩
      clear h
      go_enter Try.func12, Try.ntmps12
      go_wp2_with fail
      go_ret
      exact ⟨rfl, Lib.hid (Kept.refl _ _)⟩
    · clear h
      go_enter Try.func12, Try.ntmps12
      go_wp2_with fail
      go_ret
      exact ⟨rfl, Lib.hid (Kept.refl _ _)⟩

set_option maxHeartbeats 1000000 in
theorem class_any (r : Int) (w : World) : Calls Try.prog 14 #[.int .i64 r] w fun e w' => e = .returned (.int .i64 (cls r)) ∧ Hid (Kept No w w') := by
  go_enter Try.func14, Try.ntmps14
  go_wp2_with (go_at_call 35; refine (bounds_any _).mono ?_; rintro e w1 ⟨rfl, hK⟩)
  go_loop [3, 7] (fun c i => ∃ k : Nat, k ≤ 24 ∧ i = .int .i64 k ∧ c = .int .i64 (clsTo r k)) (fun _ i => 24 - (intOf i).toNat)
  case atStart => exact ⟨0, by omega, rfl, rfl⟩
  case round =>
    obtain ⟨k, hk, rfl, rfl⟩ := hrel
    by_cases hlt : k < 24
    · have hx := idx24 k hlt
      have hc : clsTo r (k + 1) = if bd k ≤ r then (k : Int) else clsTo r k := rfl
      have HC := Lib.hid hc
      clear hc
      generalize bd k = x at *
      generalize clsTo r k = c at *
      by_cases hle : x ≤ r
      · go_wp2_with fail
        go_round
        case rel => exact ⟨k + 1, by omega, by go_num, by rw [HC.out, if_pos hle]⟩
        case measure => simp [intOf]; omega
      · go_wp2_with fail
        go_round
        case rel => exact ⟨k + 1, by omega, by go_num, by rw [HC.out, if_neg (by omega)]⟩
        case measure => simp [intOf]; omega
    · obtain rfl : k = 24 := by omega
      go_wp2_with fail
      go_ret
      exact ⟨rfl, hK⟩

def inB (n lo hi : Int) : Bool := decide (lo ≤ n ∧ n ≤ hi)
set_option maxHeartbeats 400000 in
theorem in_any (n lo hi : Int) (w : World) : Calls Try.prog 34 #[.int .i64 n, .int .i64 lo, .int .i64 hi] w fun e w' => e = .returned (.bool (inB n lo hi)) ∧ w = w' := by
  by_cases h1 : lo ≤ n
  · by_cases h2 : n ≤ hi
    · have hd : inB n lo hi = true := by simp [inB, h1, h2]
      rw [hd]
      clear hd
      go_enter Try.func34, Try.ntmps34
      go_wp2_with fail
      go_ret
      exact ⟨rfl, rfl⟩
    · have hd : inB n lo hi = false := by simp [inB, h2]
      rw [hd]
      clear hd
      go_enter Try.func34, Try.ntmps34
      go_wp2_with fail
      go_ret
      exact ⟨rfl, rfl⟩
  · have hd : inB n lo hi = false := by simp [inB, h1]
    rw [hd]
    clear hd
    go_enter Try.func34, Try.ntmps34
    go_wp2_with fail
    go_ret
    exact ⟨rfl, rfl⟩

set_option maxHeartbeats 1000000 in
theorem rbound_any (c : Int) (w : World) : Calls Try.prog 13 #[.int .i64 c] w fun e w' => e = .returned (.int .i64 (bound c)) ∧ w = w' := by
  by_cases h : 0 ≤ c ∧ c ≤ 23
  · have hd : inB c 0 23 = true := by simpa [inB] using h
    obtain ⟨h1, h2⟩ := h
    obtain ⟨n, rfl⟩ := Int.eq_ofNat_of_zero_le h1
    have hb : bound (n : Int) = bd n := by unfold bound; rw [if_pos ⟨h1, by omega⟩]; simp
    rw [hb]
    clear hb
    go_enter Try.func13, Try.ntmps13
    go_wp2_with (go_at_call 34; refine (in_any _ _ _ _).mono ?_; rintro e w1 ⟨rfl, rfl⟩)
    go_loop [3, 4] (fun x i => ∃ k : Nat, k ≤ n ∧ i = .int .i64 k ∧ x = .int .i64 (bd k)) (fun _ i => n - (intOf i).toNat)
    case atStart => exact ⟨0, by omega, rfl, rfl⟩
    case round =>
      obtain ⟨k, hk, rfl, rfl⟩ := hrel
      by_cases hlt : k < n
      · have hbr := bd_range k (by omega)
        have hc : bd (k + 1) = bd k + bd k / 2 := rfl
        have HC := Lib.hid hc
        clear hc
        generalize bd k = x at *
        obtain ⟨x1, x2⟩ := hbr
        go_wp2_with fail
        go_round
        case rel => exact ⟨k + 1, by omega, by go_num, by rw [HC.out]⟩
        case measure => simp [intOf]; omega
      · obtain rfl : k = n := by omega
        go_wp2_with fail
        go_ret
        exact ⟨rfl, rfl⟩
  · have hd : inB c 0 23 = false := by simpa [inB] using h
    have hb : bound c = 0 := by unfold bound; rw [if_neg (fun h' => h ⟨h'.1, by omega⟩)]
    rw [hb]
    clear hb h
    go_enter Try.func13, Try.ntmps13
    go_wp2_with (go_at_call 34; refine (in_any _ _ _ _).mono ?_; rintro e w1 ⟨rfl, rfl⟩)
    go_ret
    exact ⟨rfl, rfl⟩

set_option maxHeartbeats 1000000 in
theorem rclass_any (r : Int) (w : World) : Calls Try.prog 15 #[.int .i64 r] w fun e w' => e = .returned (.int .i64 (cls r)) ∧ w = w' := by
  go_enter Try.func15, Try.ntmps15
  go_wp2_with fail
  go_loop [3, 4] (fun c i => ∃ k : Nat, k ≤ 24 ∧ i = .int .i64 k ∧ c = .int .i64 (clsTo r k)) (fun _ i => 24 - (intOf i).toNat)
  case atStart => exact ⟨0, by omega, rfl, rfl⟩
  case round =>
    obtain ⟨k, hk, rfl, rfl⟩ := hrel
    by_cases hlt : k < 24
    · have hb : bound (k : Int) = bd k := by unfold bound; rw [if_pos ⟨by omega, by omega⟩]; simp
      have hc : clsTo r (k + 1) = if bd k ≤ r then (k : Int) else clsTo r k := rfl
      have HC := Lib.hid hc
      clear hc
      generalize bd k = x at *
      generalize clsTo r k = c at *
      by_cases hle : x ≤ r
      · go_wp2_with (go_at_call 13; refine (rbound_any _ _).mono ?_; rintro e w1 ⟨rfl, rfl⟩)
        go_round
        case rel => exact ⟨k + 1, by omega, by go_num, by rw [HC.out, if_pos hle]⟩
        case measure => simp [intOf]; omega
      · go_wp2_with (go_at_call 13; refine (rbound_any _ _).mono ?_; rintro e w1 ⟨rfl, rfl⟩)
        go_round
        case rel => exact ⟨k + 1, by omega, by go_num, by rw [HC.out, if_neg (by omega)]⟩
        case measure => simp [intOf]; omega
    · obtain rfl : k = 24 := by omega
      go_wp2_with fail
      go_ret
      exact ⟨rfl, rfl⟩

theorem rate_no {fee weight : Int} (h : ¬ (0 ≤ fee ∧ fee ≤ 2100000000000000 ∧ 1 ≤ weight ∧ weight ≤ 80000)) : rate fee weight = 0 := by unfold rate; rw [if_neg h]
theorem rate_yes {fee weight : Int} (h : 0 ≤ fee ∧ fee ≤ 2100000000000000 ∧ 1 ≤ weight ∧ weight ≤ 80000) : rate fee weight = if 1000 * fee / weight ≤ 1048576 then 1000 * fee / weight else 1048576 := by unfold rate; rw [if_pos h]

set_option maxHeartbeats 1000000 in
theorem rate_any (fee weight : Int) (w : World) : Calls Try.prog 10 #[.int .i64 fee, .int .i64 weight] w fun e w' => e = .returned (.int .i64 (rate fee weight)) ∧ w = w' := by
  by_cases h1 : 0 ≤ fee
  · by_cases h2 : fee ≤ 2100000000000000
    · by_cases h3 : 1 ≤ weight
      · by_cases h4 : weight ≤ 80000
        · have hr := Lib.hid (rate_yes ⟨h1, h2, h3, h4⟩)
          go_enter Try.func10, Try.ntmps10
          go_wp2_with fail
          · go_ret
            have h : (1048576 : Int) < 1000 * fee / weight := by assumption
            exact ⟨ret_int (by rw [hr.out, if_neg (Int.not_le.2 h)]), rfl⟩
          · go_ret
            have h : 1000 * fee / weight ≤ (1048576 : Int) := by assumption
            exact ⟨ret_int (by rw [hr.out, if_pos h]), rfl⟩
        · have hr := Lib.hid (rate_no (fee := fee) (weight := weight) (fun h => h4 h.2.2.2))
          go_enter Try.func10, Try.ntmps10
          go_wp2_with fail
          go_ret
          exact ⟨ret_int hr.out.symm, rfl⟩
      · have hr := Lib.hid (rate_no (fee := fee) (weight := weight) (fun h => h3 h.2.2.1))
        go_enter Try.func10, Try.ntmps10
        go_wp2_with fail
        go_ret
        exact ⟨ret_int hr.out.symm, rfl⟩
    · have hr := Lib.hid (rate_no (fee := fee) (weight := weight) (fun h => h2 h.2.1))
      go_enter Try.func10, Try.ntmps10
      go_wp2_with fail
      go_ret
      exact ⟨ret_int hr.out.symm, rfl⟩
  · have hr := Lib.hid (rate_no (fee := fee) (weight := weight) (fun h => h1 h.1))
    go_enter Try.func10, Try.ntmps10
    go_wp2_with fail
    go_ret
    exact ⟨ret_int hr.out.symm, rfl⟩
set_option maxHeartbeats 1000000 in
theorem rrate_any (fee weight : Int) (w : World) : Calls Try.prog 11 #[.int .i64 fee, .int .i64 weight] w fun e w' => e = .returned (.int .i64 (rate fee weight)) ∧ w = w' := by
  by_cases h1 : 0 ≤ fee
  · by_cases h2 : fee ≤ 2100000000000000
    · by_cases h3 : 1 ≤ weight
      · by_cases h4 : weight ≤ 80000
        · have hd : inB weight 1 80000 = true := by simp [inB, h3, h4]
          have hr := Lib.hid (rate_yes ⟨h1, h2, h3, h4⟩)
          go_enter Try.func11, Try.ntmps11
          go_wp2_with (go_at_call 34; refine (in_any _ _ _ _).mono ?_; rintro e w1 ⟨rfl, rfl⟩)
          · go_ret
            have h : (1048576 : Int) < 1000 * fee / weight := by assumption
            exact ⟨ret_int (by rw [hr.out, if_neg (Int.not_le.2 h)]), rfl⟩
          · go_ret
            have h : 1000 * fee / weight ≤ (1048576 : Int) := by assumption
            exact ⟨ret_int (by rw [hr.out, if_pos h]), rfl⟩
        · have hd : inB weight 1 80000 = false := by simp [inB, h4]
          have hr := Lib.hid (rate_no (fee := fee) (weight := weight) (fun h => h4 h.2.2.2))
          go_enter Try.func11, Try.ntmps11
          go_wp2_with (go_at_call 34; refine (in_any _ _ _ _).mono ?_; rintro e w1 ⟨rfl, rfl⟩)
          go_ret
          exact ⟨ret_int hr.out.symm, rfl⟩
      · have hd : inB weight 1 80000 = false := by simp [inB, h3]
        have hr := Lib.hid (rate_no (fee := fee) (weight := weight) (fun h => h3 h.2.2.1))
        go_enter Try.func11, Try.ntmps11
        go_wp2_with (go_at_call 34; refine (in_any _ _ _ _).mono ?_; rintro e w1 ⟨rfl, rfl⟩)
        go_ret
        exact ⟨ret_int hr.out.symm, rfl⟩
    · have hr := Lib.hid (rate_no (fee := fee) (weight := weight) (fun h => h2 h.2.1))
      go_enter Try.func11, Try.ntmps11
      go_wp2_with (go_at_call 34; refine (in_any _ _ _ _).mono ?_; rintro e w1 ⟨rfl, rfl⟩)
      go_ret
      exact ⟨ret_int hr.out.symm, rfl⟩
  · have hr := Lib.hid (rate_no (fee := fee) (weight := weight) (fun h => h1 h.1))
    go_enter Try.func11, Try.ntmps11
    go_wp2_with (go_at_call 34; refine (in_any _ _ _ _).mono ?_; rintro e w1 ⟨rfl, rfl⟩)
    go_ret
    exact ⟨ret_int hr.out.symm, rfl⟩

set_option maxHeartbeats 1000000 in
theorem sane_any (w : World) : Calls Try.prog 8 #[] w fun e w' => e = .returned (.bool true) ∧ Hid (Kept No w w') := by
  have h0 : bound 0 = 10 := by decide +kernel
  have h1 : bound 3 = 33 := by decide +kernel
  have h2 : cls 21 = 1 := by decide +kernel
  have h3 : cls 9 = -1 := by decide +kernel
  have h4 : rate 5 1000 = 5 := by decide +kernel
  go_enter Try.func8, Try.ntmps8
  go_wp2_with fail
  refine (bound_any _ _).mono ?_
  rintro e w1 ⟨rfl, k1⟩
  rw [h0]
  go_wp2_with fail
  refine (bound_any _ _).mono ?_
  rintro e w2 ⟨rfl, k2⟩
  rw [h1]
  go_wp2_with fail
  refine (class_any _ _).mono ?_
  rintro e w3 ⟨rfl, k3⟩
  rw [h2]
  go_wp2_with fail
  refine (class_any _ _).mono ?_
  rintro e w4 ⟨rfl, k4⟩
  rw [h3]
  go_wp2_with fail
  refine (rate_any _ _ _).mono ?_
  rintro e w5 ⟨rfl, rfl⟩
  rw [h4]
  go_wp2_with fail
  go_ret
  exact ⟨rfl, Lib.hid (((k1.out.then_ k2.out).then_ k3.out).then_ k4.out)⟩
end Go.Proofs.Ythplooifbkopgaa
