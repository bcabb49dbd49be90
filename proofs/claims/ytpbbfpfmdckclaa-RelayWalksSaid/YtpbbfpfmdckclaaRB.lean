/- Contracts of Seen (program, reference) and SameInts. -/
import Derived.Test.YtpbbfpfmdckclaaRA
namespace Go.Proofs.Ytpbbfpfmdckclaa
open Go.RowKit

/-- is there a spy at place i of the way? -/
def spyAt (p : List Int) (s : List Bool) (i : Nat) : Bool := decide (0 < i) && (decide (0 ≤ p.getD i 0) && (decide (p.getD i 0 < s.length) && s.getD (p.getD i 0).toNat false))
def seenFrom (p : List Int) (s : List Bool) : Nat → Nat → Int × Int
  | _, 0 => (-1, -1)
  | k, n + 1 => if spyAt p s k then ((k : Int), p.getD (k - 1) 0) else seenFrom p s (k + 1) n
/-- the place of the first spy, and who sent to it -/
def seen (p : List Int) (s : List Bool) : Int × Int := seenFrom p s 0 p.length

theorem seenFrom_step {p : List Int} {s : List Bool} {k : Nat} (hk : k < p.length) : seenFrom p s k (p.length - k) = if spyAt p s k then ((k : Int), p.getD (k - 1) 0) else seenFrom p s (k + 1) (p.length - (k + 1)) := by
  have : p.length - k = (p.length - (k + 1)) + 1 := by omega
  rw [this, seenFrom]

theorem spyAt_eq {p : List Int} {s : List Bool} {k : Nat} (hk : k < p.length) : spyAt p s k = (decide (0 < k) && (decide (0 ≤ p[k]) && (decide (p[k] < s.length) && s.getD (p[k]).toNat false))) := by
  simp [spyAt, List.getElem?_eq_getElem hk]
theorem spyAt_of {p : List Int} {s : List Bool} {k j : Nat} (hk : k < p.length) (h0 : 0 < k) (hj : p[k] = (j : Int)) (hl : j < s.length) : spyAt p s k = s[j] := by
  rw [spyAt_eq hk, hj]
  simp [h0, hl]
theorem spyAt_no {p : List Int} {s : List Bool} {k : Nat} (hk : k < p.length) (h : ¬ (0 < k ∧ 0 ≤ p[k] ∧ p[k] < s.length)) : spyAt p s k = false := by
  rw [spyAt_eq hk, Bool.eq_false_iff]
  intro h'
  simp only [Bool.and_eq_true, decide_eq_true_eq] at h'
  exact h ⟨h'.1, h'.2.1, h'.2.2.1⟩
theorem seen_stop {p : List Int} {s : List Bool} {k : Nat} (hk : k < p.length) (h : seen p s = seenFrom p s k (p.length - k)) (hy : spyAt p s k = true) : seen p s = ((k : Int), p.getD (k - 1) 0) := by
  rw [h, seenFrom_step hk, if_pos hy]
theorem seen_on {p : List Int} {s : List Bool} {k : Nat} (hk : k < p.length) (h : seen p s = seenFrom p s k (p.length - k)) (hy : spyAt p s k = false) : seen p s = seenFrom p s (k + 1) (p.length - (k + 1)) := by
  rw [h, seenFrom_step hk, if_neg (by rw [hy]; simp)]
theorem seen_end {p : List Int} {s : List Bool} {k : Nat} (hk : ¬ k < p.length) (h : seen p s = seenFrom p s k (p.length - k)) : seen p s = (-1, -1) := by
  rw [h, show p.length - k = 0 by omega, seenFrom]
theorem ret_pair {a b a' b' : Int} (h : a = a' ∧ b = b') : Ending.returned (.tuple #[.int .i64 a, .int .i64 b]) = .returned (.tuple #[.int .i64 a', .int .i64 b']) := by rw [h.1, h.2]

set_option maxHeartbeats 1000000 in
theorem seen_any (A B : Option Addr) (c d : Nat) (p : List Int) (s : List Bool) (w : World) (O : Nat → Prop) (hp : Rd w O 1 A p.length (p.map (Value.int .i64))) (hs : Rd w O 1 B s.length (s.map Value.bool))
    (lp : p.length ≤ 9223372036854775807) :
    Calls Try.prog 15 #[.slice A p.length c, .slice B s.length d] w fun e w' => e = .returned (.tuple #[.int .i64 (seen p s).1, .int .i64 (seen p s).2]) ∧ ∃ m, w' = w.drewN m := by
  have HP := Lib.hid hp; clear hp
  have HS := Lib.hid hs; clear hs
  go_enter Try.func15, Try.ntmps15
  go_wp2
  go_loop [10] (fun i => ∃ k : Nat, k ≤ p.length ∧ i = .int .i64 k ∧ Hid (seen p s = seenFrom p s k (p.length - k))) (fun i => p.length - (intOf i).toNat)
  case atStart => exact ⟨0, Nat.zero_le _, rfl, rfl⟩
  case round =>
    obtain ⟨k, hk, rfl, hsn⟩ := hrel
    by_cases hlt : k < p.length
    · obtain ⟨ad, rfl, _, hc⟩ := HP.out.elem hlt
      by_cases hv : 0 < k ∧ 0 ≤ p[k] ∧ p[k] < s.length
      · obtain ⟨h0, h1, h2⟩ := hv
        obtain ⟨j, hj⟩ := Int.eq_ofNat_of_zero_le h1
        have hjl : j < s.length := by omega
        obtain ⟨bd, rfl, _, hb⟩ := HS.out.elem hjl
        have hy := Lib.hid (spyAt_of hlt h0 hj hjl)
        rw [hj] at hc
        clear h1 h2 hj
        obtain ⟨ad', e, _, hc'⟩ := HP.out.elem (show k - 1 < p.length by omega)
        obtain rfl : ad = ad' := by injection e
        cases hsj : s[j]
        · rw [hsj] at hb hy
          clear hsj
          go_wp2
          go_round
          case rel => exact ⟨k + 1, by omega, by go_num, seen_on hlt hsn.out hy.out⟩
          case measure => simp [intOf]; omega
        · rw [hsj] at hb hy
          clear hsj
          have e1 : IntKind.i64.wrap ((k : Int) - 1) = (k : Int) - 1 := IntWalk.i64_in _ (by omega)
          have e2 : (0 : Int) ≤ (k : Int) - 1 := by omega
          have e3 : ((k : Int) - 1).toNat = k - 1 := by omega
          have e4 : (k : Int) - 1 < p.length := by omega
          go_wp2
          go_quiet (fail)
          go_wp2
          go_ret2
          refine ⟨ret_pair ?_, _, rfl⟩
          rw [seen_stop hlt hsn.out hy.out]
          simp [List.getElem?_eq_getElem (show k - 1 < p.length by omega)]
      · have hy := Lib.hid (spyAt_no hlt hv)
        by_cases h0 : 0 < k
        · by_cases h1 : 0 ≤ p[k]
          · have h2 : ¬ p[k] < s.length := fun h => hv ⟨h0, h1, h⟩
            clear hv
            go_wp2
            go_round
            case rel => exact ⟨k + 1, by omega, by go_num, seen_on hlt hsn.out hy.out⟩
            case measure => simp [intOf]; omega
          · clear hv
            go_wp2
            go_round
            case rel => exact ⟨k + 1, by omega, by go_num, seen_on hlt hsn.out hy.out⟩
            case measure => simp [intOf]; omega
        · clear hv
          go_wp2
          go_round
          case rel => exact ⟨k + 1, by omega, by go_num, seen_on hlt hsn.out hy.out⟩
          case measure => simp [intOf]; omega
    · go_wp2
      go_ret2
      exact ⟨ret_pair (by rw [seen_end hlt hsn.out]; exact ⟨rfl, rfl⟩), 0, rfl⟩
end Go.Proofs.Ytpbbfpfmdckclaa
