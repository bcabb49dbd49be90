/- Contracts of the reference's Seen and Walk, and of SameInts. -/
import Derived.Test.YtpbbfpfmdckclaaRD
namespace Go.Proofs.Ytpbbfpfmdckclaa
open Go.RowKit

theorem seen_one (p : List Int) (s : List Bool) : seen p s = seenFrom p s 1 (p.length - 1) := by
  unfold seen
  by_cases h : 0 < p.length
  · have := seenFrom_step (p := p) (s := s) (k := 0) h
    simp only [Nat.sub_zero] at this
    rw [this, if_neg (by simp [spyAt])]
  · have : p.length = 0 := by omega
    rw [this]; rfl

set_option maxHeartbeats 1000000 in
theorem rseen_any (A B : Option Addr) (c d : Nat) (p : List Int) (s : List Bool) (w : World) (O : Nat → Prop) (hp : Rd w O 1 A p.length (p.map (Value.int .i64))) (hs : Rd w O 1 B s.length (s.map Value.bool))
    (lp : p.length ≤ 9223372036854775807) :
    Calls Try.prog 16 #[.slice A p.length c, .slice B s.length d] w fun e w' => e = .returned (.tuple #[.int .i64 (seen p s).1, .int .i64 (seen p s).2]) ∧ ∃ m, w' = w.drewN m := by
  have HP := Lib.hid hp; clear hp
  have HS := Lib.hid hs; clear hs
  go_enter Try.func16, Try.ntmps16
  go_wp2
  go_loop [6] (fun i => ∃ k : Nat, 1 ≤ k ∧ k ≤ p.length + 1 ∧ i = .int .i64 k ∧ Hid (seen p s = seenFrom p s k (p.length - k))) (fun i => p.length + 1 - (intOf i).toNat)
  case atStart => exact ⟨1, by omega, by omega, rfl, seen_one p s⟩
  case round =>
    obtain ⟨k, h0, hk, rfl, hsn⟩ := hrel
    by_cases hlt : k < p.length
    · obtain ⟨ad, rfl, _, hc⟩ := HP.out.elem hlt
      by_cases hv : 0 ≤ p[k] ∧ p[k] < s.length
      · obtain ⟨h1, h2⟩ := hv
        obtain ⟨j, hj⟩ := Int.eq_ofNat_of_zero_le h1
        have hjl : j < s.length := by omega
        obtain ⟨bd, rfl, _, hb⟩ := HS.out.elem hjl
        have hy := Lib.hid (spyAt_of hlt (by omega) hj hjl)
        rw [hj] at hc
        clear h1 h2 hj
        obtain ⟨ad', e, _, hc'⟩ := HP.out.elem (show k - 1 < p.length by omega)
        obtain rfl : ad = ad' := by injection e
        cases hsj : s[j]
        · rw [hsj] at hb hy
          clear hsj
          go_wp2
          go_round
          case rel => exact ⟨k + 1, by omega, by omega, by go_num, seen_on hlt hsn.out hy.out⟩
          case measure => simp [intOf]; omega
        · rw [hsj] at hb hy
          clear hsj
          have e1 : IntKind.i64.wrap ((k : Int) - 1) = (k : Int) - 1 := IntWalk.i64_in _ (by omega)
          have e2 : (0 : Int) ≤ (k : Int) - 1 := by omega
          have e3 : ((k : Int) - 1).toNat = k - 1 := by omega
          have e4 : (k : Int) - 1 < p.length := by omega
          go_wp2
          go_quiet (fail)
          go_wp2
          go_ret2
          refine ⟨ret_pair ?_, _, rfl⟩
          rw [seen_stop hlt hsn.out hy.out]
          simp [List.getElem?_eq_getElem (show k - 1 < p.length by omega)]
      · have hy := Lib.hid (spyAt_no (s := s) hlt (fun h => hv h.2))
        by_cases h1 : 0 ≤ p[k]
        · have h2 : ¬ p[k] < s.length := fun h => hv ⟨h1, h⟩
          clear hv
          go_wp2
          go_round
          case rel => exact ⟨k + 1, by omega, by omega, by go_num, seen_on hlt hsn.out hy.out⟩
          case measure => simp [intOf]; omega
        · clear hv
          go_wp2
          go_round
          case rel => exact ⟨k + 1, by omega, by omega, by go_num, seen_on hlt hsn.out hy.out⟩
          case measure => simp [intOf]; omega
    · go_wp2
      go_ret2
      exact ⟨ret_pair (by rw [seen_end hlt hsn.out]; exact ⟨rfl, rfl⟩), 0, rfl⟩

theorem take_next {a b : List Int} {k : Nat} (ha : k < a.length) (hb : k < b.length) (h : a.take k = b.take k) (he : a[k] = b[k]) : a.take (k + 1) = b.take (k + 1) := by
  rw [List.take_succ_eq_append_getElem ha, List.take_succ_eq_append_getElem hb, h, he]

set_option maxHeartbeats 1000000 in
theorem sameInts_any (A B : Option Addr) (c d : Nat) (a b : List Int) (w : World) (O : Nat → Prop) (ha : Rd w O 1 A a.length (a.map (Value.int .i64))) (hb : Rd w O 1 B b.length (b.map (Value.int .i64)))
    (la : a.length ≤ 9223372036854775807) (_lb : b.length ≤ 9223372036854775807) :
    Calls Try.prog 17 #[.slice A a.length c, .slice B b.length d] w fun e w' => e = .returned (.bool (decide (a = b))) ∧ ∃ m, w' = w.drewN m := by
  have HA := Lib.hid ha; clear ha
  have HB := Lib.hid hb; clear hb
  by_cases hl : a.length = b.length
  · have hl' : ((a.length : Int) != (b.length : Int)) = false := by simp [hl]
    have HL := Lib.hid hl
    clear hl
    go_enter Try.func17, Try.ntmps17
    go_wp2
    go_loopw [5] (fun i wr => ∃ k m : Nat, k ≤ a.length ∧ i = .int .i64 k ∧ wr = w.drewN m ∧ Hid (a.take k = b.take k)) (fun i _ => a.length - (intOf i).toNat)
    case atStart => exact ⟨0, 0, Nat.zero_le _, rfl, rfl, rfl⟩
    case round =>
      obtain ⟨k, m, hk, rfl, rfl, ht⟩ := hrel
      by_cases hlt : k < a.length
      · have hltb : k < b.length := by have := HL.out; omega
        obtain ⟨ad, rfl, _, hca⟩ := HA.out.elem hlt
        obtain ⟨bd, rfl, _, hcb⟩ := HB.out.elem hltb
        have e1 : (0 : Int) ≤ (k : Int) := by omega
        have e2 : (k : Int) < a.length := by omega
        have e3 : (k : Int) < b.length := by omega
        by_cases he : a[k] = b[k]
        · have hn : (a[k] != b[k]) = false := by simp [he]
          have HE := Lib.hid he
          clear he
          go_wp2
          go_quiet (fail)
          go_wp2
          go_roundw
          case rel => exact ⟨k + 1, m + nq, by omega, by go_num, rfl, Lib.hid (take_next hlt hltb ht.out HE.out)⟩
          case measure => simp [intOf]; omega
        · have hn : (a[k] != b[k]) = true := by simp [he]
          have HE := Lib.hid he
          clear he
          go_wp2
          go_quiet (fail)
          go_wp2
          go_ret
          refine ⟨ret_bool (Eq.symm (decide_eq_false (fun h => HE.out (by subst h; rfl)))), m + nq, World.drewN_drewN ..⟩
      · go_wp2
        go_ret
        refine ⟨ret_bool (Eq.symm (decide_eq_true ?_)), m, rfl⟩
        have := ht.out
        rw [List.take_of_length_le (by omega), List.take_of_length_le (by have := HL.out; omega)] at this
        exact this
  · have hl' : ((a.length : Int) != (b.length : Int)) = true := by simp; omega
    have HL := Lib.hid hl
    clear hl
    go_enter Try.func17, Try.ntmps17
    go_wp2
    go_ret
    exact ⟨ret_bool (Eq.symm (decide_eq_false (fun h => HL.out (by rw [h])))), 0, rfl⟩
end Go.Proofs.Ytpbbfpfmdckclaa
