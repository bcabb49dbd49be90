/- The walk of SipMonotone. -/
import Derived.Test.YtnedkcnafnfdlaaSE
namespace Go.Proofs.Ytnedkcnafnfdlaa
open Go.RowKit

theorem hi_le (g h n : Nat) (hle : g ≤ h) : hi64 g n ≤ hi64 h n := Nat.div_le_div_right (Nat.mul_le_mul_right _ hle)
theorem hi_end (h n : Nat) (hh : h < 18446744073709551616) : n = 0 ∧ hi64 h n = 0 ∨ 0 < n ∧ hi64 h n < n := by
  rcases Nat.eq_zero_or_pos n with rfl | hp
  · left; simp [hi64]
  · right
    unfold hi64
    rw [Nat.div_lt_iff_lt_mul (by omega), Nat.mul_comm]
    exact ⟨hp, Nat.mul_lt_mul_of_pos_left hh hp⟩

set_option maxHeartbeats 1000000 in
theorem monotone_any (g h n : Nat) (hg : g < 18446744073709551616) (hh : h < 18446744073709551616) (hn : n < 18446744073709551616) (w : World) :
    Calls Try.prog 5 #[.int .u64 g, .int .u64 h, .int .u64 n] w fun e w' => e = .returned (.bool true) ∧ Hid (Kept No w w') := by
  rcases Nat.le_total g h with hle | hle
  · have e1 : min (g : Int) (h : Int) = (g : Int) := by omega
    have e2 : max (g : Int) (h : Int) = (h : Int) := by omega
    have h1 := hi_le g h n hle
    have h2 := hi_end g n hg
    have h3 := hi_end h n hh
    have s1 := fun w => scale_any g n hg hn w
    have s2 := fun w => scale_any h n hh hn w
    generalize hi64 g n = x at *
    generalize hi64 h n = y at *
    go_enter Try.func5, Try.ntmps5
    go_wp2_with (first
      | (go_at_call 10; (with_reducible refine (s1 _).mono ?_); rintro e w' ⟨rfl, rfl⟩)
      | (go_at_call 10; (with_reducible refine (s2 _).mono ?_); rintro e w' ⟨rfl, rfl⟩)
      | (go_at_call 7; (refine (sane_any _).mono ?_); rintro e w2 ⟨rfl, HK⟩))
    all_goals go_ret
    all_goals refine ⟨?_, HK⟩
    all_goals first
      | rfl
      | (simp; omega)
  · have e1 : min (g : Int) (h : Int) = (h : Int) := by omega
    have e2 : max (g : Int) (h : Int) = (g : Int) := by omega
    have h1 := hi_le h g n hle
    have h2 := hi_end g n hg
    have h3 := hi_end h n hh
    have s1 := fun w => scale_any g n hg hn w
    have s2 := fun w => scale_any h n hh hn w
    generalize hi64 g n = x at *
    generalize hi64 h n = y at *
    go_enter Try.func5, Try.ntmps5
    go_wp2_with (first
      | (go_at_call 10; (with_reducible refine (s1 _).mono ?_); rintro e w' ⟨rfl, rfl⟩)
      | (go_at_call 10; (with_reducible refine (s2 _).mono ?_); rintro e w' ⟨rfl, rfl⟩)
      | (go_at_call 7; (refine (sane_any _).mono ?_); rintro e w2 ⟨rfl, HK⟩))
    all_goals go_ret
    all_goals refine ⟨?_, HK⟩
    all_goals first
      | rfl
      | (simp; omega)

theorem nat64 {x : Int} (h : (Lit.int .u64 x).wf = true) : ∃ n : Nat, x = n ∧ n < 18446744073709551616 := by
  have h' : 0 ≤ x ∧ x ≤ 18446744073709551615 := by simpa [Lit.wf, IntKind.min, IntKind.max, IntKind.signed, IntKind.bits] using h
  exact ⟨x.toNat, by omega, by omega⟩

theorem sipMonotone_walk (g h n : Int) (w : World) (h0 : (Lit.int .u64 g).wf = true) (h1 : (Lit.int .u64 h).wf = true) (h2 : (Lit.int .u64 n).wf = true) :
    Calls Try.prog 5 #[.int .u64 g, .int .u64 h, .int .u64 n] w fun e w' => e = .returned (.bool true) ∧ Hid (Kept No w w') := by
  obtain ⟨g, rfl, hg⟩ := nat64 h0
  obtain ⟨h, rfl, hh⟩ := nat64 h1
  obtain ⟨n, rfl, hn⟩ := nat64 h2
  exact monotone_any g h n hg hh hn w
end Go.Proofs.Ytnedkcnafnfdlaa
