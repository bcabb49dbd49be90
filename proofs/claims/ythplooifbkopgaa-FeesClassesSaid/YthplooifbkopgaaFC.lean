/- The walk of FeesClasses. -/
import Derived.Test.YthplooifbkopgaaFB
import Derived.Test.YthplooifbkopgaaMill
namespace Go.Proofs.Ythplooifbkopgaa
open Go.RowKit

set_option maxRecDepth 100000 in
set_option maxHeartbeats 4000000 in
theorem feesClasses_walk (class_ rate_ fee weight : Int) (w : World) (_ : (Lit.int .i64 class_).wf = true) (_ : (Lit.int .i64 rate_).wf = true) (_ : (Lit.int .i64 fee).wf = true) (_ : (Lit.int .i64 weight).wf = true) :
    Calls Try.prog 3 #[.int .i64 class_, .int .i64 rate_, .int .i64 fee, .int .i64 weight] w fun e w' => e = .returned (.bool true) ∧ Hid (Kept No w w') := by
  have hne : ∀ x : Int, (x != x) = false := by simp
  have heq : ∀ x : Int, (x == x) = true := by simp
  have m1 : 0 ≤ weight % 2 ∧ weight % 2 < 2 := ⟨Int.emod_nonneg _ (by omega), Int.emod_lt_of_pos _ (by omega)⟩
  have m2 : 0 ≤ class_ % 26 ∧ class_ % 26 < 26 := ⟨Int.emod_nonneg _ (by omega), Int.emod_lt_of_pos _ (by omega)⟩
  go_enter Try.func3, Try.ntmps3
  go_wp2_with (first
    | (go_at_call 8; refine (sane_any w).mono ?_; rintro e w1 ⟨rfl, hK1⟩)
    | (go_at_call 9; refine (mod_any _ _ _ (by omega) (by omega)).mono ?_; rintro e w' ⟨rfl, rfl⟩))
  have HB := Lib.hid (Blk.new w1 3 #[Value.int .i64 weight, Value.int .i64 (weight % 5000), Value.int .i64 (80000 + weight % 2)])
  have HK := Lib.hid (hK1.out.then_ (Kept.alloc No w1 (.cells #[Value.int .i64 weight, Value.int .i64 (weight % 5000), Value.int .i64 (80000 + weight % 2)] 3)))
  generalize w1.alloc (.cells #[Value.int .i64 weight, Value.int .i64 (weight % 5000), Value.int .i64 (80000 + weight % 2)] 3) = w2 at *
  clear hK1
  go_loop [23] (fun i => ∃ k : Nat, k ≤ 3 ∧ i = .int .i64 k) (fun i => 3 - (intOf i).toNat)
  case atStart => exact ⟨0, by omega, rfl⟩
  case round =>
    obtain ⟨k, hk, rfl⟩ := hrel
    by_cases hlt : k < 3
    · obtain ⟨v, hv⟩ : ∃ v : Int, w2.cell? ⟨w1.heap.size, k, none⟩ = some (.int .i64 v) := by
        have hb := HB.out
        rcases (show k = 0 ∨ k = 1 ∨ k = 2 by omega) with rfl | rfl | rfl
        · exact ⟨_, hb.cell 0⟩
        · exact ⟨_, hb.cell 1⟩
        · exact ⟨_, hb.cell 2⟩
      go_wp2_with (first
        | (go_at_call 9; refine (mod_any _ _ _ (by omega) (by omega)).mono ?_; rintro e w' ⟨rfl, rfl⟩)
        | (go_at_call 10; refine (rate_any _ _ _).mono ?_; rintro e w' ⟨rfl, rfl⟩)
        | (go_at_call 11; refine (rrate_any _ _ _).mono ?_; rintro e w' ⟨rfl, rfl⟩))
      go_round
      case rel => exact ⟨k + 1, by omega, by go_num⟩
      case measure => simp [intOf]; omega
    · clear m1
      go_wp2_with (go_at_call 9; refine (mod_any _ _ _ (by omega) (by omega)).mono ?_; rintro e w' ⟨rfl, rfl⟩)
      have HB2 := Lib.hid (Blk.new w2 3 #[Value.int .i64 class_, Value.int .i64 (class_ % 26 - 1)])
      have HK2 := Lib.hid (HK.out.then_ (Kept.alloc No w2 (.cells #[Value.int .i64 class_, Value.int .i64 (class_ % 26 - 1)] 3)))
      generalize w2.alloc (.cells #[Value.int .i64 class_, Value.int .i64 (class_ % 26 - 1)] 3) = w3 at *
      clear HB HK
      go_loopw [52] (fun i wr => ∃ k : Nat, k ≤ 2 ∧ i = .int .i64 k ∧ Hid (Kept No w3 wr)) (fun i _ => 2 - (intOf i).toNat)
      case atStart => exact ⟨0, by omega, rfl, Lib.hid (Kept.refl _ _)⟩
      case round =>
        obtain ⟨k, hk, rfl, hKr⟩ := hrel
        by_cases hlt : k < 2
        · obtain ⟨v, hv⟩ : ∃ v : Int, wr.cell? ⟨w2.heap.size, k, none⟩ = some (.int .i64 v) := by
            have hb := HB2.out.keepN hKr.out
            rcases (show k = 0 ∨ k = 1 by omega) with rfl | rfl
            · exact ⟨_, hb.cell 0⟩
            · exact ⟨_, hb.cell 1⟩
          have hbb : 0 ≤ bound v ∧ bound v ≤ 200000 := by
            unfold bound
            split
            · rename_i h; have := bd_range v.toNat (by omega); omega
            · omega
          go_wp2_with (first
            | (go_at_call 9; refine (mod_any _ _ _ (by omega) (by omega)).mono ?_; rintro e w' ⟨rfl, rfl⟩)
            | (go_at_call 12; refine (bound_any _ _).mono ?_; rintro e w' ⟨rfl, hk⟩)
            | (go_at_call 13; refine (rbound_any _ _).mono ?_; rintro e w' ⟨rfl, rfl⟩)
            | (go_at_call 14; refine (class_any _ _).mono ?_; rintro e w' ⟨rfl, hk⟩)
            | (go_at_call 15; refine (rclass_any _ _).mono ?_; rintro e w' ⟨rfl, rfl⟩))
          go_roundw
          case rel => exact ⟨k + 1, by omega, by go_num, Lib.hid (by (repeat (with_reducible first | exact Kept.refl _ _ | assumption | exact Hid.out ‹Hid (Kept No _ _)› | refine Kept.then_ ?_ (Kept.drew No _) | refine Kept.then_ ?_ (Kept.drewN No _ _) | refine Kept.then_ ?_ (Kept.alloc No _ _) | refine Kept.then_ ?_ ‹Kept No _ _› | refine Kept.then_ ?_ (Hid.out ‹Hid (Kept No _ _)›))))⟩
          case measure => simp [intOf]; omega
        · go_wp2_with (first
            | (go_at_call 9; refine (mod_any _ _ _ (by omega) (by omega)).mono ?_; rintro e w' ⟨rfl, rfl⟩)
            | (go_at_call 12; refine (bound_any _ _).mono ?_; rintro e w' ⟨rfl, hk⟩)
            | (go_at_call 13; refine (rbound_any _ _).mono ?_; rintro e w' ⟨rfl, rfl⟩)
            | (go_at_call 14; refine (class_any _ _).mono ?_; rintro e w' ⟨rfl, hk⟩)
            | (go_at_call 15; refine (rclass_any _ _).mono ?_; rintro e w' ⟨rfl, rfl⟩))
          go_ret
          exact ⟨rfl, Lib.hid (HK2.out.then_ (hKr.out.then_ (by (repeat (with_reducible first | exact Kept.refl _ _ | assumption | exact Hid.out ‹Hid (Kept No _ _)› | refine Kept.then_ ?_ (Kept.drew No _) | refine Kept.then_ ?_ (Kept.drewN No _ _) | refine Kept.then_ ?_ (Kept.alloc No _ _) | refine Kept.then_ ?_ ‹Kept No _ _› | refine Kept.then_ ?_ (Hid.out ‹Hid (Kept No _ _)›))))))⟩
end Go.Proofs.Ythplooifbkopgaa
