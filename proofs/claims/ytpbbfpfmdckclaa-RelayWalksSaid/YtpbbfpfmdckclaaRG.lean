/- Contracts of the law's own sane and graph. -/
import Derived.Test.YtpbbfpfmdckclaaRF
namespace Go.Proofs.Ytpbbfpfmdckclaa
open Go.RowKit

set_option maxHeartbeats 1000000 in
theorem sane_any (w : World) : Calls Try.prog 10 #[] w fun e w' => e = .returned (.bool true) ∧ Hid (Kept No w w') := by
  have hmk : ∀ w, (Instr.makeSlice 23 (.int .i64 4) (.int .i64 4)).run Try.prog w = .ok (.slice (some ⟨w.heap.size, 0, none⟩) 4 4) (w.alloc (.cells #[.bool false, .bool false, .bool false, .bool false] 4)) := fun _ => by kernel_rfl
  have hb1 : Blk (w.alloc (.cells #[.int .i64 1, .int .i64 2, .int .i64 3, .int .i64 (-1)] 3)) w.heap.size 3 #[.int .i64 1, .int .i64 2, .int .i64 3, .int .i64 (-1)] := Blk.new _ _ _
  have hb2 := hb1.keepN (Kept.alloc No _ (.cells #[.bool false, .bool false, .bool false, .bool false] 4))
  have hb3 := Blk.new' 4 #[Value.bool false, .bool false, .bool false, .bool false] (show (w.alloc (.cells #[.int .i64 1, .int .i64 2, .int .i64 3, .int .i64 (-1)] 3)).heap.size = w.heap.size + 1 by simp)
  have HB2 := Lib.hid hb2
  have HB3 := Lib.hid hb3
  clear hb1 hb2 hb3
  go_enter Try.func10, Try.ntmps10
  go_wp2_with fail
  refine (walk_any _ _ 4 4 [1, 2, 3, -1] [false, false, false, false] 0 _ No (Rd.of_lit (ys := [.int .i64 1, .int .i64 2, .int .i64 3, .int .i64 (-1)]) HB2.out id) (Rd.of_lit (ys := [.bool false, .bool false, .bool false, .bool false]) HB3.out id) (by decide) (fun _ h => no_of h)).mono ?_
  rintro e w1 ⟨A, c, rfl, hR, hK⟩
  have e1 : Way.walk [1, 2, 3, -1] [false, false, false, false] 0 = [0, 1, 2, 3] := by decide +kernel
  rw [e1] at hR ⊢
  have hK0 : Kept No w w1 := ((Kept.alloc No w _).then_ (Kept.alloc No _ _)).then_ hK
  have HK := Lib.hid hK0
  have HR := Lib.hid hR
  clear hK0 hR hK e1 HB2 HB3 hmk
  go_wp2_with fail
  refine (seen_any _ _ _ 4 [0, 1, 2, 3] [false, false, true, false] _ No (HR.out.keepN (Kept.alloc No _ _)) (Rd.of_lit (ys := [.bool false, .bool false, .bool true, .bool false]) (Blk.new _ _ _) id) (by decide)).mono ?_
  rintro e w2 ⟨rfl, m, rfl⟩
  have e2 : seen [0, 1, 2, 3] [false, false, true, false] = (2, 1) := by decide +kernel
  rw [e2]
  clear e2
  go_wp2_with fail
  refine (sameInts_any _ _ _ 4 [0, 1, 2, 3] [0, 1, 2, 3] _ No ?_ ?_ (by decide) (by decide)).mono ?_
  · exact HR.out.keepN (by repeat first | exact Kept.refl _ _ | refine Kept.then_ ?_ (Kept.alloc No _ _) | refine Kept.then_ ?_ (Kept.drewN No _ _))
  · refine Rd.of_lit (ys := [.int .i64 0, .int .i64 1, .int .i64 2, .int .i64 3]) (Blk.new' _ _ (by show (World.alloc _ _).heap.size = _; simp)) id
  rintro e w3 ⟨rfl, m', rfl⟩
  have e3 : decide (([0, 1, 2, 3] : List Int) = [0, 1, 2, 3]) = true := by decide
  rw [e3]
  clear e3
  go_wp2_with fail
  go_ret
  exact ⟨rfl, Lib.hid (by repeat first | exact HK.out | refine Kept.then_ ?_ (Kept.alloc No _ _) | refine Kept.then_ ?_ (Kept.drewN No _ _))⟩
end Go.Proofs.Ytpbbfpfmdckclaa
