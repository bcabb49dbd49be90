/- Contracts of the classes of fee rates: bounds, Bound, Class, Rate, of the program and of the reference. -/
import Derived.Test.YthplooifbkopgaaRows
import Derived.Test.YthplooifbkopgaaBase
import Derived.Test.YthplooifbkopgaaArr2
import Derived.StillTailTactics
namespace Go.Proofs.Ythplooifbkopgaa
open Go.RowKit

/-- the bound of class i -/
def bd : Nat → Int
  | 0 => 10
  | i + 1 => bd i + bd i / 2
theorem bd_range : ∀ i, i < 24 → 10 ≤ bd i ∧ bd i ≤ 200000 := by decide +kernel
/-- the array of the bounds, when the first k are filled in -/
def bArr (k : Nat) : Array Value := ((List.range 24).map fun i => Value.int .i64 (if i < k then bd i else 0)).toArray
theorem bArr_at {k i : Nat} (h : i < 24) : (bArr k)[i]? = some (.int .i64 (if i < k then bd i else 0)) := by simp [bArr, h]
theorem bArr_size (k : Nat) : (bArr k).size = 24 := by simp [bArr]
theorem bArr_set {k : Nat} (h : k < 24) : (bArr k).setIfInBounds k (.int .i64 (bd k)) = bArr (k + 1) := by
  apply Array.ext_getElem?
  intro j
  by_cases hj : j < 24
  · rw [bArr_at hj, Array.getElem?_setIfInBounds]
    by_cases e : k = j
    · subst e; simp [bArr_size, h]
    · simp only [e, if_false]; rw [bArr_at hj]; simp; by_cases h1 : j < k
      · simp [h1, show j < k + 1 by omega]
      · simp [h1, show ¬ j < k + 1 by omega]
  · rw [Array.getElem?_eq_none (by simp [bArr_size]; omega), Array.getElem?_eq_none (by simp [bArr_size]; omega)]
theorem bArr_cell (k : Nat) : (bArr k).all (·.oneCell') = true := by
  rw [Array.all_eq_true_iff_forall_mem]
  intro v hv
  simp [bArr] at hv
  obtain ⟨i, _, rfl⟩ := hv
  rfl

theorem Try.zero24 : (Try.prog.info? 56).bind (fun i => i.zero.map (fun z => z.cells.size)) = some 24 := by kernel_rfl
theorem Try.size24 : (Try.prog.info? 56).map (·.size) = some 24 := by kernel_rfl
theorem bld24 (w : World) : (Instr.build 56 #[(0, .int .i64 10)]).run Try.prog w = .ok (.agg (bArr 1)) w := by kernel_rfl

set_option maxHeartbeats 2000000 in
theorem bounds_any (w : World) : Calls Try.prog 35 #[] w fun e w' => e = .returned (.agg (bArr 24)) ∧ Hid (Kept No w w') := by
  have tok1 : True := trivial
  go_enter Try.func35, Try.ntmps35
  go_wp2_with (first
    | (have _t := tok1; with_reducible refine wpList_al _ rfl 56 rfl 24 Try.zero24 ?_; intro w1 cs1 hs1 hB1 hK1 hS1; clear tok1 _t)
    | (with_reducible refine wpList_al _ rfl 56 rfl 24 Try.zero24 ?_; intro w2 cs2 hs2 hB2 hK2 hS2)
    | (with_reducible refine wpList_bld _ rfl 56 _ rfl (bArr 1) (bld24 _) ?_)
    | (with_reducible refine wpList_st _ rfl 56 _ _ rfl _ rfl (bArr 1) rfl _ _ hB2 (by rw [bArr_size, hs2]) (by rw [bArr_size]; exact Try.size24) (bArr_cell 1) ?_; intro w3 hB3 hK3 hS3))
  have hs1' := hS1
  have hB1' : Blk w3 w.heap.size 56 cs1 := (hB1.keepN hK2).keep hK3 (fun e => by omega)
  have hB3' : Blk w3 (w.heap.size + 1) 56 (bArr 1) := by rw [← hS1]; exact hB3
  have hK' : Kept (fun b => w.heap.size ≤ b) w w3 := ((hK1.mono (fun _ _ h => no_of h)).then_ hK2).trans hK3 (fun k hk e => by omega)
  have HH := Lib.hid (show Blk w3 (w.heap.size + 1) 56 (bArr 1) ∧ Kept (fun b => w.heap.size ≤ b) w w3 ∧ ∃ cs, cs.size = 24 ∧ Blk w3 w.heap.size 56 cs from ⟨hB3', hK', cs1, hs1, hB1'⟩)
  clear hs1' hB1' hB3' hK' hB1 hB2 hB3 hK1 hK2 hK3 hS1 hS2 hS3 hs1 hs2
  go_loopw [2] (fun i wr => ∃ k : Nat, 1 ≤ k ∧ k ≤ 24 ∧ i = .int .i64 k ∧ Hid (Blk wr (w.heap.size + 1) 56 (bArr k) ∧ Kept (fun b => w.heap.size ≤ b) w wr ∧ ∃ cs, cs.size = 24 ∧ Blk wr w.heap.size 56 cs)) (fun i _ => 24 - (intOf i).toNat)
  case atStart => exact ⟨1, by omega, by omega, rfl, HH⟩
  case round =>
    clear HH
    obtain ⟨k, hk1, hk2, rfl, HH⟩ := hrel
    by_cases hlt : k < 24
    · obtain ⟨j, rfl⟩ : ∃ j, k = j + 1 := ⟨k - 1, by omega⟩
      have hbr := bd_range j (by omega)
      have hc : wr.cell? ⟨w.heap.size + 1, j, none⟩ = some (.int .i64 (bd j)) := by rw [HH.out.1.cell, bArr_at (by omega), if_pos (by omega)]
      have hc2 : wr.cell? ⟨w.heap.size + 1, j + 1, none⟩ = some (.int .i64 0) := by rw [HH.out.1.cell, bArr_at (by omega), if_neg (by omega)]
      have hf := HH.out.1.frozen (j + 1)
      have hbd : bd (j + 1) = bd j + bd j / 2 := rfl
      have HBD := Lib.hid hbd
      clear hbd
      generalize bd j = x at *
      obtain ⟨x1, x2⟩ := hbr
      have e0 : ((j + 1 : Nat) : Int) = (j : Int) + 1 := by omega
      rw [e0]
      have e1 : IntKind.i64.wrap (j : Int) = (j : Int) := IntWalk.i64_in _ (by omega)
      have e2 : (0 : Int) ≤ (j : Int) := by omega
      have e3 : ((j : Int) + 1).toNat = j + 1 := by omega
      have e4 : (j : Int) < 24 := by omega
      have e7 : (0 : Int) ≤ (j : Int) + 1 := by omega
      have e8 : (j : Int) + 1 < 24 := by omega
      have e5 : IntKind.i64.wrap (x.tdiv 2) = x / 2 := IntWalk.i64_quo _ _ (by omega)
      have e6 : IntKind.i64.wrap (x + x / 2) = x + x / 2 := IntWalk.i64_in _ (by omega)
      clear e0
      go_wp2_with fail
      go_still_tail 12, (by kernel_rfl)
      change wpList _ _ _ _ _ wr.drew
      clear e1 e2 e3 e4 e5 e6
      go_wp2_with fail
      go_roundw
      case rel =>
        obtain ⟨h1, h2, cs, h3, h4⟩ := HH.out
        have hk : Kept (fun b => b = w.heap.size + 1) wr (wr.setCell ⟨w.heap.size + 1, j + 1, none⟩ (.int .i64 (x + x / 2))) := Kept.setCell (O := fun b => b = w.heap.size + 1) wr (p := ⟨w.heap.size + 1, j + 1, none⟩) (.inl rfl) _
        refine ⟨j + 2, by omega, by omega, by go_num, Lib.hid ⟨?_, ?_, cs, h3, ?_⟩⟩
        · have := h1.set_ (j + 1) (.int .i64 (x + x / 2))
          rw [← HBD.out, bArr_set (by omega)] at this
          rw [HBD.out] at this
          exact this
        · exact (h2.trans hk (fun k hk e => by omega)).then_ (Kept.drew No _)
        · exact (h4.keep hk (fun e => by omega)).keepN (Kept.drew No _)
      case measure => simp [intOf]; omega
    · obtain ⟨h1, h2, cs, h3, h4⟩ := HH.out
      obtain rfl : k = 24 := by omega
      clear HH
      go_wp2_with (first
        | (with_reducible refine wpList_ld _ rfl 56 _ rfl _ rfl _ (bArr 24) _ h1 Try.underlying56 rfl (by rw [bArr_size]; exact Try.size24) ?_)
        | (with_reducible refine wpList_st _ rfl 56 _ _ rfl _ rfl (bArr 24) rfl _ _ h4 (by rw [bArr_size, h3]) (by rw [bArr_size]; exact Try.size24) (bArr_cell 24) ?_; intro w5 hB5 hK5 hS5))
      exact ret_row rfl rfl w.heap.size 56 (bArr 24) _ rfl hB5 Try.underlying56 rfl (by rw [bArr_size]; exact Try.size24) ⟨rfl, Lib.hid ((h2.trans hK5 (fun k hk e => by omega)).mono (fun k hk e => by omega))⟩
end Go.Proofs.Ythplooifbkopgaa
