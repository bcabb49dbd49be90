/- Contracts of the program's word and absorb. -/
import Derived.Test.YtnedkcnafnfdlaaSA
namespace Go.Proofs.Ytnedkcnafnfdlaa
open Go.RowKit

/-- the number of the first k bytes, the lowest first -/
def wordTo (l : List Int) : Nat → Int
  | 0 => 0
  | k + 1 => bits BinOp.or IntKind.u64 (wordTo l k) (IntKind.u64.wrap (IntKind.u64.wrap (l.getD k 0) * 2 ^ (8 * k)))
def word (l : List Int) : Int := wordTo l l.length

set_option maxHeartbeats 1000000 in
theorem word_any (A : Option Addr) (c : Nat) (l : List Int) (w : World) (O : Nat → Prop) (h : Rd w O 1 A l.length (l.map (Value.int .u8))) (hl : l.length ≤ 8) :
    Calls Try.prog 15 #[.slice A l.length c] w fun e w' => e = .returned (.int .u64 (word l)) ∧ w = w' := by
  have H := Lib.hid h
  clear h
  go_enter Try.func15, Try.ntmps15
  go_wp2_with fail
  go_loop [3, 8] (fun m i => ∃ (k : Nat), k ≤ l.length ∧ i = .int .i64 k ∧ m = .int .u64 (wordTo l k)) (fun _ i => l.length - (intOf i).toNat)
  case atStart => exact ⟨0, by omega, rfl, rfl⟩
  case round =>
    obtain ⟨k, hk, rfl, rfl⟩ := hrel
    by_cases hlt : k < l.length
    · obtain ⟨ad, rfl, _, hc⟩ := H.out.elem hlt
      have hn : wordTo l (k + 1) = bits BinOp.or IntKind.u64 (wordTo l k) (IntKind.u64.wrap (IntKind.u64.wrap l[k] * 2 ^ (8 * k))) := by rw [wordTo]; simp [hlt]
      have HN := Lib.hid hn
      clear hn
      generalize wordTo l k = q at *
      generalize l[k] = x at *
      go_wp2_with fail
      go_round
      case rel => exact ⟨k + 1, by omega, by go_num, by rw [HN.out]⟩
      case measure => simp [intOf]; omega
    · obtain rfl : k = l.length := by omega
      go_wp2_with fail
      go_ret
      exact ⟨rfl, rfl⟩

def St.absorb (v : St) (m : Int) : St := { (St.rounds { v with d := xor64 v.d m } 2) with a := xor64 (St.rounds { v with d := xor64 v.d m } 2).a m }

set_option maxHeartbeats 4000000 in
theorem absorb_any (v : St) (m : Int) (w : World) : Calls Try.prog 14 #[.agg v.row, .int .u64 m] w fun e w' => e = .returned (.agg (v.absorb m).row) ∧ Hid (Kept No w w') := by
  have habs : v.absorb m = ⟨xor64 (St.rounds ⟨v.a, v.b, v.c, xor64 v.d m⟩ 2).a m, (St.rounds ⟨v.a, v.b, v.c, xor64 v.d m⟩ 2).b, (St.rounds ⟨v.a, v.b, v.c, xor64 v.d m⟩ 2).c, (St.rounds ⟨v.a, v.b, v.c, xor64 v.d m⟩ 2).d⟩ := rfl
  have HABS := Lib.hid habs
  clear habs
  go_enter Try.func14, Try.ntmps14
  go_upto_region 1 with (fail)
  have HH := Lib.hid (show Blk ((w.alloc (.cells v.row 37)).alloc (.cells #[.int .u64 0, .int .u64 0, .int .u64 0, .int .u64 0] 37)) w.heap.size 37 v.row ∧ Blk ((w.alloc (.cells v.row 37)).alloc (.cells #[.int .u64 0, .int .u64 0, .int .u64 0, .int .u64 0] 37)) (w.heap.size + 1) 37 #[.int .u64 0, .int .u64 0, .int .u64 0, .int .u64 0] ∧ Kept (fun b => w.heap.size ≤ b) w ((w.alloc (.cells v.row 37)).alloc (.cells #[.int .u64 0, .int .u64 0, .int .u64 0, .int .u64 0] 37)) from
    ⟨(Blk.new w _ _).keepN (Kept.alloc No _ _), Blk.new' _ _ (by simp), (Kept.alloc _ _ _).then_ (Kept.alloc No _ _)⟩)
  generalize (w.alloc (.cells v.row 37)).alloc (.cells #[.int .u64 0, .int .u64 0, .int .u64 0, .int .u64 0] 37) = wr at *
  obtain ⟨a, b, c, d⟩ := v
  have hB0 : Blk wr w.heap.size 37 #[.int .u64 a, .int .u64 b, .int .u64 c, .int .u64 d] := HH.out.1
  have c3 : wr.cell? ⟨w.heap.size, 3, none⟩ = some (.int .u64 d) := hB0.cell 3
  have f3 := hB0.frozen 3
  go_upto_region 2 with (fail)
  have hB1 : Blk (wr.setCell ⟨w.heap.size, 3, none⟩ (.int .u64 (bits BinOp.xor IntKind.u64 d m))) w.heap.size 37 (St.row ⟨a, b, c, xor64 d m⟩) := hB0.set_ 3 _
  have hK1 : Kept (fun k => k = w.heap.size) wr (wr.setCell ⟨w.heap.size, 3, none⟩ (.int .u64 (bits BinOp.xor IntKind.u64 d m))) := Kept.setCell (O := fun k => k = w.heap.size) wr (p := ⟨w.heap.size, 3, none⟩) (.inl rfl) _
  generalize wr.setCell ⟨w.heap.size, 3, none⟩ (.int .u64 (bits BinOp.xor IntKind.u64 d m)) = w1 at *
  clear c3 f3 hB0
  generalize (⟨a, b, c, xor64 d m⟩ : St) = v1 at *
  have HZ : ∀ z : St, (Try.prog.info? 37).map (·.size) = some z.row.size := fun _ => Try.size4
  have HY : ∀ z y : St, z.row.size = y.row.size := fun _ _ => rfl
  have HZ' := Lib.hid HZ
  have HY' := Lib.hid HY
  clear HZ HY
  go_upto_region 3 with (first
    | (with_reducible refine wpList_ld _ rfl 37 _ rfl _ rfl _ v1.row _ hB1 Try.underlying37 rfl (HZ'.out _) ?_)
    | (go_at_call 16; refine (rounds_any v1 2 _ (by omega)).mono ?_; rintro e w2 ⟨rfl, hK2⟩; have hB2 := hB1.keepN hK2.out)
    | (with_reducible refine wpList_st _ rfl 37 _ _ rfl _ rfl (v1.rounds 2).row rfl _ _ hB2 (HY'.out _ _) (HZ'.out _) (row_cell _) ?_; intro w3 hB3 hK3 hS3))
  generalize v1.rounds 2 = v2 at *
  obtain ⟨a2, b2, c2, d2⟩ := v2
  have c0 : w3.cell? ⟨w.heap.size, 0, none⟩ = some (.int .u64 a2) := hB3.cell 0
  have f0 := hB3.frozen 0
  go_upto_region 4 with (fail)
  have hB4 : Blk (w3.setCell ⟨w.heap.size, 0, none⟩ (.int .u64 (bits BinOp.xor IntKind.u64 a2 m))) w.heap.size 37 (St.row ⟨xor64 a2 m, b2, c2, d2⟩) := hB3.set_ 0 _
  have hK4 : Kept (fun k => k = w.heap.size) w3 (w3.setCell ⟨w.heap.size, 0, none⟩ (.int .u64 (bits BinOp.xor IntKind.u64 a2 m))) := Kept.setCell (O := fun k => k = w.heap.size) w3 (p := ⟨w.heap.size, 0, none⟩) (.inl rfl) _
  generalize w3.setCell ⟨w.heap.size, 0, none⟩ (.int .u64 (bits BinOp.xor IntKind.u64 a2 m)) = w4 at *
  have hK : Kept (fun k => k = w.heap.size) wr w4 := ((hK1.then_ hK2.out).trans hK3 (fun _ _ h => h)).trans hK4 (fun _ _ h => h)
  have h2 := HH.out.2.1.keep hK (fun e => by omega)
  have h3 := HH.out.2.2.trans hK (fun b hb e => by omega)
  clear hK hK1 hK2 hK3 hK4 hB1 hB2 hB3 hS3 c0 f0 HH
  generalize hv : (⟨xor64 a2 m, b2, c2, d2⟩ : St) = v4 at *
  clear hv
  have HW := Lib.hid (show v4.row.size = (#[Value.int .u64 0, Value.int .u64 0, Value.int .u64 0, Value.int .u64 0] : Array Value).size from rfl)
  go_wp2_with (first
    | (with_reducible refine wpList_ld _ rfl 37 _ rfl _ rfl _ v4.row _ hB4 Try.underlying37 rfl (HZ'.out _) ?_)
    | (with_reducible refine wpList_st _ rfl 37 _ _ rfl _ rfl v4.row rfl _ _ h2 HW.out (HZ'.out _) (row_cell _) ?_; intro w5 hB5 hK5 hS5))
  exact ret_row rfl rfl (w.heap.size + 1) 37 v4.row _ rfl hB5 Try.underlying37 rfl Try.size4 ⟨by rw [HABS.out], Lib.hid ((h3.trans hK5 (fun k hk e => by omega)).mono (fun k hk e => by omega))⟩
end Go.Proofs.Ytnedkcnafnfdlaa
