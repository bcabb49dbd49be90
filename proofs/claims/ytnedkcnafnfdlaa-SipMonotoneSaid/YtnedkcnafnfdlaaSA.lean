/- Contracts of the rounds of SipHash. -/
import Derived.Test.YtnedkcnafnfdlaaRows
import Derived.Test.YtnedkcnafnfdlaaArr2
import Derived.StillTailTactics
import Derived.Deep.DeepCutAuto
namespace Go.Proofs.Ytnedkcnafnfdlaa
open Go.RowKit

def rot (m d : Int) (x : Int) : Int := bits BinOp.or IntKind.u64 (IntKind.u64.wrap (x * m)) (x / d)
def add64 (a b : Int) : Int := IntKind.u64.wrap (a + b)
def xor64 (a b : Int) : Int := bits BinOp.xor IntKind.u64 a b
/-- the four words -/
structure St where
  a : Int
  b : Int
  c : Int
  d : Int
def St.row (v : St) : Array Value := #[.int .u64 v.a, .int .u64 v.b, .int .u64 v.c, .int .u64 v.d]

def r13 (x : Int) : Int := rot 8192 2251799813685248 x
set_option maxHeartbeats 400000 in
theorem rot13_any (x : Int) (w : World) : Calls Try.prog 21 #[.int .u64 x, .int .i64 13] w fun e w' => e = .returned (.int .u64 (r13 x)) ∧ w = w' := by
  have hb : bits BinOp.and IntKind.u64 13 63 = 13 := by decide +kernel
  go_enter Try.func21, Try.ntmps21
  go_wp2
  go_ret
  exact ⟨rfl, rfl⟩

def r32 (x : Int) : Int := rot 4294967296 4294967296 x
set_option maxHeartbeats 400000 in
theorem rot32_any (x : Int) (w : World) : Calls Try.prog 21 #[.int .u64 x, .int .i64 32] w fun e w' => e = .returned (.int .u64 (r32 x)) ∧ w = w' := by
  have hb : bits BinOp.and IntKind.u64 32 63 = 32 := by decide +kernel
  go_enter Try.func21, Try.ntmps21
  go_wp2
  go_ret
  exact ⟨rfl, rfl⟩

def r16 (x : Int) : Int := rot 65536 281474976710656 x
set_option maxHeartbeats 400000 in
theorem rot16_any (x : Int) (w : World) : Calls Try.prog 21 #[.int .u64 x, .int .i64 16] w fun e w' => e = .returned (.int .u64 (r16 x)) ∧ w = w' := by
  have hb : bits BinOp.and IntKind.u64 16 63 = 16 := by decide +kernel
  go_enter Try.func21, Try.ntmps21
  go_wp2
  go_ret
  exact ⟨rfl, rfl⟩

def r21 (x : Int) : Int := rot 2097152 8796093022208 x
set_option maxHeartbeats 400000 in
theorem rot21_any (x : Int) (w : World) : Calls Try.prog 21 #[.int .u64 x, .int .i64 21] w fun e w' => e = .returned (.int .u64 (r21 x)) ∧ w = w' := by
  have hb : bits BinOp.and IntKind.u64 21 63 = 21 := by decide +kernel
  go_enter Try.func21, Try.ntmps21
  go_wp2
  go_ret
  exact ⟨rfl, rfl⟩

def r17 (x : Int) : Int := rot 131072 140737488355328 x
set_option maxHeartbeats 400000 in
theorem rot17_any (x : Int) (w : World) : Calls Try.prog 21 #[.int .u64 x, .int .i64 17] w fun e w' => e = .returned (.int .u64 (r17 x)) ∧ w = w' := by
  have hb : bits BinOp.and IntKind.u64 17 63 = 17 := by decide +kernel
  go_enter Try.func21, Try.ntmps21
  go_wp2
  go_ret
  exact ⟨rfl, rfl⟩

def St.r1 (v : St) : St := ⟨add64 v.a v.b, xor64 (r13 v.b) (add64 v.a v.b), v.c, v.d⟩
def St.r2 (v : St) : St := ⟨(r32 v.a), v.b, add64 v.c v.d, xor64 (r16 v.d) (add64 v.c v.d)⟩
def St.r3 (v : St) : St := ⟨add64 v.a v.d, v.b, v.c, xor64 (r21 v.d) (add64 v.a v.d)⟩
def St.r4 (v : St) : St := ⟨v.a, xor64 (r17 v.b) (add64 v.c v.b), (r32 (add64 v.c v.b)), v.d⟩
def St.round (v : St) : St := v.r1.r2.r3.r4
def St.rounds (v : St) : Nat → St
  | 0 => v
  | n + 1 => (v.rounds n).round

theorem Try.size4 : (Try.prog.info? 37).map (·.size) = some 4 := by kernel_rfl
theorem Try.size4r : (Try.prog.info? 36).map (·.size) = some 4 := by kernel_rfl
theorem row_cell (v : St) : v.row.all (·.oneCell') = true := by simp [St.row, Value.oneCell']
theorem still_left {P : Program} {f : FuncId} {args : Array Value} {w : World} {v : Value} (h : Calls P f args w fun e w' => e = .returned v ∧ w = w') : Calls P f args w fun e w' => e = .returned v ∧ w' = w :=
  h.mono fun _ _ ⟨he, hw⟩ => ⟨he, hw.symm⟩
set_option maxHeartbeats 4000000 in
theorem rounds_any (v : St) (n : Nat) (w : World) (hn : n ≤ 1000) : Calls Try.prog 16 #[.agg v.row, .int .i64 n] w fun e w' => e = .returned (.agg (v.rounds n).row) ∧ Hid (Kept No w w') := by
  go_enter Try.func16, Try.ntmps16
  go_wp2_with fail
  have HH := Lib.hid (show Blk ((w.alloc (.cells v.row 37)).alloc (.cells #[.int .u64 0, .int .u64 0, .int .u64 0, .int .u64 0] 37)) w.heap.size 37 (v.rounds 0).row ∧ Blk ((w.alloc (.cells v.row 37)).alloc (.cells #[.int .u64 0, .int .u64 0, .int .u64 0, .int .u64 0] 37)) (w.heap.size + 1) 37 #[.int .u64 0, .int .u64 0, .int .u64 0, .int .u64 0] ∧ Kept (fun b => w.heap.size ≤ b) w ((w.alloc (.cells v.row 37)).alloc (.cells #[.int .u64 0, .int .u64 0, .int .u64 0, .int .u64 0] 37)) from
    ⟨(Blk.new w _ _).keepN (Kept.alloc No _ _), Blk.new' _ _ (by simp), (Kept.alloc _ _ _).then_ (Kept.alloc No _ _)⟩)
  generalize (w.alloc (.cells v.row 37)).alloc (.cells #[.int .u64 0, .int .u64 0, .int .u64 0, .int .u64 0] 37) = w1 at *
  go_loopw [6] (fun i wr => ∃ k : Nat, k ≤ n ∧ i = .int .i64 k ∧ Hid (Blk wr w.heap.size 37 (v.rounds k).row ∧ Blk wr (w.heap.size + 1) 37 #[.int .u64 0, .int .u64 0, .int .u64 0, .int .u64 0] ∧ Kept (fun b => w.heap.size ≤ b) w wr)) (fun i _ => n - (intOf i).toNat)
  case atStart => exact ⟨0, by omega, rfl, HH⟩
  case round =>
    clear HH
    obtain ⟨k, hk, rfl, HH⟩ := hrel
    by_cases hlt : k < n
    · have hnext : v.rounds (k + 1) = (v.rounds k).round := rfl
      have HN := Lib.hid hnext
      clear hnext
      generalize v.rounds k = u at *
      obtain ⟨a, b, c, d⟩ := u
      have hB0 : Blk wr w.heap.size 37 #[.int .u64 a, .int .u64 b, .int .u64 c, .int .u64 d] := HH.out.1
      have hK0 : Kept (fun k => k = w.heap.size) wr wr := Kept.refl _ _
      have c0 : wr.cell? ⟨w.heap.size, 0, none⟩ = some (.int .u64 a) := hB0.cell 0
      have c1 : wr.cell? ⟨w.heap.size, 1, none⟩ = some (.int .u64 b) := hB0.cell 1
      have c2 : wr.cell? ⟨w.heap.size, 2, none⟩ = some (.int .u64 c) := hB0.cell 2
      have c3 : wr.cell? ⟨w.heap.size, 3, none⟩ = some (.int .u64 d) := hB0.cell 3
      have f0 := hB0.frozen 0
      have f1 := hB0.frozen 1
      have f2 := hB0.frozen 2
      have f3 := hB0.frozen 3
      go_upto_region 4 with (fail)
      have hB1 : Blk (wr.setCell ⟨w.heap.size, 0, none⟩ (.int .u64 (IntKind.u64.wrap (a + b)))) (w.heap.size) 37 #[.int .u64 (IntKind.u64.wrap (a + b)), .int .u64 b, .int .u64 c, .int .u64 d] := hB0.set_ 0 (.int .u64 (IntKind.u64.wrap (a + b)))
      have hK1 := hK0.trans (Kept.setCell (O := fun k => k = w.heap.size) wr (p := ⟨w.heap.size, 0, none⟩) (.inl rfl) (.int .u64 (IntKind.u64.wrap (a + b)))) (fun _ _ h => h)
      generalize hx0 : IntKind.u64.wrap (a + b) = x0 at hB1 hK1 ⊢
      have Hx0 := Lib.hid hx0
      clear hx0 c0 c1 c2 c3 f0 f1 f2 f3 hB0 hK0
      generalize (wr.setCell ⟨w.heap.size, 0, none⟩ (.int .u64 x0)) = v0 at hB1 hK1 ⊢
      have c0 : v0.cell? ⟨w.heap.size, 0, none⟩ = some (.int .u64 x0) := hB1.cell 0
      have c1 : v0.cell? ⟨w.heap.size, 1, none⟩ = some (.int .u64 b) := hB1.cell 1
      have c2 : v0.cell? ⟨w.heap.size, 2, none⟩ = some (.int .u64 c) := hB1.cell 2
      have c3 : v0.cell? ⟨w.heap.size, 3, none⟩ = some (.int .u64 d) := hB1.cell 3
      have f0 := hB1.frozen 0
      have f1 := hB1.frozen 1
      have f2 := hB1.frozen 2
      have f3 := hB1.frozen 3
      go_upto_region 5 with ((go_at_call 21; (with_reducible refine (rot13_any _ _).mono ?_); rintro e w' ⟨rfl, rfl⟩))
      have hB2 : Blk (v0.setCell ⟨w.heap.size, 1, none⟩ (.int .u64 (r13 b))) (w.heap.size) 37 #[.int .u64 x0, .int .u64 (r13 b), .int .u64 c, .int .u64 d] := hB1.set_ 1 (.int .u64 (r13 b))
      have hK2 := hK1.trans (Kept.setCell (O := fun k => k = w.heap.size) v0 (p := ⟨w.heap.size, 1, none⟩) (.inl rfl) (.int .u64 (r13 b))) (fun _ _ h => h)
      generalize hx1 : r13 b = x1 at hB2 hK2 ⊢
      have Hx1 := Lib.hid hx1
      clear hx1 c0 c1 c2 c3 f0 f1 f2 f3 hB1 hK1
      generalize (v0.setCell ⟨w.heap.size, 1, none⟩ (.int .u64 x1)) = v1 at hB2 hK2 ⊢
      have c0 : v1.cell? ⟨w.heap.size, 0, none⟩ = some (.int .u64 x0) := hB2.cell 0
      have c1 : v1.cell? ⟨w.heap.size, 1, none⟩ = some (.int .u64 x1) := hB2.cell 1
      have c2 : v1.cell? ⟨w.heap.size, 2, none⟩ = some (.int .u64 c) := hB2.cell 2
      have c3 : v1.cell? ⟨w.heap.size, 3, none⟩ = some (.int .u64 d) := hB2.cell 3
      have f0 := hB2.frozen 0
      have f1 := hB2.frozen 1
      have f2 := hB2.frozen 2
      have f3 := hB2.frozen 3
      go_upto_region 6 with (fail)
      have hB3 : Blk (v1.setCell ⟨w.heap.size, 1, none⟩ (.int .u64 (bits BinOp.xor IntKind.u64 x1 x0))) (w.heap.size) 37 #[.int .u64 x0, .int .u64 (bits BinOp.xor IntKind.u64 x1 x0), .int .u64 c, .int .u64 d] := hB2.set_ 1 (.int .u64 (bits BinOp.xor IntKind.u64 x1 x0))
      have hK3 := hK2.trans (Kept.setCell (O := fun k => k = w.heap.size) v1 (p := ⟨w.heap.size, 1, none⟩) (.inl rfl) (.int .u64 (bits BinOp.xor IntKind.u64 x1 x0))) (fun _ _ h => h)
      generalize hx2 : bits BinOp.xor IntKind.u64 x1 x0 = x2 at hB3 hK3 ⊢
      have Hx2 := Lib.hid hx2
      clear hx2 c0 c1 c2 c3 f0 f1 f2 f3 hB2 hK2
      generalize (v1.setCell ⟨w.heap.size, 1, none⟩ (.int .u64 x2)) = v2 at hB3 hK3 ⊢
      have c0 : v2.cell? ⟨w.heap.size, 0, none⟩ = some (.int .u64 x0) := hB3.cell 0
      have c1 : v2.cell? ⟨w.heap.size, 1, none⟩ = some (.int .u64 x2) := hB3.cell 1
      have c2 : v2.cell? ⟨w.heap.size, 2, none⟩ = some (.int .u64 c) := hB3.cell 2
      have c3 : v2.cell? ⟨w.heap.size, 3, none⟩ = some (.int .u64 d) := hB3.cell 3
      have f0 := hB3.frozen 0
      have f1 := hB3.frozen 1
      have f2 := hB3.frozen 2
      have f3 := hB3.frozen 3
      go_upto_region 7 with ((go_at_call 21; (with_reducible refine (rot32_any _ _).mono ?_); rintro e w' ⟨rfl, rfl⟩))
      have hB4 : Blk (v2.setCell ⟨w.heap.size, 0, none⟩ (.int .u64 (r32 x0))) (w.heap.size) 37 #[.int .u64 (r32 x0), .int .u64 x2, .int .u64 c, .int .u64 d] := hB3.set_ 0 (.int .u64 (r32 x0))
      have hK4 := hK3.trans (Kept.setCell (O := fun k => k = w.heap.size) v2 (p := ⟨w.heap.size, 0, none⟩) (.inl rfl) (.int .u64 (r32 x0))) (fun _ _ h => h)
      generalize hx3 : r32 x0 = x3 at hB4 hK4 ⊢
      have Hx3 := Lib.hid hx3
      clear hx3 c0 c1 c2 c3 f0 f1 f2 f3 hB3 hK3
      generalize (v2.setCell ⟨w.heap.size, 0, none⟩ (.int .u64 x3)) = v3 at hB4 hK4 ⊢
      have c0 : v3.cell? ⟨w.heap.size, 0, none⟩ = some (.int .u64 x3) := hB4.cell 0
      have c1 : v3.cell? ⟨w.heap.size, 1, none⟩ = some (.int .u64 x2) := hB4.cell 1
      have c2 : v3.cell? ⟨w.heap.size, 2, none⟩ = some (.int .u64 c) := hB4.cell 2
      have c3 : v3.cell? ⟨w.heap.size, 3, none⟩ = some (.int .u64 d) := hB4.cell 3
      have f0 := hB4.frozen 0
      have f1 := hB4.frozen 1
      have f2 := hB4.frozen 2
      have f3 := hB4.frozen 3
      go_upto_region 8 with (fail)
      have hB5 : Blk (v3.setCell ⟨w.heap.size, 2, none⟩ (.int .u64 (IntKind.u64.wrap (c + d)))) (w.heap.size) 37 #[.int .u64 x3, .int .u64 x2, .int .u64 (IntKind.u64.wrap (c + d)), .int .u64 d] := hB4.set_ 2 (.int .u64 (IntKind.u64.wrap (c + d)))
      have hK5 := hK4.trans (Kept.setCell (O := fun k => k = w.heap.size) v3 (p := ⟨w.heap.size, 2, none⟩) (.inl rfl) (.int .u64 (IntKind.u64.wrap (c + d)))) (fun _ _ h => h)
      generalize hx4 : IntKind.u64.wrap (c + d) = x4 at hB5 hK5 ⊢
      have Hx4 := Lib.hid hx4
      clear hx4 c0 c1 c2 c3 f0 f1 f2 f3 hB4 hK4
      generalize (v3.setCell ⟨w.heap.size, 2, none⟩ (.int .u64 x4)) = v4 at hB5 hK5 ⊢
      have c0 : v4.cell? ⟨w.heap.size, 0, none⟩ = some (.int .u64 x3) := hB5.cell 0
      have c1 : v4.cell? ⟨w.heap.size, 1, none⟩ = some (.int .u64 x2) := hB5.cell 1
      have c2 : v4.cell? ⟨w.heap.size, 2, none⟩ = some (.int .u64 x4) := hB5.cell 2
      have c3 : v4.cell? ⟨w.heap.size, 3, none⟩ = some (.int .u64 d) := hB5.cell 3
      have f0 := hB5.frozen 0
      have f1 := hB5.frozen 1
      have f2 := hB5.frozen 2
      have f3 := hB5.frozen 3
      go_upto_region 9 with ((go_at_call 21; (with_reducible refine (rot16_any _ _).mono ?_); rintro e w' ⟨rfl, rfl⟩))
      have hB6 : Blk (v4.setCell ⟨w.heap.size, 3, none⟩ (.int .u64 (r16 d))) (w.heap.size) 37 #[.int .u64 x3, .int .u64 x2, .int .u64 x4, .int .u64 (r16 d)] := hB5.set_ 3 (.int .u64 (r16 d))
      have hK6 := hK5.trans (Kept.setCell (O := fun k => k = w.heap.size) v4 (p := ⟨w.heap.size, 3, none⟩) (.inl rfl) (.int .u64 (r16 d))) (fun _ _ h => h)
      generalize hx5 : r16 d = x5 at hB6 hK6 ⊢
      have Hx5 := Lib.hid hx5
      clear hx5 c0 c1 c2 c3 f0 f1 f2 f3 hB5 hK5
      generalize (v4.setCell ⟨w.heap.size, 3, none⟩ (.int .u64 x5)) = v5 at hB6 hK6 ⊢
      have c0 : v5.cell? ⟨w.heap.size, 0, none⟩ = some (.int .u64 x3) := hB6.cell 0
      have c1 : v5.cell? ⟨w.heap.size, 1, none⟩ = some (.int .u64 x2) := hB6.cell 1
      have c2 : v5.cell? ⟨w.heap.size, 2, none⟩ = some (.int .u64 x4) := hB6.cell 2
      have c3 : v5.cell? ⟨w.heap.size, 3, none⟩ = some (.int .u64 x5) := hB6.cell 3
      have f0 := hB6.frozen 0
      have f1 := hB6.frozen 1
      have f2 := hB6.frozen 2
      have f3 := hB6.frozen 3
      go_upto_region 10 with (fail)
      have hB7 : Blk (v5.setCell ⟨w.heap.size, 3, none⟩ (.int .u64 (bits BinOp.xor IntKind.u64 x5 x4))) (w.heap.size) 37 #[.int .u64 x3, .int .u64 x2, .int .u64 x4, .int .u64 (bits BinOp.xor IntKind.u64 x5 x4)] := hB6.set_ 3 (.int .u64 (bits BinOp.xor IntKind.u64 x5 x4))
      have hK7 := hK6.trans (Kept.setCell (O := fun k => k = w.heap.size) v5 (p := ⟨w.heap.size, 3, none⟩) (.inl rfl) (.int .u64 (bits BinOp.xor IntKind.u64 x5 x4))) (fun _ _ h => h)
      generalize hx6 : bits BinOp.xor IntKind.u64 x5 x4 = x6 at hB7 hK7 ⊢
      have Hx6 := Lib.hid hx6
      clear hx6 c0 c1 c2 c3 f0 f1 f2 f3 hB6 hK6
      generalize (v5.setCell ⟨w.heap.size, 3, none⟩ (.int .u64 x6)) = v6 at hB7 hK7 ⊢
      have c0 : v6.cell? ⟨w.heap.size, 0, none⟩ = some (.int .u64 x3) := hB7.cell 0
      have c1 : v6.cell? ⟨w.heap.size, 1, none⟩ = some (.int .u64 x2) := hB7.cell 1
      have c2 : v6.cell? ⟨w.heap.size, 2, none⟩ = some (.int .u64 x4) := hB7.cell 2
      have c3 : v6.cell? ⟨w.heap.size, 3, none⟩ = some (.int .u64 x6) := hB7.cell 3
      have f0 := hB7.frozen 0
      have f1 := hB7.frozen 1
      have f2 := hB7.frozen 2
      have f3 := hB7.frozen 3
      go_upto_region 11 with (fail)
      have hB8 : Blk (v6.setCell ⟨w.heap.size, 0, none⟩ (.int .u64 (IntKind.u64.wrap (x3 + x6)))) (w.heap.size) 37 #[.int .u64 (IntKind.u64.wrap (x3 + x6)), .int .u64 x2, .int .u64 x4, .int .u64 x6] := hB7.set_ 0 (.int .u64 (IntKind.u64.wrap (x3 + x6)))
      have hK8 := hK7.trans (Kept.setCell (O := fun k => k = w.heap.size) v6 (p := ⟨w.heap.size, 0, none⟩) (.inl rfl) (.int .u64 (IntKind.u64.wrap (x3 + x6)))) (fun _ _ h => h)
      generalize hx7 : IntKind.u64.wrap (x3 + x6) = x7 at hB8 hK8 ⊢
      have Hx7 := Lib.hid hx7
      clear hx7 c0 c1 c2 c3 f0 f1 f2 f3 hB7 hK7
      generalize (v6.setCell ⟨w.heap.size, 0, none⟩ (.int .u64 x7)) = v7 at hB8 hK8 ⊢
      have c0 : v7.cell? ⟨w.heap.size, 0, none⟩ = some (.int .u64 x7) := hB8.cell 0
      have c1 : v7.cell? ⟨w.heap.size, 1, none⟩ = some (.int .u64 x2) := hB8.cell 1
      have c2 : v7.cell? ⟨w.heap.size, 2, none⟩ = some (.int .u64 x4) := hB8.cell 2
      have c3 : v7.cell? ⟨w.heap.size, 3, none⟩ = some (.int .u64 x6) := hB8.cell 3
      have f0 := hB8.frozen 0
      have f1 := hB8.frozen 1
      have f2 := hB8.frozen 2
      have f3 := hB8.frozen 3
      go_upto_region 12 with ((go_at_call 21; (with_reducible refine (rot21_any _ _).mono ?_); rintro e w' ⟨rfl, rfl⟩))
      have hB9 : Blk (v7.setCell ⟨w.heap.size, 3, none⟩ (.int .u64 (r21 x6))) (w.heap.size) 37 #[.int .u64 x7, .int .u64 x2, .int .u64 x4, .int .u64 (r21 x6)] := hB8.set_ 3 (.int .u64 (r21 x6))
      have hK9 := hK8.trans (Kept.setCell (O := fun k => k = w.heap.size) v7 (p := ⟨w.heap.size, 3, none⟩) (.inl rfl) (.int .u64 (r21 x6))) (fun _ _ h => h)
      generalize hx8 : r21 x6 = x8 at hB9 hK9 ⊢
      have Hx8 := Lib.hid hx8
      clear hx8 c0 c1 c2 c3 f0 f1 f2 f3 hB8 hK8
      generalize (v7.setCell ⟨w.heap.size, 3, none⟩ (.int .u64 x8)) = v8 at hB9 hK9 ⊢
      have c0 : v8.cell? ⟨w.heap.size, 0, none⟩ = some (.int .u64 x7) := hB9.cell 0
      have c1 : v8.cell? ⟨w.heap.size, 1, none⟩ = some (.int .u64 x2) := hB9.cell 1
      have c2 : v8.cell? ⟨w.heap.size, 2, none⟩ = some (.int .u64 x4) := hB9.cell 2
      have c3 : v8.cell? ⟨w.heap.size, 3, none⟩ = some (.int .u64 x8) := hB9.cell 3
      have f0 := hB9.frozen 0
      have f1 := hB9.frozen 1
      have f2 := hB9.frozen 2
      have f3 := hB9.frozen 3
      go_upto_region 13 with (fail)
      have hB10 : Blk (v8.setCell ⟨w.heap.size, 3, none⟩ (.int .u64 (bits BinOp.xor IntKind.u64 x8 x7))) (w.heap.size) 37 #[.int .u64 x7, .int .u64 x2, .int .u64 x4, .int .u64 (bits BinOp.xor IntKind.u64 x8 x7)] := hB9.set_ 3 (.int .u64 (bits BinOp.xor IntKind.u64 x8 x7))
      have hK10 := hK9.trans (Kept.setCell (O := fun k => k = w.heap.size) v8 (p := ⟨w.heap.size, 3, none⟩) (.inl rfl) (.int .u64 (bits BinOp.xor IntKind.u64 x8 x7))) (fun _ _ h => h)
      generalize hx9 : bits BinOp.xor IntKind.u64 x8 x7 = x9 at hB10 hK10 ⊢
      have Hx9 := Lib.hid hx9
      clear hx9 c0 c1 c2 c3 f0 f1 f2 f3 hB9 hK9
      generalize (v8.setCell ⟨w.heap.size, 3, none⟩ (.int .u64 x9)) = v9 at hB10 hK10 ⊢
      have c0 : v9.cell? ⟨w.heap.size, 0, none⟩ = some (.int .u64 x7) := hB10.cell 0
      have c1 : v9.cell? ⟨w.heap.size, 1, none⟩ = some (.int .u64 x2) := hB10.cell 1
      have c2 : v9.cell? ⟨w.heap.size, 2, none⟩ = some (.int .u64 x4) := hB10.cell 2
      have c3 : v9.cell? ⟨w.heap.size, 3, none⟩ = some (.int .u64 x9) := hB10.cell 3
      have f0 := hB10.frozen 0
      have f1 := hB10.frozen 1
      have f2 := hB10.frozen 2
      have f3 := hB10.frozen 3
      go_upto_region 14 with (fail)
      have hB11 : Blk (v9.setCell ⟨w.heap.size, 2, none⟩ (.int .u64 (IntKind.u64.wrap (x4 + x2)))) (w.heap.size) 37 #[.int .u64 x7, .int .u64 x2, .int .u64 (IntKind.u64.wrap (x4 + x2)), .int .u64 x9] := hB10.set_ 2 (.int .u64 (IntKind.u64.wrap (x4 + x2)))
      have hK11 := hK10.trans (Kept.setCell (O := fun k => k = w.heap.size) v9 (p := ⟨w.heap.size, 2, none⟩) (.inl rfl) (.int .u64 (IntKind.u64.wrap (x4 + x2)))) (fun _ _ h => h)
      generalize hx10 : IntKind.u64.wrap (x4 + x2) = x10 at hB11 hK11 ⊢
      have Hx10 := Lib.hid hx10
      clear hx10 c0 c1 c2 c3 f0 f1 f2 f3 hB10 hK10
      generalize (v9.setCell ⟨w.heap.size, 2, none⟩ (.int .u64 x10)) = v10 at hB11 hK11 ⊢
      have c0 : v10.cell? ⟨w.heap.size, 0, none⟩ = some (.int .u64 x7) := hB11.cell 0
      have c1 : v10.cell? ⟨w.heap.size, 1, none⟩ = some (.int .u64 x2) := hB11.cell 1
      have c2 : v10.cell? ⟨w.heap.size, 2, none⟩ = some (.int .u64 x10) := hB11.cell 2
      have c3 : v10.cell? ⟨w.heap.size, 3, none⟩ = some (.int .u64 x9) := hB11.cell 3
      have f0 := hB11.frozen 0
      have f1 := hB11.frozen 1
      have f2 := hB11.frozen 2
      have f3 := hB11.frozen 3
      go_upto_region 15 with ((go_at_call 21; (with_reducible refine (rot17_any _ _).mono ?_); rintro e w' ⟨rfl, rfl⟩))
      have hB12 : Blk (v10.setCell ⟨w.heap.size, 1, none⟩ (.int .u64 (r17 x2))) (w.heap.size) 37 #[.int .u64 x7, .int .u64 (r17 x2), .int .u64 x10, .int .u64 x9] := hB11.set_ 1 (.int .u64 (r17 x2))
      have hK12 := hK11.trans (Kept.setCell (O := fun k => k = w.heap.size) v10 (p := ⟨w.heap.size, 1, none⟩) (.inl rfl) (.int .u64 (r17 x2))) (fun _ _ h => h)
      generalize hx11 : r17 x2 = x11 at hB12 hK12 ⊢
      have Hx11 := Lib.hid hx11
      clear hx11 c0 c1 c2 c3 f0 f1 f2 f3 hB11 hK11
      generalize (v10.setCell ⟨w.heap.size, 1, none⟩ (.int .u64 x11)) = v11 at hB12 hK12 ⊢
      have c0 : v11.cell? ⟨w.heap.size, 0, none⟩ = some (.int .u64 x7) := hB12.cell 0
      have c1 : v11.cell? ⟨w.heap.size, 1, none⟩ = some (.int .u64 x11) := hB12.cell 1
      have c2 : v11.cell? ⟨w.heap.size, 2, none⟩ = some (.int .u64 x10) := hB12.cell 2
      have c3 : v11.cell? ⟨w.heap.size, 3, none⟩ = some (.int .u64 x9) := hB12.cell 3
      have f0 := hB12.frozen 0
      have f1 := hB12.frozen 1
      have f2 := hB12.frozen 2
      have f3 := hB12.frozen 3
      go_upto_region 16 with (fail)
      have hB13 : Blk (v11.setCell ⟨w.heap.size, 1, none⟩ (.int .u64 (bits BinOp.xor IntKind.u64 x11 x10))) (w.heap.size) 37 #[.int .u64 x7, .int .u64 (bits BinOp.xor IntKind.u64 x11 x10), .int .u64 x10, .int .u64 x9] := hB12.set_ 1 (.int .u64 (bits BinOp.xor IntKind.u64 x11 x10))
      have hK13 := hK12.trans (Kept.setCell (O := fun k => k = w.heap.size) v11 (p := ⟨w.heap.size, 1, none⟩) (.inl rfl) (.int .u64 (bits BinOp.xor IntKind.u64 x11 x10))) (fun _ _ h => h)
      generalize hx12 : bits BinOp.xor IntKind.u64 x11 x10 = x12 at hB13 hK13 ⊢
      have Hx12 := Lib.hid hx12
      clear hx12 c0 c1 c2 c3 f0 f1 f2 f3 hB12 hK12
      generalize (v11.setCell ⟨w.heap.size, 1, none⟩ (.int .u64 x12)) = v12 at hB13 hK13 ⊢
      have c0 : v12.cell? ⟨w.heap.size, 0, none⟩ = some (.int .u64 x7) := hB13.cell 0
      have c1 : v12.cell? ⟨w.heap.size, 1, none⟩ = some (.int .u64 x12) := hB13.cell 1
      have c2 : v12.cell? ⟨w.heap.size, 2, none⟩ = some (.int .u64 x10) := hB13.cell 2
      have c3 : v12.cell? ⟨w.heap.size, 3, none⟩ = some (.int .u64 x9) := hB13.cell 3
      have f0 := hB13.frozen 0
      have f1 := hB13.frozen 1
      have f2 := hB13.frozen 2
      have f3 := hB13.frozen 3
      go_upto_region 17 with ((go_at_call 21; (with_reducible refine (rot32_any _ _).mono ?_); rintro e w' ⟨rfl, rfl⟩))
      have hB14 : Blk (v12.setCell ⟨w.heap.size, 2, none⟩ (.int .u64 (r32 x10))) (w.heap.size) 37 #[.int .u64 x7, .int .u64 x12, .int .u64 (r32 x10), .int .u64 x9] := hB13.set_ 2 (.int .u64 (r32 x10))
      have hK14 := hK13.trans (Kept.setCell (O := fun k => k = w.heap.size) v12 (p := ⟨w.heap.size, 2, none⟩) (.inl rfl) (.int .u64 (r32 x10))) (fun _ _ h => h)
      generalize hx13 : r32 x10 = x13 at hB14 hK14 ⊢
      have Hx13 := Lib.hid hx13
      clear hx13 c0 c1 c2 c3 f0 f1 f2 f3 hB13 hK13
      generalize (v12.setCell ⟨w.heap.size, 2, none⟩ (.int .u64 x13)) = v13 at hB14 hK14 ⊢
      have c0 : v13.cell? ⟨w.heap.size, 0, none⟩ = some (.int .u64 x7) := hB14.cell 0
      have c1 : v13.cell? ⟨w.heap.size, 1, none⟩ = some (.int .u64 x12) := hB14.cell 1
      have c2 : v13.cell? ⟨w.heap.size, 2, none⟩ = some (.int .u64 x13) := hB14.cell 2
      have c3 : v13.cell? ⟨w.heap.size, 3, none⟩ = some (.int .u64 x9) := hB14.cell 3
      have f0 := hB14.frozen 0
      have f1 := hB14.frozen 1
      have f2 := hB14.frozen 2
      have f3 := hB14.frozen 3
      go_wp2_with fail
      go_roundw
      case rel =>
        refine ⟨k + 1, by omega, by go_num, Lib.hid ⟨?_, HH.out.2.1.keep hK14 (fun e => by omega), HH.out.2.2.trans hK14 (fun b hb e => by omega)⟩⟩
        rw [HN.out]
        have e : (St.round ⟨a, b, c, d⟩).row = #[.int .u64 x7, .int .u64 x12, .int .u64 x13, .int .u64 x9] := by
          clear hB14 hK14 c0 c1 c2 c3 f0 f1 f2 f3
          obtain rfl := Hx0.out
          obtain rfl := Hx1.out
          obtain rfl := Hx2.out
          obtain rfl := Hx3.out
          obtain rfl := Hx4.out
          obtain rfl := Hx5.out
          obtain rfl := Hx6.out
          obtain rfl := Hx7.out
          obtain rfl := Hx8.out
          obtain rfl := Hx9.out
          obtain rfl := Hx10.out
          obtain rfl := Hx11.out
          obtain rfl := Hx12.out
          obtain rfl := Hx13.out
          rfl
        rw [e]
        exact hB14
      case measure => simp [intOf]; omega
    · obtain ⟨h1, h2, h3⟩ := HH.out
      obtain rfl : k = n := by omega
      clear HH
      have HZ := Lib.hid (show (Try.prog.info? 37).map (·.size) = some (v.rounds k).row.size from Try.size4)
      have HY := Lib.hid (show (v.rounds k).row.size = (#[Value.int .u64 0, Value.int .u64 0, Value.int .u64 0, Value.int .u64 0] : Array Value).size from rfl)
      go_wp2_with (first
        | (with_reducible refine wpList_ld _ rfl 37 _ rfl _ rfl _ (v.rounds k).row _ h1 Try.underlying37 rfl HZ.out ?_)
        | (with_reducible refine wpList_st _ rfl 37 _ _ rfl _ rfl (v.rounds k).row rfl _ _ h2 HY.out HZ.out (row_cell _) ?_; intro w5 hB5 hK5 hS5))
      exact ret_row rfl rfl (w.heap.size + 1) 37 (v.rounds k).row _ rfl hB5 Try.underlying37 rfl Try.size4 ⟨rfl, Lib.hid ((h3.trans hK5 (fun k hk e => by omega)).mono (fun k hk e => by omega))⟩
end Go.Proofs.Ytnedkcnafnfdlaa
