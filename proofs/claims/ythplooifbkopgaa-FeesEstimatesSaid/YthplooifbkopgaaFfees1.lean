/- The functions of this seat, as they compute on plain values. Printed by lift2.py. -/
import Derived.Test.YthplooifbkopgaaE29
import Derived.Test.YthplooifbkopgaaC2
import Derived.Test.YthplooifbkopgaaRows
namespace Go.Proofs.Ythplooifbkopgaa
set_option maxRecDepth 100000
set_option linter.unusedVariables false
/-! fees_bounds : 243 -/
def cbbabaa_fees_bounds : CC := (.seq (.seq (.reg [⟨(some 4), false, none, .move (.tmp 2) false⟩,
   ⟨(some 5), false, none, .bin .lss (.tmp 4) (.const (.sc (.int .i64 24)))⟩])
 (.cond (.tmp 5)
 .skip
 (.seq (.mask [true, true, false, false, false, false, false, false, false, false, false, false, false, false, false, false, false, false, false, false, false] [true, true, false, true, true, true, true, true, true, true, true, true, true, true, true, true, true, true, true, true, true])
 (.exit 0))))
 (.seq (.block 1 (.dreg [] [(⟨(some 8), false, none, .move (.tmp 2) false⟩, false),
   (⟨(some 9), false, none, .move (.tmp 2) false⟩, false),
   (⟨(some 10), false, none, .bin .sub (.tmp 9) (.const (.sc (.int .i64 1)))⟩, false),
   (⟨(some 11), false, none, .indexAddrA 24 1 (.tmp 1) (.tmp 10)⟩, false),
   (⟨(some 12), false, none, .load false 1 (.tmp 11) false⟩, true),
   (⟨(some 13), false, none, .move (.tmp 2) false⟩, false),
   (⟨(some 14), false, none, .bin .sub (.tmp 13) (.const (.sc (.int .i64 1)))⟩, false),
   (⟨(some 15), false, none, .indexAddrA 24 1 (.tmp 1) (.tmp 14)⟩, false),
   (⟨(some 16), false, none, .load false 1 (.tmp 15) false⟩, true),
   (⟨(some 17), false, none, .bin .quo (.tmp 16) (.const (.sc (.int .i64 2)))⟩, false),
   (⟨(some 18), false, none, .bin .add (.tmp 12) (.tmp 17)⟩, false),
   (⟨(some 19), false, none, .indexAddrA 24 1 (.tmp 1) (.tmp 8)⟩, false),
   (⟨none, false, none, .store 1 (.tmp 19) (.tmp 18)⟩, false)]))
 (.reg [⟨(some 6), false, none, .move (.tmp 2) false⟩,
   ⟨(some 7), false, none, .bin .add (.tmp 6) (.const (.sc (.int .i64 1)))⟩,
   ⟨(some 2), false, none, .move (.tmp 7) false⟩])))
def cbbb_fees_bounds : CC := (.seq (.reg [⟨(some 20), false, none, .load true 24 (.tmp 1) false⟩,
   ⟨none, false, none, .store 24 (.tmp 0) (.tmp 20)⟩])
 .ret)
def cf_fees_bounds : CF := ⟨21, [.cell 0 true 24],
 (.seq (.reg [⟨(some 0), false, none, .alloc true (List.replicate 24 (.sc (.int .i64 0)))⟩])
 (.seq (.reg [⟨(some 3), false, none, .build (List.replicate 24 (.sc (.int .i64 0))) [(0, 1, (.const (.sc (.int .i64 10))))]⟩,
   ⟨(some 1), false, none, .alloc true (List.replicate 24 (.sc (.int .i64 0)))⟩,
   ⟨none, false, none, .store 24 (.tmp 1) (.tmp 3)⟩])
 (.seq (.seq (.reg [⟨(some 2), false, none, .move (.const (.sc (.int .i64 1))) false⟩])
 (.block 0 (.loop [true, true, true, false, false, false, false, false, false, false, false, false, false, false, false, false, false, false, false, false, false] [true, true, true, true, true, true, true, true, true, true, true, true, true, true, true, true, true, true, true, true, true]
 cbbabaa_fees_bounds)))
 cbbb_fees_bounds)))⟩
def hint_fees_bounds : Hint := ⟨[], [], [none, some ([true, true, true, false, false, false, false, false, false, false, false, false, false, false, false, false, false, false, false, false, false], [true, true, true, true, true, true, true, true, true, true, true, true, true, true, true, true, true, true, true, true, true]), none, some ([true, true, false, false, false, false, false, false, false, false, false, false, false, false, false, false, false, false, false, false, false], [true, true, false, true, true, true, true, true, true, true, true, true, true, true, true, true, true, true, true, true, true]), none, none], []⟩
def sh_fees_bounds : Nat → Sh := shOf [(12, (.int .i64)), (16, (.int .i64))]
def cb_fees_bounds (L : Nat) : CBC := noC
def mbbaba_fees_bounds : St → St := mask [true, true, true, false, false, false, false, false, false, false, false, false, false, false, false, false, false, false, false, false, false] [true, true, true, true, true, true, true, true, true, true, true, true, true, true, true, true, true, true, true, true, true]
def st_hbbaba_fees_bounds (p2 : Int) (b0 : List V) (b1 : List V) : St := ⟨[(V.ptr 0 0), (V.ptr 1 0), (V.sc (.int .i64 p2)), .junk, .junk, .junk, .junk, .junk, .junk, .junk, .junk, .junk, .junk, .junk, .junk, .junk, .junk, .junk, .junk, .junk, .junk], [(.live true b0), (.live true b1), .gone, .gone, .gone, .gone, .gone, .gone, .gone, .gone, .gone, .gone, .gone, .gone, .gone, .gone, .gone, .gone, .gone, .gone, .gone]⟩
def st_x0_fees_bounds (b0 : List V) (b1 : List V) : St := ⟨[(V.ptr 0 0), (V.ptr 1 0), .junk, .junk, .junk, .junk, .junk, .junk, .junk, .junk, .junk, .junk, .junk, .junk, .junk, .junk, .junk, .junk, .junk, .junk, .junk], [(.live true b0), (.live true b1), .gone, .gone, .gone, .gone, .gone, .gone, .gone, .gone, .gone, .gone, .gone, .gone, .gone, .gone, .gone, .gone, .gone, .gone, .gone]⟩
def e_fees_bounds {β : Type} (L : Nat) (k_hbbaba : Int → List V → List V → Option β) : Option β :=
 lt ([(V.sc (.int .i64 (10 : Int)))] ++ List.replicate 23 (V.sc (.int .i64 (0 : Int)))) fun r0 =>
 k_hbbaba (1 : Int) (List.replicate 24 (V.sc (.int .i64 (0 : Int)))) r0
theorem e_fees_bounds_ok {β : Type} (L : Nat) (k : V → Bor → Option β) : funC sh_fees_bounds (cb_fees_bounds L) L cf_fees_bounds [] [] k = e_fees_bounds L (fun p2 b0 b1 => loopM (runC sh_fees_bounds (cb_fees_bounds L) 0 L cbbabaa_fees_bounds) mbbaba_fees_bounds L (st_hbbaba_fees_bounds p2 b0 b1) (blockK 0 (seqK (runC sh_fees_bounds (cb_fees_bounds L) 0 L cbbb_fees_bounds) (finK 0 (CF.res cf_fees_bounds) k)))) := by kernel_rfl
def bbbaba_fees_bounds {β : Type} (L : Nat) (p2 : Int) (b0 : List V) (b1 : List V) (k_hbbaba : Int → List V → List V → Option β) (k_x0 : List V → List V → Option β) : Option β :=
 ifb (decide (p2 < (24 : Int))) (
 lt (IntKind.wrap .i64 ((p2 : Int) - (1 : Int))) fun x1 =>
 chk (0 ≤ x1 ∧ x1 < ((24 : Nat) : Int)) (
 cI .i64 b1 (0 + ((Int.toNat x1) * 1)) fun v2 =>
 lt (IntKind.wrap .i64 ((p2 : Int) - (1 : Int))) fun x3 =>
 chk (0 ≤ x3 ∧ x3 < ((24 : Nat) : Int)) (
 cI .i64 b1 (0 + ((Int.toNat x3) * 1)) fun v4 =>
 lt (IntKind.wrap .i64 (Int.tdiv v4 (2 : Int))) fun x5 =>
 lt (IntKind.wrap .i64 ((v2 : Int) + x5)) fun x6 =>
 chk (0 ≤ p2 ∧ p2 < ((24 : Nat) : Int)) (
 chk (1 = 1 ∧ (0 + ((Int.toNat p2) * 1)) + 1 ≤ (List.length b1)) (
 lt (setAt b1 (0 + ((Int.toNat p2) * 1)) [(V.sc (.int .i64 x6))]) fun r7 =>
 lt (IntKind.wrap .i64 ((p2 : Int) + (1 : Int))) fun x8 =>
 k_hbbaba x8 b0 r7))))) (
 k_x0 b0 b1)
theorem bbbaba_fees_bounds_ok {β : Type} (L : Nat) (p2 : Int) (b0 : List V) (b1 : List V) (X : St → Option β) (K : KT β) : runC sh_fees_bounds (cb_fees_bounds L) 0 L cbbabaa_fees_bounds (st_hbbaba_fees_bounds p2 b0 b1) (loopK mbbaba_fees_bounds X K) = bbbaba_fees_bounds L p2 b0 b1 (fun p2 b0 b1 => X (st_hbbaba_fees_bounds p2 b0 b1)) (fun b0 b1 => K (.exit 0) (st_x0_fees_bounds b0 b1)) := by kernel_rfl
def rbbabax0_fees_bounds {β : Type} (L : Nat) (b0 : List V) (b1 : List V) (k_fin : List V → Option β) : Option β :=
 chk (0 + 24 ≤ (List.length b1)) (
 chk ((List.length (List.take 24 b1)) = 24 ∧ 0 + 24 ≤ (List.length b0)) (
 lt (setAt b0 0 (List.take 24 b1)) fun r9 =>
 chk (0 = 0 ∧ (List.length r9) = 24) (
 k_fin r9)))
theorem rbbabax0_fees_bounds_ok {β : Type} (L : Nat) (b0 : List V) (b1 : List V) (k : V → Bor → Option β) : (blockK 0 (seqK (runC sh_fees_bounds (cb_fees_bounds L) 0 L cbbb_fees_bounds) (finK 0 (CF.res cf_fees_bounds) k))) (.exit 0) (st_x0_fees_bounds b0 b1) = rbbabax0_fees_bounds L b0 b1 (fun p0 => k (V.agg p0) []) := by kernel_rfl
def lbbaba_fees_bounds {β : Type} (L : Nat) (k_x0 : List V → List V → Option β) : Nat → Int → List V → List V → Option β
  | 0, _, _, _ => none
  | n + 1, p2, b0, b1 => bbbaba_fees_bounds L p2 b0 b1 (fun p2 b0 b1 => lbbaba_fees_bounds L k_x0 n p2 b0 b1) k_x0
theorem lbbaba_fees_bounds_ok {β : Type} (L : Nat) (K : KT β) : ∀ (n : Nat) (p2 : Int) (b0 : List V) (b1 : List V), loopM (runC sh_fees_bounds (cb_fees_bounds L) 0 L cbbabaa_fees_bounds) mbbaba_fees_bounds n (st_hbbaba_fees_bounds p2 b0 b1) K = lbbaba_fees_bounds L (fun b0 b1 => K (.exit 0) (st_x0_fees_bounds b0 b1)) n p2 b0 b1 := by
  intro n
  induction n with
  | zero => intros; rfl
  | succ n ih =>
    intro p2 b0 b1
    refine (bbbaba_fees_bounds_ok L p2 b0 b1 (fun σ => loopM (runC sh_fees_bounds (cb_fees_bounds L) 0 L cbbabaa_fees_bounds) mbbaba_fees_bounds n σ K) K).trans ?_
    simp only [ih]
    rfl
def R_fees_bounds {β : Type} (L : Nat) (k_fin : List V → Option β) : Option β :=
 e_fees_bounds L (fun p2 b0 b1 => lbbaba_fees_bounds L (fun b0 b1 => rbbabax0_fees_bounds L b0 b1 k_fin) L p2 b0 b1)
theorem R_fees_bounds_ok {β : Type} (L : Nat) (k : V → Bor → Option β) : funC sh_fees_bounds (cb_fees_bounds L) L cf_fees_bounds [] [] k = R_fees_bounds L (fun p0 => k (V.agg p0) []) := by
  refine (e_fees_bounds_ok L k).trans ?_
  unfold R_fees_bounds
  simp only [lbbaba_fees_bounds_ok, rbbabax0_fees_bounds_ok]
def F_fees_bounds (β : Type) (L : Nat) (k_fin : List V → Option β) : Option β := R_fees_bounds L k_fin
def d_fees_bounds (F_fees_bounds : ∀ (β : Type), Nat → (List V → Option β) → Option β) (L : Nat) (β : Type) (args : List V) (bor : Bor) (k : V → Bor → Option β) : Option β := match args, bor with
  | [], [] => F_fees_bounds β L (fun p0 => k (V.agg p0) [])
  | _, _ => none
theorem d_fees_bounds_ok (L : Nat) (β : Type) (args : List V) (bor : Bor) (k : V → Bor → Option β) (r : β) (h : d_fees_bounds F_fees_bounds L β args bor k = some r) : funC sh_fees_bounds (cb_fees_bounds L) L cf_fees_bounds args bor k = some r := by
  unfold d_fees_bounds at h
  split at h
  · exact (R_fees_bounds_ok L k).trans h
  · cases h
/-! fees_Bound : 220 -/
def cf_fees_Bound : CF := ⟨12, [.tmp 2],
 (.seq (.reg [⟨(some 2), false, none, .move (.const (.sc (.int .i64 0))) false⟩])
 (.seq (.seq (.reg [⟨(some 3), false, none, .move (.tmp 0) false⟩,
   ⟨(some 4), false, none, .bin .lss (.tmp 3) (.const (.sc (.int .i64 0)))⟩,
   ⟨(some 5), false, none, .move (.tmp 4) false⟩,
   ⟨(some 6), false, (some (5, false)), .move (.tmp 0) false⟩,
   ⟨(some 7), false, (some (5, false)), .bin .geq (.tmp 6) (.const (.sc (.int .i64 24)))⟩,
   ⟨(some 8), false, none, .pick (.tmp 5) (.const (.sc (.bool true))) (.tmp 7)⟩])
 (.cond (.tmp 8)
 (.seq (.reg [⟨(some 2), false, none, .move (.const (.sc (.int .i64 0))) false⟩])
 .ret)
 .skip))
 (.seq (.reg [⟨(some 9), false, none, .call 243 []⟩,
   ⟨(some 10), false, none, .move (.tmp 0) false⟩,
   ⟨(some 11), false, none, .indexA false 24 1 (.tmp 9) (.tmp 10)⟩,
   ⟨(some 2), false, none, .move (.tmp 11) false⟩])
 .ret)))⟩
def hint_fees_Bound : Hint := ⟨[], [], [none, none, none], []⟩
def sh_fees_Bound : Nat → Sh := shOf [(11, (.int .i64))]
def cb_fees_Bound (F_fees_bounds : ∀ (β : Type), Nat → (List V → Option β) → Option β) (L : Nat) : CBC := (addC 243 (d_fees_bounds F_fees_bounds L) noC)
def R_fees_Bound {β : Type} (F_fees_bounds : ∀ (β : Type), Nat → (List V → Option β) → Option β) (L : Nat) (p0 : Int) (k_fin : Int → Option β) : Option β :=
 ifb (decide (p0 < (0 : Int))) (
 k_fin (0 : Int)) (
 ifb (decide (p0 ≥ (24 : Int))) (
 k_fin (0 : Int)) (
 F_fees_bounds β L  (fun v0 =>
 chk (0 ≤ p0 ∧ p0 < ((24 : Nat) : Int)) (
 cI .i64 v0 ((Int.toNat p0) * 1) fun v1 =>
 k_fin v1))))
theorem R_fees_Bound_ok {β : Type} (F_fees_bounds : ∀ (β : Type), Nat → (List V → Option β) → Option β) (L : Nat) (p0 : Int) (k : V → Bor → Option β) : funC sh_fees_Bound (cb_fees_Bound F_fees_bounds L) L cf_fees_Bound [(V.sc (.int .i64 p0))] [] k = R_fees_Bound F_fees_bounds L p0 (fun p0 => k (V.sc (.int .i64 p0)) []) := by kernel_rfl
def F_fees_Bound (β : Type) (L : Nat) (p0 : Int) (k_fin : Int → Option β) : Option β := R_fees_Bound F_fees_bounds L p0 k_fin
def d_fees_Bound (F_fees_Bound : ∀ (β : Type), Nat → Int → (Int → Option β) → Option β) (L : Nat) (β : Type) (args : List V) (bor : Bor) (k : V → Bor → Option β) : Option β := match args, bor with
  | [a0], [] => aI .i64 a0 fun p0 => F_fees_Bound β L p0 (fun p0 => k (V.sc (.int .i64 p0)) [])
  | _, _ => none
theorem d_fees_Bound_ok (L : Nat) (β : Type) (args : List V) (bor : Bor) (k : V → Bor → Option β) (r : β) (h : d_fees_Bound F_fees_Bound L β args bor k = some r) : funC sh_fees_Bound (cb_fees_Bound F_fees_bounds L) L cf_fees_Bound args bor k = some r := by
  unfold d_fees_Bound at h
  split at h
  · have q := aI_inv h; clear h; obtain ⟨p0, rfl, h⟩ := q
    exact (R_fees_Bound_ok F_fees_bounds L p0 k).trans h
  · cases h
/-! fees_Class : 222 -/
def cbbabaa_fees_Class : CC := (.seq (.reg [⟨(some 8), false, none, .bin .lss (.tmp 7) (.const (.sc (.int .i64 24)))⟩])
 (.seq (.cond (.tmp 8)
 .skip
 (.seq (.mask [false, false, false, true, false, false, false, false, false, false, false, false, false, false, false, false, false] [true, true, true, true, false, false, true, true, true, true, true, true, true, true, true, true, true])
 (.exit 0)))
 (.seq (.block 1 (.seq (.reg [⟨(some 9), false, none, .move (.tmp 7) false⟩,
   ⟨(some 10), false, none, .indexA false 24 1 (.tmp 6) (.tmp 7)⟩,
   ⟨(some 4), false, none, .move (.tmp 9) false⟩,
   ⟨(some 5), false, none, .move (.tmp 10) false⟩])
 (.seq (.reg [⟨(some 11), false, none, .move (.tmp 5) false⟩,
   ⟨(some 12), false, none, .move (.tmp 0) false⟩,
   ⟨(some 13), false, none, .bin .leq (.tmp 11) (.tmp 12)⟩])
 (.cond (.tmp 13)
 (.reg [⟨(some 14), false, none, .move (.tmp 4) false⟩,
   ⟨(some 3), false, none, .move (.tmp 14) false⟩])
 .skip))))
 (.reg [⟨(some 15), false, none, .bin .add (.tmp 7) (.const (.sc (.int .i64 1)))⟩,
   ⟨(some 7), false, none, .move (.tmp 15) false⟩]))))
def cbbb_fees_Class : CC := (.seq (.reg [⟨(some 16), false, none, .move (.tmp 3) false⟩,
   ⟨(some 2), false, none, .move (.tmp 16) false⟩])
 .ret)
def cf_fees_Class : CF := ⟨17, [.tmp 2],
 (.seq (.reg [⟨(some 2), false, none, .move (.const (.sc (.int .i64 0))) false⟩])
 (.seq (.reg [⟨(some 3), false, none, .move (.const (.sc (.int .i64 (-1)))) false⟩])
 (.seq (.seq (.reg [⟨(some 6), false, none, .call 243 []⟩,
   ⟨(some 7), false, none, .move (.const (.sc (.int .i64 0))) false⟩])
 (.block 0 (.loop [true, false, false, true, false, false, true, true, false, false, false, false, false, false, false, false, false] [true, true, true, true, false, false, true, true, true, true, true, true, true, true, true, true, true]
 cbbabaa_fees_Class)))
 cbbb_fees_Class)))⟩
def hint_fees_Class : Hint := ⟨[], [], [none, some ([true, false, false, true, false, false, true, true, false, false, false, false, false, false, false, false, false], [true, true, true, true, false, false, true, true, true, true, true, true, true, true, true, true, true]), none, some ([false, false, false, true, false, false, false, false, false, false, false, false, false, false, false, false, false], [true, true, true, true, false, false, true, true, true, true, true, true, true, true, true, true, true]), none, none, none], []⟩
def sh_fees_Class : Nat → Sh := shOf [(10, (.int .i64))]
def cb_fees_Class (F_fees_bounds : ∀ (β : Type), Nat → (List V → Option β) → Option β) (L : Nat) : CBC := (addC 243 (d_fees_bounds F_fees_bounds L) noC)
def mbbaba_fees_Class : St → St := mask [true, false, false, true, false, false, true, true, false, false, false, false, false, false, false, false, false] [true, true, true, true, false, false, true, true, true, true, true, true, true, true, true, true, true]
def st_hbbaba_fees_Class (p0 : Int) (p3 : Int) (p6 : List V) (p7 : Int) : St := ⟨[(V.sc (.int .i64 p0)), .junk, .junk, (V.sc (.int .i64 p3)), .junk, .junk, (V.agg p6), (V.sc (.int .i64 p7)), .junk, .junk, .junk, .junk, .junk, .junk, .junk, .junk, .junk], [.gone, .gone, .gone, .gone, .gone, .gone, .gone, .gone, .gone, .gone, .gone, .gone, .gone, .gone, .gone, .gone, .gone]⟩
def st_x0_fees_Class (p3 : Int) : St := ⟨[.junk, .junk, .junk, (V.sc (.int .i64 p3)), .junk, .junk, .junk, .junk, .junk, .junk, .junk, .junk, .junk, .junk, .junk, .junk, .junk], [.gone, .gone, .gone, .gone, .gone, .gone, .gone, .gone, .gone, .gone, .gone, .gone, .gone, .gone, .gone, .gone, .gone]⟩
def e_fees_Class {β : Type} (F_fees_bounds : ∀ (β : Type), Nat → (List V → Option β) → Option β) (L : Nat) (p0 : Int) (k_hbbaba : Int → Int → List V → Int → Option β) : Option β :=
 F_fees_bounds β L  (fun v0 =>
 k_hbbaba p0 (-1 : Int) v0 (0 : Int))
theorem e_fees_Class_ok {β : Type} (F_fees_bounds : ∀ (β : Type), Nat → (List V → Option β) → Option β) (L : Nat) (p0 : Int) (k : V → Bor → Option β) : funC sh_fees_Class (cb_fees_Class F_fees_bounds L) L cf_fees_Class [(V.sc (.int .i64 p0))] [] k = e_fees_Class F_fees_bounds L p0 (fun p0 p3 p6 p7 => loopM (runC sh_fees_Class (cb_fees_Class F_fees_bounds L) 0 L cbbabaa_fees_Class) mbbaba_fees_Class L (st_hbbaba_fees_Class p0 p3 p6 p7) (blockK 0 (seqK (runC sh_fees_Class (cb_fees_Class F_fees_bounds L) 0 L cbbb_fees_Class) (finK 0 (CF.res cf_fees_Class) k)))) := by kernel_rfl
def bbbaba_fees_Class {β : Type} (F_fees_bounds : ∀ (β : Type), Nat → (List V → Option β) → Option β) (L : Nat) (p0 : Int) (p3 : Int) (p6 : List V) (p7 : Int) (k_hbbaba : Int → Int → List V → Int → Option β) (k_x0 : Int → Option β) : Option β :=
 ifb (decide (p7 < (24 : Int))) (
 chk (0 ≤ p7 ∧ p7 < ((24 : Nat) : Int)) (
 cI .i64 p6 ((Int.toNat p7) * 1) fun v1 =>
 ifb (decide (v1 ≤ p0)) (
 lt (IntKind.wrap .i64 ((p7 : Int) + (1 : Int))) fun x2 =>
 k_hbbaba p0 p7 p6 x2) (
 lt (IntKind.wrap .i64 ((p7 : Int) + (1 : Int))) fun x3 =>
 k_hbbaba p0 p3 p6 x3))) (
 k_x0 p3)
theorem bbbaba_fees_Class_ok {β : Type} (F_fees_bounds : ∀ (β : Type), Nat → (List V → Option β) → Option β) (L : Nat) (p0 : Int) (p3 : Int) (p6 : List V) (p7 : Int) (X : St → Option β) (K : KT β) : runC sh_fees_Class (cb_fees_Class F_fees_bounds L) 0 L cbbabaa_fees_Class (st_hbbaba_fees_Class p0 p3 p6 p7) (loopK mbbaba_fees_Class X K) = bbbaba_fees_Class F_fees_bounds L p0 p3 p6 p7 (fun p0 p3 p6 p7 => X (st_hbbaba_fees_Class p0 p3 p6 p7)) (fun p3 => K (.exit 0) (st_x0_fees_Class p3)) := by kernel_rfl
def rbbabax0_fees_Class {β : Type} (F_fees_bounds : ∀ (β : Type), Nat → (List V → Option β) → Option β) (L : Nat) (p3 : Int) (k_fin : Int → Option β) : Option β :=
 k_fin p3
theorem rbbabax0_fees_Class_ok {β : Type} (F_fees_bounds : ∀ (β : Type), Nat → (List V → Option β) → Option β) (L : Nat) (p3 : Int) (k : V → Bor → Option β) : (blockK 0 (seqK (runC sh_fees_Class (cb_fees_Class F_fees_bounds L) 0 L cbbb_fees_Class) (finK 0 (CF.res cf_fees_Class) k))) (.exit 0) (st_x0_fees_Class p3) = rbbabax0_fees_Class F_fees_bounds L p3 (fun p0 => k (V.sc (.int .i64 p0)) []) := by kernel_rfl
def lbbaba_fees_Class {β : Type} (F_fees_bounds : ∀ (β : Type), Nat → (List V → Option β) → Option β) (L : Nat) (k_x0 : Int → Option β) : Nat → Int → Int → List V → Int → Option β
  | 0, _, _, _, _ => none
  | n + 1, p0, p3, p6, p7 => bbbaba_fees_Class F_fees_bounds L p0 p3 p6 p7 (fun p0 p3 p6 p7 => lbbaba_fees_Class F_fees_bounds L k_x0 n p0 p3 p6 p7) k_x0
theorem lbbaba_fees_Class_ok {β : Type} (F_fees_bounds : ∀ (β : Type), Nat → (List V → Option β) → Option β) (L : Nat) (K : KT β) : ∀ (n : Nat) (p0 : Int) (p3 : Int) (p6 : List V) (p7 : Int), loopM (runC sh_fees_Class (cb_fees_Class F_fees_bounds L) 0 L cbbabaa_fees_Class) mbbaba_fees_Class n (st_hbbaba_fees_Class p0 p3 p6 p7) K = lbbaba_fees_Class F_fees_bounds L (fun p3 => K (.exit 0) (st_x0_fees_Class p3)) n p0 p3 p6 p7 := by
  intro n
  induction n with
  | zero => intros; rfl
  | succ n ih =>
    intro p0 p3 p6 p7
    refine (bbbaba_fees_Class_ok F_fees_bounds L p0 p3 p6 p7 (fun σ => loopM (runC sh_fees_Class (cb_fees_Class F_fees_bounds L) 0 L cbbabaa_fees_Class) mbbaba_fees_Class n σ K) K).trans ?_
    simp only [ih]
    rfl
def R_fees_Class {β : Type} (F_fees_bounds : ∀ (β : Type), Nat → (List V → Option β) → Option β) (L : Nat) (p0 : Int) (k_fin : Int → Option β) : Option β :=
 e_fees_Class F_fees_bounds L p0 (fun p0 p3 p6 p7 => lbbaba_fees_Class F_fees_bounds L (fun p3 => rbbabax0_fees_Class F_fees_bounds L p3 k_fin) L p0 p3 p6 p7)
theorem R_fees_Class_ok {β : Type} (F_fees_bounds : ∀ (β : Type), Nat → (List V → Option β) → Option β) (L : Nat) (p0 : Int) (k : V → Bor → Option β) : funC sh_fees_Class (cb_fees_Class F_fees_bounds L) L cf_fees_Class [(V.sc (.int .i64 p0))] [] k = R_fees_Class F_fees_bounds L p0 (fun p0 => k (V.sc (.int .i64 p0)) []) := by
  refine (e_fees_Class_ok F_fees_bounds L p0 k).trans ?_
  unfold R_fees_Class
  simp only [lbbaba_fees_Class_ok, rbbabax0_fees_Class_ok]
def F_fees_Class (β : Type) (L : Nat) (p0 : Int) (k_fin : Int → Option β) : Option β := R_fees_Class F_fees_bounds L p0 k_fin
def d_fees_Class (F_fees_Class : ∀ (β : Type), Nat → Int → (Int → Option β) → Option β) (L : Nat) (β : Type) (args : List V) (bor : Bor) (k : V → Bor → Option β) : Option β := match args, bor with
  | [a0], [] => aI .i64 a0 fun p0 => F_fees_Class β L p0 (fun p0 => k (V.sc (.int .i64 p0)) [])
  | _, _ => none
theorem d_fees_Class_ok (L : Nat) (β : Type) (args : List V) (bor : Bor) (k : V → Bor → Option β) (r : β) (h : d_fees_Class F_fees_Class L β args bor k = some r) : funC sh_fees_Class (cb_fees_Class F_fees_bounds L) L cf_fees_Class args bor k = some r := by
  unfold d_fees_Class at h
  split at h
  · have q := aI_inv h; clear h; obtain ⟨p0, rfl, h⟩ := q
    exact (R_fees_Class_ok F_fees_bounds L p0 k).trans h
  · cases h
/-! fees_Rate : 218 -/
def cf_fees_Rate : CF := ⟨24, [.tmp 4],
 (.seq (.reg [⟨(some 4), false, none, .move (.const (.sc (.int .i64 0))) false⟩])
 (.seq (.seq (.reg [⟨(some 5), false, none, .move (.tmp 0) false⟩,
   ⟨(some 6), false, none, .bin .lss (.tmp 5) (.const (.sc (.int .i64 0)))⟩,
   ⟨(some 7), false, none, .move (.tmp 6) false⟩,
   ⟨(some 8), false, (some (7, false)), .move (.tmp 0) false⟩,
   ⟨(some 9), false, (some (7, false)), .bin .gtr (.tmp 8) (.const (.sc (.int .i64 2100000000000000)))⟩,
   ⟨(some 10), false, none, .pick (.tmp 7) (.const (.sc (.bool true))) (.tmp 9)⟩,
   ⟨(some 11), false, none, .move (.tmp 10) false⟩,
   ⟨(some 12), false, (some (11, false)), .move (.tmp 1) false⟩,
   ⟨(some 13), false, (some (11, false)), .bin .lss (.tmp 12) (.const (.sc (.int .i64 1)))⟩,
   ⟨(some 14), false, none, .pick (.tmp 11) (.const (.sc (.bool true))) (.tmp 13)⟩,
   ⟨(some 15), false, none, .move (.tmp 14) false⟩,
   ⟨(some 16), false, (some (15, false)), .move (.tmp 1) false⟩,
   ⟨(some 17), false, (some (15, false)), .bin .gtr (.tmp 16) (.const (.sc (.int .i64 80000)))⟩,
   ⟨(some 18), false, none, .pick (.tmp 15) (.const (.sc (.bool true))) (.tmp 17)⟩])
 (.cond (.tmp 18)
 (.seq (.reg [⟨(some 4), false, none, .move (.const (.sc (.int .i64 0))) false⟩])
 .ret)
 .skip))
 (.seq (.reg [⟨(some 19), false, none, .move (.tmp 0) false⟩,
   ⟨(some 20), false, none, .bin .mul (.const (.sc (.int .i64 1000))) (.tmp 19)⟩,
   ⟨(some 21), false, none, .move (.tmp 1) false⟩,
   ⟨(some 22), false, none, .bin .quo (.tmp 20) (.tmp 21)⟩,
   ⟨(some 23), false, none, .mm false (.tmp 22) (.const (.sc (.int .i64 1048576)))⟩,
   ⟨(some 4), false, none, .move (.tmp 23) false⟩])
 .ret)))⟩
def hint_fees_Rate : Hint := ⟨[], [], [none, none, none], []⟩
def sh_fees_Rate : Nat → Sh := shOf []
def cb_fees_Rate (L : Nat) : CBC := noC
def R_fees_Rate {β : Type} (L : Nat) (p0 : Int) (p1 : Int) (k_fin : Int → Option β) : Option β :=
 ifb (decide (p0 < (0 : Int))) (
 k_fin (0 : Int)) (
 ifb (decide (p0 > (2100000000000000 : Int))) (
 k_fin (0 : Int)) (
 ifb (decide (p1 < (1 : Int))) (
 k_fin (0 : Int)) (
 ifb (decide (p1 > (80000 : Int))) (
 k_fin (0 : Int)) (
 lt (IntKind.wrap .i64 (((1000 : Int) : Int) * p0)) fun x0 =>
 chk (p1 ≠ 0) (
 lt (IntKind.wrap .i64 (Int.tdiv x0 p1)) fun x1 =>
 lt (imin x1 (1048576 : Int)) fun x2 =>
 k_fin x2)))))
theorem R_fees_Rate_ok {β : Type} (L : Nat) (p0 : Int) (p1 : Int) (k : V → Bor → Option β) : funC sh_fees_Rate (cb_fees_Rate L) L cf_fees_Rate [(V.sc (.int .i64 p0)), (V.sc (.int .i64 p1))] [] k = R_fees_Rate L p0 p1 (fun p0 => k (V.sc (.int .i64 p0)) []) := by kernel_rfl
def F_fees_Rate (β : Type) (L : Nat) (p0 : Int) (p1 : Int) (k_fin : Int → Option β) : Option β := R_fees_Rate L p0 p1 k_fin
def d_fees_Rate (F_fees_Rate : ∀ (β : Type), Nat → Int → Int → (Int → Option β) → Option β) (L : Nat) (β : Type) (args : List V) (bor : Bor) (k : V → Bor → Option β) : Option β := match args, bor with
  | [a0, a1], [] => aI .i64 a0 fun p0 => aI .i64 a1 fun p1 => F_fees_Rate β L p0 p1 (fun p0 => k (V.sc (.int .i64 p0)) [])
  | _, _ => none
theorem d_fees_Rate_ok (L : Nat) (β : Type) (args : List V) (bor : Bor) (k : V → Bor → Option β) (r : β) (h : d_fees_Rate F_fees_Rate L β args bor k = some r) : funC sh_fees_Rate (cb_fees_Rate L) L cf_fees_Rate args bor k = some r := by
  unfold d_fees_Rate at h
  split at h
  · have q := aI_inv h; clear h; obtain ⟨p0, rfl, h⟩ := q
    have q := aI_inv h; clear h; obtain ⟨p1, rfl, h⟩ := q
    exact (R_fees_Rate_ok L p0 p1 k).trans h
  · cases h
/-! law33_sane : 216 -/
def cf_law33_sane : CF := ⟨19, [.tmp 0],
 (.seq (.reg [⟨(some 0), false, none, .move (.const (.sc (.bool false))) false⟩])
 (.seq (.reg [⟨(some 1), false, none, .call 220 [((.const (.sc (.int .i64 0))), false)]⟩,
   ⟨(some 2), false, none, .bin .eql (.tmp 1) (.const (.sc (.int .i64 10)))⟩,
   ⟨(some 3), false, none, .move (.tmp 2) false⟩,
   ⟨(some 4), false, (some (3, true)), .call 220 [((.const (.sc (.int .i64 3))), false)]⟩,
   ⟨(some 5), false, (some (3, true)), .bin .eql (.tmp 4) (.const (.sc (.int .i64 33)))⟩,
   ⟨(some 6), false, none, .pick (.tmp 3) (.tmp 5) (.const (.sc (.bool false)))⟩,
   ⟨(some 7), false, none, .move (.tmp 6) false⟩,
   ⟨(some 8), false, (some (7, true)), .call 222 [((.const (.sc (.int .i64 21))), false)]⟩,
   ⟨(some 9), false, (some (7, true)), .bin .eql (.tmp 8) (.const (.sc (.int .i64 1)))⟩,
   ⟨(some 10), false, none, .pick (.tmp 7) (.tmp 9) (.const (.sc (.bool false)))⟩,
   ⟨(some 11), false, none, .move (.tmp 10) false⟩,
   ⟨(some 12), false, (some (11, true)), .call 222 [((.const (.sc (.int .i64 9))), false)]⟩,
   ⟨(some 13), false, (some (11, true)), .bin .eql (.tmp 12) (.const (.sc (.int .i64 (-1))))⟩,
   ⟨(some 14), false, none, .pick (.tmp 11) (.tmp 13) (.const (.sc (.bool false)))⟩,
   ⟨(some 15), false, none, .move (.tmp 14) false⟩,
   ⟨(some 16), false, (some (15, true)), .call 218 [((.const (.sc (.int .i64 5))), false), ((.const (.sc (.int .i64 1000))), false)]⟩,
   ⟨(some 17), false, (some (15, true)), .bin .eql (.tmp 16) (.const (.sc (.int .i64 5)))⟩,
   ⟨(some 18), false, none, .pick (.tmp 15) (.tmp 17) (.const (.sc (.bool false)))⟩,
   ⟨(some 0), false, none, .move (.tmp 18) false⟩])
 .ret))⟩
def hint_law33_sane : Hint := ⟨[], [], [none], []⟩
def sh_law33_sane : Nat → Sh := shOf []
def cb_law33_sane (F_fees_Bound : ∀ (β : Type), Nat → Int → (Int → Option β) → Option β) (F_fees_Class : ∀ (β : Type), Nat → Int → (Int → Option β) → Option β) (F_fees_Rate : ∀ (β : Type), Nat → Int → Int → (Int → Option β) → Option β) (L : Nat) : CBC := (addC 218 (d_fees_Rate F_fees_Rate L) (addC 222 (d_fees_Class F_fees_Class L) (addC 220 (d_fees_Bound F_fees_Bound L) noC)))
def R_law33_sane {β : Type} (F_fees_Bound : ∀ (β : Type), Nat → Int → (Int → Option β) → Option β) (F_fees_Class : ∀ (β : Type), Nat → Int → (Int → Option β) → Option β) (F_fees_Rate : ∀ (β : Type), Nat → Int → Int → (Int → Option β) → Option β) (L : Nat) (k_fin : Bool → Option β) : Option β :=
 F_fees_Bound β L (0 : Int) (fun v0 =>
 ifb ((v0 : Int) == (10 : Int)) (
 F_fees_Bound β L (3 : Int) (fun v1 =>
 ifb ((v1 : Int) == (33 : Int)) (
 F_fees_Class β L (21 : Int) (fun v2 =>
 ifb ((v2 : Int) == (1 : Int)) (
 F_fees_Class β L (9 : Int) (fun v3 =>
 ifb ((v3 : Int) == (-1 : Int)) (
 F_fees_Rate β L (5 : Int) (1000 : Int) (fun v4 =>
 k_fin ((v4 : Int) == (5 : Int)))) (
 k_fin false))) (
 k_fin false))) (
 k_fin false))) (
 k_fin false))
theorem R_law33_sane_ok {β : Type} (F_fees_Bound : ∀ (β : Type), Nat → Int → (Int → Option β) → Option β) (F_fees_Class : ∀ (β : Type), Nat → Int → (Int → Option β) → Option β) (F_fees_Rate : ∀ (β : Type), Nat → Int → Int → (Int → Option β) → Option β) (L : Nat) (k : V → Bor → Option β) : funC sh_law33_sane (cb_law33_sane F_fees_Bound F_fees_Class F_fees_Rate L) L cf_law33_sane [] [] k = R_law33_sane F_fees_Bound F_fees_Class F_fees_Rate L (fun p0 => k (V.sc (.bool p0)) []) := by kernel_rfl
def F_law33_sane (β : Type) (L : Nat) (k_fin : Bool → Option β) : Option β := R_law33_sane F_fees_Bound F_fees_Class F_fees_Rate L k_fin
def d_law33_sane (F_law33_sane : ∀ (β : Type), Nat → (Bool → Option β) → Option β) (L : Nat) (β : Type) (args : List V) (bor : Bor) (k : V → Bor → Option β) : Option β := match args, bor with
  | [], [] => F_law33_sane β L (fun p0 => k (V.sc (.bool p0)) [])
  | _, _ => none
theorem d_law33_sane_ok (L : Nat) (β : Type) (args : List V) (bor : Bor) (k : V → Bor → Option β) (r : β) (h : d_law33_sane F_law33_sane L β args bor k = some r) : funC sh_law33_sane (cb_law33_sane F_fees_Bound F_fees_Class F_fees_Rate L) L cf_law33_sane args bor k = some r := by
  unfold d_law33_sane at h
  split at h
  · exact (R_law33_sane_ok F_fees_Bound F_fees_Class F_fees_Rate L k).trans h
  · cases h
/-! mill_Mod : 217 -/
def cf_mill_Mod : CF := ⟨15, [.tmp 4],
 (.seq (.reg [⟨(some 4), false, none, .move (.const (.sc (.int .i64 0))) false⟩])
 (.seq (.reg [⟨(some 6), false, none, .move (.tmp 0) false⟩,
   ⟨(some 7), false, none, .move (.tmp 1) false⟩,
   ⟨(some 8), false, none, .bin .rem (.tmp 6) (.tmp 7)⟩,
   ⟨(some 5), false, none, .move (.tmp 8) false⟩])
 (.seq (.seq (.reg [⟨(some 9), false, none, .move (.tmp 5) false⟩,
   ⟨(some 10), false, none, .bin .lss (.tmp 9) (.const (.sc (.int .i64 0)))⟩])
 (.cond (.tmp 10)
 (.reg [⟨(some 11), false, none, .move (.tmp 5) false⟩,
   ⟨(some 12), false, none, .move (.tmp 1) false⟩,
   ⟨(some 13), false, none, .bin .add (.tmp 11) (.tmp 12)⟩,
   ⟨(some 5), false, none, .move (.tmp 13) false⟩])
 .skip))
 (.seq (.reg [⟨(some 14), false, none, .move (.tmp 5) false⟩,
   ⟨(some 4), false, none, .move (.tmp 14) false⟩])
 .ret))))⟩
def hint_mill_Mod : Hint := ⟨[], [], [none, none], []⟩
def sh_mill_Mod : Nat → Sh := shOf []
def cb_mill_Mod (L : Nat) : CBC := noC
def R_mill_Mod {β : Type} (L : Nat) (p0 : Int) (p1 : Int) (k_fin : Int → Option β) : Option β :=
 chk (p1 ≠ 0) (
 lt (Int.tmod p0 p1) fun x0 =>
 ifb (decide (x0 < (0 : Int))) (
 lt (IntKind.wrap .i64 ((x0 : Int) + p1)) fun x1 =>
 k_fin x1) (
 k_fin x0))
theorem R_mill_Mod_ok {β : Type} (L : Nat) (p0 : Int) (p1 : Int) (k : V → Bor → Option β) : funC sh_mill_Mod (cb_mill_Mod L) L cf_mill_Mod [(V.sc (.int .i64 p0)), (V.sc (.int .i64 p1))] [] k = R_mill_Mod L p0 p1 (fun p0 => k (V.sc (.int .i64 p0)) []) := by kernel_rfl
def F_mill_Mod (β : Type) (L : Nat) (p0 : Int) (p1 : Int) (k_fin : Int → Option β) : Option β := R_mill_Mod L p0 p1 k_fin
def d_mill_Mod (F_mill_Mod : ∀ (β : Type), Nat → Int → Int → (Int → Option β) → Option β) (L : Nat) (β : Type) (args : List V) (bor : Bor) (k : V → Bor → Option β) : Option β := match args, bor with
  | [a0, a1], [] => aI .i64 a0 fun p0 => aI .i64 a1 fun p1 => F_mill_Mod β L p0 p1 (fun p0 => k (V.sc (.int .i64 p0)) [])
  | _, _ => none
theorem d_mill_Mod_ok (L : Nat) (β : Type) (args : List V) (bor : Bor) (k : V → Bor → Option β) (r : β) (h : d_mill_Mod F_mill_Mod L β args bor k = some r) : funC sh_mill_Mod (cb_mill_Mod L) L cf_mill_Mod args bor k = some r := by
  unfold d_mill_Mod at h
  split at h
  · have q := aI_inv h; clear h; obtain ⟨p0, rfl, h⟩ := q
    have q := aI_inv h; clear h; obtain ⟨p1, rfl, h⟩ := q
    exact (R_mill_Mod_ok L p0 p1 k).trans h
  · cases h
/-! ref33_in : 242 -/
def cf_ref33_in : CF := ⟨15, [.tmp 6],
 (.seq (.reg [⟨(some 6), false, none, .move (.const (.sc (.bool false))) false⟩])
 (.seq (.reg [⟨(some 7), false, none, .move (.tmp 0) false⟩,
   ⟨(some 8), false, none, .move (.tmp 1) false⟩,
   ⟨(some 9), false, none, .bin .geq (.tmp 7) (.tmp 8)⟩,
   ⟨(some 10), false, none, .move (.tmp 9) false⟩,
   ⟨(some 11), false, (some (10, true)), .move (.tmp 0) false⟩,
   ⟨(some 12), false, (some (10, true)), .move (.tmp 2) false⟩,
   ⟨(some 13), false, (some (10, true)), .bin .leq (.tmp 11) (.tmp 12)⟩,
   ⟨(some 14), false, none, .pick (.tmp 10) (.tmp 13) (.const (.sc (.bool false)))⟩,
   ⟨(some 6), false, none, .move (.tmp 14) false⟩])
 .ret))⟩
def hint_ref33_in : Hint := ⟨[], [], [none], []⟩
def sh_ref33_in : Nat → Sh := shOf []
def cb_ref33_in (L : Nat) : CBC := noC
def R_ref33_in {β : Type} (L : Nat) (p0 : Int) (p1 : Int) (p2 : Int) (k_fin : Bool → Option β) : Option β :=
 ifb (decide (p0 ≥ p1)) (
 k_fin (decide (p0 ≤ p2))) (
 k_fin false)
theorem R_ref33_in_ok {β : Type} (L : Nat) (p0 : Int) (p1 : Int) (p2 : Int) (k : V → Bor → Option β) : funC sh_ref33_in (cb_ref33_in L) L cf_ref33_in [(V.sc (.int .i64 p0)), (V.sc (.int .i64 p1)), (V.sc (.int .i64 p2))] [] k = R_ref33_in L p0 p1 p2 (fun p0 => k (V.sc (.bool p0)) []) := by kernel_rfl
def F_ref33_in (β : Type) (L : Nat) (p0 : Int) (p1 : Int) (p2 : Int) (k_fin : Bool → Option β) : Option β := R_ref33_in L p0 p1 p2 k_fin
def d_ref33_in (F_ref33_in : ∀ (β : Type), Nat → Int → Int → Int → (Bool → Option β) → Option β) (L : Nat) (β : Type) (args : List V) (bor : Bor) (k : V → Bor → Option β) : Option β := match args, bor with
  | [a0, a1, a2], [] => aI .i64 a0 fun p0 => aI .i64 a1 fun p1 => aI .i64 a2 fun p2 => F_ref33_in β L p0 p1 p2 (fun p0 => k (V.sc (.bool p0)) [])
  | _, _ => none
theorem d_ref33_in_ok (L : Nat) (β : Type) (args : List V) (bor : Bor) (k : V → Bor → Option β) (r : β) (h : d_ref33_in F_ref33_in L β args bor k = some r) : funC sh_ref33_in (cb_ref33_in L) L cf_ref33_in args bor k = some r := by
  unfold d_ref33_in at h
  split at h
  · have q := aI_inv h; clear h; obtain ⟨p0, rfl, h⟩ := q
    have q := aI_inv h; clear h; obtain ⟨p1, rfl, h⟩ := q
    have q := aI_inv h; clear h; obtain ⟨p2, rfl, h⟩ := q
    exact (R_ref33_in_ok L p0 p1 p2 k).trans h
  · cases h
/-! ref33_Rate : 219 -/
def cf_ref33_Rate : CF := ⟨21, [.tmp 4],
 (.seq (.reg [⟨(some 4), false, none, .move (.const (.sc (.int .i64 0))) false⟩])
 (.seq (.seq (.reg [⟨(some 5), false, none, .move (.tmp 0) false⟩,
   ⟨(some 6), false, none, .bin .lss (.tmp 5) (.const (.sc (.int .i64 0)))⟩,
   ⟨(some 7), false, none, .move (.tmp 6) false⟩,
   ⟨(some 8), false, (some (7, false)), .move (.tmp 0) false⟩,
   ⟨(some 9), false, (some (7, false)), .bin .gtr (.tmp 8) (.const (.sc (.int .i64 2100000000000000)))⟩,
   ⟨(some 10), false, none, .pick (.tmp 7) (.const (.sc (.bool true))) (.tmp 9)⟩,
   ⟨(some 11), false, none, .move (.tmp 10) false⟩,
   ⟨(some 12), false, (some (11, false)), .move (.tmp 1) false⟩,
   ⟨(some 13), false, (some (11, false)), .call 242 [((.tmp 12), false), ((.const (.sc (.int .i64 1))), false), ((.const (.sc (.int .i64 80000))), false)]⟩,
   ⟨(some 14), false, (some (11, false)), .un .not (.tmp 13)⟩,
   ⟨(some 15), false, none, .pick (.tmp 11) (.const (.sc (.bool true))) (.tmp 14)⟩])
 (.cond (.tmp 15)
 (.seq (.reg [⟨(some 4), false, none, .move (.const (.sc (.int .i64 0))) false⟩])
 .ret)
 .skip))
 (.seq (.reg [⟨(some 16), false, none, .move (.tmp 0) false⟩,
   ⟨(some 17), false, none, .bin .mul (.const (.sc (.int .i64 1000))) (.tmp 16)⟩,
   ⟨(some 18), false, none, .move (.tmp 1) false⟩,
   ⟨(some 19), false, none, .bin .quo (.tmp 17) (.tmp 18)⟩,
   ⟨(some 20), false, none, .mm false (.tmp 19) (.const (.sc (.int .i64 1048576)))⟩,
   ⟨(some 4), false, none, .move (.tmp 20) false⟩])
 .ret)))⟩
def hint_ref33_Rate : Hint := ⟨[], [], [none, none, none], []⟩
def sh_ref33_Rate : Nat → Sh := shOf []
def cb_ref33_Rate (F_ref33_in : ∀ (β : Type), Nat → Int → Int → Int → (Bool → Option β) → Option β) (L : Nat) : CBC := (addC 242 (d_ref33_in F_ref33_in L) noC)
def R_ref33_Rate {β : Type} (F_ref33_in : ∀ (β : Type), Nat → Int → Int → Int → (Bool → Option β) → Option β) (L : Nat) (p0 : Int) (p1 : Int) (k_fin : Int → Option β) : Option β :=
 ifb (decide (p0 < (0 : Int))) (
 k_fin (0 : Int)) (
 ifb (decide (p0 > (2100000000000000 : Int))) (
 k_fin (0 : Int)) (
 F_ref33_in β L p1 (1 : Int) (80000 : Int) (fun v0 =>
 ifb (!v0) (
 k_fin (0 : Int)) (
 lt (IntKind.wrap .i64 (((1000 : Int) : Int) * p0)) fun x1 =>
 chk (p1 ≠ 0) (
 lt (IntKind.wrap .i64 (Int.tdiv x1 p1)) fun x2 =>
 lt (imin x2 (1048576 : Int)) fun x3 =>
 k_fin x3)))))
theorem R_ref33_Rate_ok {β : Type} (F_ref33_in : ∀ (β : Type), Nat → Int → Int → Int → (Bool → Option β) → Option β) (L : Nat) (p0 : Int) (p1 : Int) (k : V → Bor → Option β) : funC sh_ref33_Rate (cb_ref33_Rate F_ref33_in L) L cf_ref33_Rate [(V.sc (.int .i64 p0)), (V.sc (.int .i64 p1))] [] k = R_ref33_Rate F_ref33_in L p0 p1 (fun p0 => k (V.sc (.int .i64 p0)) []) := by kernel_rfl
def F_ref33_Rate (β : Type) (L : Nat) (p0 : Int) (p1 : Int) (k_fin : Int → Option β) : Option β := R_ref33_Rate F_ref33_in L p0 p1 k_fin
def d_ref33_Rate (F_ref33_Rate : ∀ (β : Type), Nat → Int → Int → (Int → Option β) → Option β) (L : Nat) (β : Type) (args : List V) (bor : Bor) (k : V → Bor → Option β) : Option β := match args, bor with
  | [a0, a1], [] => aI .i64 a0 fun p0 => aI .i64 a1 fun p1 => F_ref33_Rate β L p0 p1 (fun p0 => k (V.sc (.int .i64 p0)) [])
  | _, _ => none
theorem d_ref33_Rate_ok (L : Nat) (β : Type) (args : List V) (bor : Bor) (k : V → Bor → Option β) (r : β) (h : d_ref33_Rate F_ref33_Rate L β args bor k = some r) : funC sh_ref33_Rate (cb_ref33_Rate F_ref33_in L) L cf_ref33_Rate args bor k = some r := by
  unfold d_ref33_Rate at h
  split at h
  · have q := aI_inv h; clear h; obtain ⟨p0, rfl, h⟩ := q
    have q := aI_inv h; clear h; obtain ⟨p1, rfl, h⟩ := q
    exact (R_ref33_Rate_ok F_ref33_in L p0 p1 k).trans h
  · cases h
/-! ref33_Bound : 221 -/
def cbbbabaa_ref33_Bound : CC := (.seq (.seq (.reg [⟨(some 8), false, none, .move (.tmp 4) false⟩,
   ⟨(some 9), false, none, .move (.tmp 0) false⟩,
   ⟨(some 10), false, none, .bin .lss (.tmp 8) (.tmp 9)⟩])
 (.cond (.tmp 10)
 .skip
 (.seq (.mask [false, false, false, true, false, false, false, false, false, false, false, false, false, false, false, false, false, false] [true, true, true, true, false, true, true, true, true, true, true, true, true, true, true, true, true, true])
 (.exit 0))))
 (.seq (.block 1 (.reg [⟨(some 13), false, none, .move (.tmp 3) false⟩,
   ⟨(some 14), false, none, .move (.tmp 3) false⟩,
   ⟨(some 15), false, none, .bin .quo (.tmp 14) (.const (.sc (.int .i64 2)))⟩,
   ⟨(some 16), false, none, .bin .add (.tmp 13) (.tmp 15)⟩,
   ⟨(some 3), false, none, .move (.tmp 16) false⟩]))
 (.reg [⟨(some 11), false, none, .move (.tmp 4) false⟩,
   ⟨(some 12), false, none, .bin .add (.tmp 11) (.const (.sc (.int .i64 1)))⟩,
   ⟨(some 4), false, none, .move (.tmp 12) false⟩])))
def cbbbb_ref33_Bound : CC := (.seq (.reg [⟨(some 17), false, none, .move (.tmp 3) false⟩,
   ⟨(some 2), false, none, .move (.tmp 17) false⟩])
 .ret)
def cf_ref33_Bound : CF := ⟨18, [.tmp 2],
 (.seq (.reg [⟨(some 2), false, none, .move (.const (.sc (.int .i64 0))) false⟩])
 (.seq (.seq (.reg [⟨(some 5), false, none, .move (.tmp 0) false⟩,
   ⟨(some 6), false, none, .call 242 [((.tmp 5), false), ((.const (.sc (.int .i64 0))), false), ((.const (.sc (.int .i64 23))), false)]⟩,
   ⟨(some 7), false, none, .un .not (.tmp 6)⟩])
 (.cond (.tmp 7)
 (.seq (.reg [⟨(some 2), false, none, .move (.const (.sc (.int .i64 0))) false⟩])
 .ret)
 .skip))
 (.seq (.reg [⟨(some 3), false, none, .move (.const (.sc (.int .i64 10))) false⟩])
 (.seq (.seq (.reg [⟨(some 4), false, none, .move (.const (.sc (.int .i64 0))) false⟩])
 (.block 0 (.loop [true, false, false, true, true, false, false, false, false, false, false, false, false, false, false, false, false, false] [true, true, true, true, true, true, true, true, true, true, true, true, true, true, true, true, true, true]
 cbbbabaa_ref33_Bound)))
 cbbbb_ref33_Bound))))⟩
def hint_ref33_Bound : Hint := ⟨[], [], [none, none, none, some ([true, false, false, true, true, false, false, false, false, false, false, false, false, false, false, false, false, false], [true, true, true, true, true, true, true, true, true, true, true, true, true, true, true, true, true, true]), none, some ([false, false, false, true, false, false, false, false, false, false, false, false, false, false, false, false, false, false], [true, true, true, true, false, true, true, true, true, true, true, true, true, true, true, true, true, true]), none, none], []⟩
def sh_ref33_Bound : Nat → Sh := shOf []
def cb_ref33_Bound (F_ref33_in : ∀ (β : Type), Nat → Int → Int → Int → (Bool → Option β) → Option β) (L : Nat) : CBC := (addC 242 (d_ref33_in F_ref33_in L) noC)
def mbbbaba_ref33_Bound : St → St := mask [true, false, false, true, true, false, false, false, false, false, false, false, false, false, false, false, false, false] [true, true, true, true, true, true, true, true, true, true, true, true, true, true, true, true, true, true]
def st_hbbbaba_ref33_Bound (p0 : Int) (p3 : Int) (p4 : Int) : St := ⟨[(V.sc (.int .i64 p0)), .junk, .junk, (V.sc (.int .i64 p3)), (V.sc (.int .i64 p4)), .junk, .junk, .junk, .junk, .junk, .junk, .junk, .junk, .junk, .junk, .junk, .junk, .junk], [.gone, .gone, .gone, .gone, .gone, .gone, .gone, .gone, .gone, .gone, .gone, .gone, .gone, .gone, .gone, .gone, .gone, .gone]⟩
def st_x0_ref33_Bound (p3 : Int) : St := ⟨[.junk, .junk, .junk, (V.sc (.int .i64 p3)), .junk, .junk, .junk, .junk, .junk, .junk, .junk, .junk, .junk, .junk, .junk, .junk, .junk, .junk], [.gone, .gone, .gone, .gone, .gone, .gone, .gone, .gone, .gone, .gone, .gone, .gone, .gone, .gone, .gone, .gone, .gone, .gone]⟩
def e_ref33_Bound {β : Type} (F_ref33_in : ∀ (β : Type), Nat → Int → Int → Int → (Bool → Option β) → Option β) (L : Nat) (p0 : Int) (k_fin : Int → Option β) (k_hbbbaba : Int → Int → Int → Option β) : Option β :=
 F_ref33_in β L p0 (0 : Int) (23 : Int) (fun v0 =>
 ifb (!v0) (
 k_fin (0 : Int)) (
 k_hbbbaba p0 (10 : Int) (0 : Int)))
theorem e_ref33_Bound_ok {β : Type} (F_ref33_in : ∀ (β : Type), Nat → Int → Int → Int → (Bool → Option β) → Option β) (L : Nat) (p0 : Int) (k : V → Bor → Option β) : funC sh_ref33_Bound (cb_ref33_Bound F_ref33_in L) L cf_ref33_Bound [(V.sc (.int .i64 p0))] [] k = e_ref33_Bound F_ref33_in L p0 (fun p0 => k (V.sc (.int .i64 p0)) []) (fun p0 p3 p4 => loopM (runC sh_ref33_Bound (cb_ref33_Bound F_ref33_in L) 0 L cbbbabaa_ref33_Bound) mbbbaba_ref33_Bound L (st_hbbbaba_ref33_Bound p0 p3 p4) (blockK 0 (seqK (runC sh_ref33_Bound (cb_ref33_Bound F_ref33_in L) 0 L cbbbb_ref33_Bound) (finK 0 (CF.res cf_ref33_Bound) k)))) := by kernel_rfl
def bbbbaba_ref33_Bound {β : Type} (F_ref33_in : ∀ (β : Type), Nat → Int → Int → Int → (Bool → Option β) → Option β) (L : Nat) (p0 : Int) (p3 : Int) (p4 : Int) (k_hbbbaba : Int → Int → Int → Option β) (k_x0 : Int → Option β) : Option β :=
 ifb (decide (p4 < p0)) (
 lt (IntKind.wrap .i64 (Int.tdiv p3 (2 : Int))) fun x1 =>
 lt (IntKind.wrap .i64 ((p3 : Int) + x1)) fun x2 =>
 lt (IntKind.wrap .i64 ((p4 : Int) + (1 : Int))) fun x3 =>
 k_hbbbaba p0 x2 x3) (
 k_x0 p3)
theorem bbbbaba_ref33_Bound_ok {β : Type} (F_ref33_in : ∀ (β : Type), Nat → Int → Int → Int → (Bool → Option β) → Option β) (L : Nat) (p0 : Int) (p3 : Int) (p4 : Int) (X : St → Option β) (K : KT β) : runC sh_ref33_Bound (cb_ref33_Bound F_ref33_in L) 0 L cbbbabaa_ref33_Bound (st_hbbbaba_ref33_Bound p0 p3 p4) (loopK mbbbaba_ref33_Bound X K) = bbbbaba_ref33_Bound F_ref33_in L p0 p3 p4 (fun p0 p3 p4 => X (st_hbbbaba_ref33_Bound p0 p3 p4)) (fun p3 => K (.exit 0) (st_x0_ref33_Bound p3)) := by kernel_rfl
def rbbbabax0_ref33_Bound {β : Type} (F_ref33_in : ∀ (β : Type), Nat → Int → Int → Int → (Bool → Option β) → Option β) (L : Nat) (p3 : Int) (k_fin : Int → Option β) : Option β :=
 k_fin p3
theorem rbbbabax0_ref33_Bound_ok {β : Type} (F_ref33_in : ∀ (β : Type), Nat → Int → Int → Int → (Bool → Option β) → Option β) (L : Nat) (p3 : Int) (k : V → Bor → Option β) : (blockK 0 (seqK (runC sh_ref33_Bound (cb_ref33_Bound F_ref33_in L) 0 L cbbbb_ref33_Bound) (finK 0 (CF.res cf_ref33_Bound) k))) (.exit 0) (st_x0_ref33_Bound p3) = rbbbabax0_ref33_Bound F_ref33_in L p3 (fun p0 => k (V.sc (.int .i64 p0)) []) := by kernel_rfl
def lbbbaba_ref33_Bound {β : Type} (F_ref33_in : ∀ (β : Type), Nat → Int → Int → Int → (Bool → Option β) → Option β) (L : Nat) (k_x0 : Int → Option β) : Nat → Int → Int → Int → Option β
  | 0, _, _, _ => none
  | n + 1, p0, p3, p4 => bbbbaba_ref33_Bound F_ref33_in L p0 p3 p4 (fun p0 p3 p4 => lbbbaba_ref33_Bound F_ref33_in L k_x0 n p0 p3 p4) k_x0
theorem lbbbaba_ref33_Bound_ok {β : Type} (F_ref33_in : ∀ (β : Type), Nat → Int → Int → Int → (Bool → Option β) → Option β) (L : Nat) (K : KT β) : ∀ (n : Nat) (p0 : Int) (p3 : Int) (p4 : Int), loopM (runC sh_ref33_Bound (cb_ref33_Bound F_ref33_in L) 0 L cbbbabaa_ref33_Bound) mbbbaba_ref33_Bound n (st_hbbbaba_ref33_Bound p0 p3 p4) K = lbbbaba_ref33_Bound F_ref33_in L (fun p3 => K (.exit 0) (st_x0_ref33_Bound p3)) n p0 p3 p4 := by
  intro n
  induction n with
  | zero => intros; rfl
  | succ n ih =>
    intro p0 p3 p4
    refine (bbbbaba_ref33_Bound_ok F_ref33_in L p0 p3 p4 (fun σ => loopM (runC sh_ref33_Bound (cb_ref33_Bound F_ref33_in L) 0 L cbbbabaa_ref33_Bound) mbbbaba_ref33_Bound n σ K) K).trans ?_
    simp only [ih]
    rfl
def R_ref33_Bound {β : Type} (F_ref33_in : ∀ (β : Type), Nat → Int → Int → Int → (Bool → Option β) → Option β) (L : Nat) (p0 : Int) (k_fin : Int → Option β) : Option β :=
 e_ref33_Bound F_ref33_in L p0 k_fin (fun p0 p3 p4 => lbbbaba_ref33_Bound F_ref33_in L (fun p3 => rbbbabax0_ref33_Bound F_ref33_in L p3 k_fin) L p0 p3 p4)
theorem R_ref33_Bound_ok {β : Type} (F_ref33_in : ∀ (β : Type), Nat → Int → Int → Int → (Bool → Option β) → Option β) (L : Nat) (p0 : Int) (k : V → Bor → Option β) : funC sh_ref33_Bound (cb_ref33_Bound F_ref33_in L) L cf_ref33_Bound [(V.sc (.int .i64 p0))] [] k = R_ref33_Bound F_ref33_in L p0 (fun p0 => k (V.sc (.int .i64 p0)) []) := by
  refine (e_ref33_Bound_ok F_ref33_in L p0 k).trans ?_
  unfold R_ref33_Bound
  simp only [lbbbaba_ref33_Bound_ok, rbbbabax0_ref33_Bound_ok]
def F_ref33_Bound (β : Type) (L : Nat) (p0 : Int) (k_fin : Int → Option β) : Option β := R_ref33_Bound F_ref33_in L p0 k_fin
def d_ref33_Bound (F_ref33_Bound : ∀ (β : Type), Nat → Int → (Int → Option β) → Option β) (L : Nat) (β : Type) (args : List V) (bor : Bor) (k : V → Bor → Option β) : Option β := match args, bor with
  | [a0], [] => aI .i64 a0 fun p0 => F_ref33_Bound β L p0 (fun p0 => k (V.sc (.int .i64 p0)) [])
  | _, _ => none
theorem d_ref33_Bound_ok (L : Nat) (β : Type) (args : List V) (bor : Bor) (k : V → Bor → Option β) (r : β) (h : d_ref33_Bound F_ref33_Bound L β args bor k = some r) : funC sh_ref33_Bound (cb_ref33_Bound F_ref33_in L) L cf_ref33_Bound args bor k = some r := by
  unfold d_ref33_Bound at h
  split at h
  · have q := aI_inv h; clear h; obtain ⟨p0, rfl, h⟩ := q
    exact (R_ref33_Bound_ok F_ref33_in L p0 k).trans h
  · cases h
/-! ref33_Class : 223 -/
def cbbabaa_ref33_Class : CC := (.seq (.seq (.reg [⟨(some 5), false, none, .move (.tmp 4) false⟩,
   ⟨(some 6), false, none, .bin .lss (.tmp 5) (.const (.sc (.int .i64 24)))⟩])
 (.cond (.tmp 6)
 .skip
 (.seq (.mask [false, false, false, true, false, false, false, false, false, false, false, false, false, false, false] [true, true, true, true, false, true, true, true, true, true, false, true, true, true, true])
 (.exit 0))))
 (.seq (.block 1 (.seq (.reg [⟨(some 9), false, none, .move (.tmp 4) false⟩,
   ⟨(some 10), false, none, .call 221 [((.tmp 9), false)]⟩,
   ⟨(some 11), false, none, .move (.tmp 0) false⟩,
   ⟨(some 12), false, none, .bin .leq (.tmp 10) (.tmp 11)⟩])
 (.cond (.tmp 12)
 (.reg [⟨(some 13), false, none, .move (.tmp 4) false⟩,
   ⟨(some 3), false, none, .move (.tmp 13) false⟩])
 .skip)))
 (.reg [⟨(some 7), false, none, .move (.tmp 4) false⟩,
   ⟨(some 8), false, none, .bin .add (.tmp 7) (.const (.sc (.int .i64 1)))⟩,
   ⟨(some 4), false, none, .move (.tmp 8) false⟩])))
def cbbb_ref33_Class : CC := (.seq (.reg [⟨(some 14), false, none, .move (.tmp 3) false⟩,
   ⟨(some 2), false, none, .move (.tmp 14) false⟩])
 .ret)
def cf_ref33_Class : CF := ⟨15, [.tmp 2],
 (.seq (.reg [⟨(some 2), false, none, .move (.const (.sc (.int .i64 0))) false⟩])
 (.seq (.reg [⟨(some 3), false, none, .move (.const (.sc (.int .i64 (-1)))) false⟩])
 (.seq (.seq (.reg [⟨(some 4), false, none, .move (.const (.sc (.int .i64 0))) false⟩])
 (.block 0 (.loop [true, false, false, true, true, false, false, false, false, false, false, false, false, false, false] [true, true, true, true, true, true, true, true, true, true, false, true, true, true, true]
 cbbabaa_ref33_Class)))
 cbbb_ref33_Class)))⟩
def hint_ref33_Class : Hint := ⟨[], [], [none, some ([true, false, false, true, true, false, false, false, false, false, false, false, false, false, false], [true, true, true, true, true, true, true, true, true, true, false, true, true, true, true]), none, some ([false, false, false, true, false, false, false, false, false, false, false, false, false, false, false], [true, true, true, true, false, true, true, true, true, true, false, true, true, true, true]), none, none, none], []⟩
def sh_ref33_Class : Nat → Sh := shOf []
def cb_ref33_Class (F_ref33_Bound : ∀ (β : Type), Nat → Int → (Int → Option β) → Option β) (L : Nat) : CBC := (addC 221 (d_ref33_Bound F_ref33_Bound L) noC)
def mbbaba_ref33_Class : St → St := mask [true, false, false, true, true, false, false, false, false, false, false, false, false, false, false] [true, true, true, true, true, true, true, true, true, true, false, true, true, true, true]
def st_hbbaba_ref33_Class (p0 : Int) (p3 : Int) (p4 : Int) : St := ⟨[(V.sc (.int .i64 p0)), .junk, .junk, (V.sc (.int .i64 p3)), (V.sc (.int .i64 p4)), .junk, .junk, .junk, .junk, .junk, .junk, .junk, .junk, .junk, .junk], [.gone, .gone, .gone, .gone, .gone, .gone, .gone, .gone, .gone, .gone, .gone, .gone, .gone, .gone, .gone]⟩
def st_x0_ref33_Class (p3 : Int) : St := ⟨[.junk, .junk, .junk, (V.sc (.int .i64 p3)), .junk, .junk, .junk, .junk, .junk, .junk, .junk, .junk, .junk, .junk, .junk], [.gone, .gone, .gone, .gone, .gone, .gone, .gone, .gone, .gone, .gone, .gone, .gone, .gone, .gone, .gone]⟩
def e_ref33_Class {β : Type} (F_ref33_Bound : ∀ (β : Type), Nat → Int → (Int → Option β) → Option β) (L : Nat) (p0 : Int) (k_hbbaba : Int → Int → Int → Option β) : Option β :=
 k_hbbaba p0 (-1 : Int) (0 : Int)
theorem e_ref33_Class_ok {β : Type} (F_ref33_Bound : ∀ (β : Type), Nat → Int → (Int → Option β) → Option β) (L : Nat) (p0 : Int) (k : V → Bor → Option β) : funC sh_ref33_Class (cb_ref33_Class F_ref33_Bound L) L cf_ref33_Class [(V.sc (.int .i64 p0))] [] k = e_ref33_Class F_ref33_Bound L p0 (fun p0 p3 p4 => loopM (runC sh_ref33_Class (cb_ref33_Class F_ref33_Bound L) 0 L cbbabaa_ref33_Class) mbbaba_ref33_Class L (st_hbbaba_ref33_Class p0 p3 p4) (blockK 0 (seqK (runC sh_ref33_Class (cb_ref33_Class F_ref33_Bound L) 0 L cbbb_ref33_Class) (finK 0 (CF.res cf_ref33_Class) k)))) := by kernel_rfl
def bbbaba_ref33_Class {β : Type} (F_ref33_Bound : ∀ (β : Type), Nat → Int → (Int → Option β) → Option β) (L : Nat) (p0 : Int) (p3 : Int) (p4 : Int) (k_hbbaba : Int → Int → Int → Option β) (k_x0 : Int → Option β) : Option β :=
 ifb (decide (p4 < (24 : Int))) (
 F_ref33_Bound β L p4 (fun v0 =>
 ifb (decide (v0 ≤ p0)) (
 lt (IntKind.wrap .i64 ((p4 : Int) + (1 : Int))) fun x1 =>
 k_hbbaba p0 p4 x1) (
 lt (IntKind.wrap .i64 ((p4 : Int) + (1 : Int))) fun x2 =>
 k_hbbaba p0 p3 x2))) (
 k_x0 p3)
theorem bbbaba_ref33_Class_ok {β : Type} (F_ref33_Bound : ∀ (β : Type), Nat → Int → (Int → Option β) → Option β) (L : Nat) (p0 : Int) (p3 : Int) (p4 : Int) (X : St → Option β) (K : KT β) : runC sh_ref33_Class (cb_ref33_Class F_ref33_Bound L) 0 L cbbabaa_ref33_Class (st_hbbaba_ref33_Class p0 p3 p4) (loopK mbbaba_ref33_Class X K) = bbbaba_ref33_Class F_ref33_Bound L p0 p3 p4 (fun p0 p3 p4 => X (st_hbbaba_ref33_Class p0 p3 p4)) (fun p3 => K (.exit 0) (st_x0_ref33_Class p3)) := by kernel_rfl
def rbbabax0_ref33_Class {β : Type} (F_ref33_Bound : ∀ (β : Type), Nat → Int → (Int → Option β) → Option β) (L : Nat) (p3 : Int) (k_fin : Int → Option β) : Option β :=
 k_fin p3
theorem rbbabax0_ref33_Class_ok {β : Type} (F_ref33_Bound : ∀ (β : Type), Nat → Int → (Int → Option β) → Option β) (L : Nat) (p3 : Int) (k : V → Bor → Option β) : (blockK 0 (seqK (runC sh_ref33_Class (cb_ref33_Class F_ref33_Bound L) 0 L cbbb_ref33_Class) (finK 0 (CF.res cf_ref33_Class) k))) (.exit 0) (st_x0_ref33_Class p3) = rbbabax0_ref33_Class F_ref33_Bound L p3 (fun p0 => k (V.sc (.int .i64 p0)) []) := by kernel_rfl
def lbbaba_ref33_Class {β : Type} (F_ref33_Bound : ∀ (β : Type), Nat → Int → (Int → Option β) → Option β) (L : Nat) (k_x0 : Int → Option β) : Nat → Int → Int → Int → Option β
  | 0, _, _, _ => none
  | n + 1, p0, p3, p4 => bbbaba_ref33_Class F_ref33_Bound L p0 p3 p4 (fun p0 p3 p4 => lbbaba_ref33_Class F_ref33_Bound L k_x0 n p0 p3 p4) k_x0
theorem lbbaba_ref33_Class_ok {β : Type} (F_ref33_Bound : ∀ (β : Type), Nat → Int → (Int → Option β) → Option β) (L : Nat) (K : KT β) : ∀ (n : Nat) (p0 : Int) (p3 : Int) (p4 : Int), loopM (runC sh_ref33_Class (cb_ref33_Class F_ref33_Bound L) 0 L cbbabaa_ref33_Class) mbbaba_ref33_Class n (st_hbbaba_ref33_Class p0 p3 p4) K = lbbaba_ref33_Class F_ref33_Bound L (fun p3 => K (.exit 0) (st_x0_ref33_Class p3)) n p0 p3 p4 := by
  intro n
  induction n with
  | zero => intros; rfl
  | succ n ih =>
    intro p0 p3 p4
    refine (bbbaba_ref33_Class_ok F_ref33_Bound L p0 p3 p4 (fun σ => loopM (runC sh_ref33_Class (cb_ref33_Class F_ref33_Bound L) 0 L cbbabaa_ref33_Class) mbbaba_ref33_Class n σ K) K).trans ?_
    simp only [ih]
    rfl
def R_ref33_Class {β : Type} (F_ref33_Bound : ∀ (β : Type), Nat → Int → (Int → Option β) → Option β) (L : Nat) (p0 : Int) (k_fin : Int → Option β) : Option β :=
 e_ref33_Class F_ref33_Bound L p0 (fun p0 p3 p4 => lbbaba_ref33_Class F_ref33_Bound L (fun p3 => rbbabax0_ref33_Class F_ref33_Bound L p3 k_fin) L p0 p3 p4)
theorem R_ref33_Class_ok {β : Type} (F_ref33_Bound : ∀ (β : Type), Nat → Int → (Int → Option β) → Option β) (L : Nat) (p0 : Int) (k : V → Bor → Option β) : funC sh_ref33_Class (cb_ref33_Class F_ref33_Bound L) L cf_ref33_Class [(V.sc (.int .i64 p0))] [] k = R_ref33_Class F_ref33_Bound L p0 (fun p0 => k (V.sc (.int .i64 p0)) []) := by
  refine (e_ref33_Class_ok F_ref33_Bound L p0 k).trans ?_
  unfold R_ref33_Class
  simp only [lbbaba_ref33_Class_ok, rbbabax0_ref33_Class_ok]
def F_ref33_Class (β : Type) (L : Nat) (p0 : Int) (k_fin : Int → Option β) : Option β := R_ref33_Class F_ref33_Bound L p0 k_fin
def d_ref33_Class (F_ref33_Class : ∀ (β : Type), Nat → Int → (Int → Option β) → Option β) (L : Nat) (β : Type) (args : List V) (bor : Bor) (k : V → Bor → Option β) : Option β := match args, bor with
  | [a0], [] => aI .i64 a0 fun p0 => F_ref33_Class β L p0 (fun p0 => k (V.sc (.int .i64 p0)) [])
  | _, _ => none
theorem d_ref33_Class_ok (L : Nat) (β : Type) (args : List V) (bor : Bor) (k : V → Bor → Option β) (r : β) (h : d_ref33_Class F_ref33_Class L β args bor k = some r) : funC sh_ref33_Class (cb_ref33_Class F_ref33_Bound L) L cf_ref33_Class args bor k = some r := by
  unfold d_ref33_Class at h
  split at h
  · have q := aI_inv h; clear h; obtain ⟨p0, rfl, h⟩ := q
    exact (R_ref33_Class_ok F_ref33_Bound L p0 k).trans h
  · cases h
/-! law33_FeesClasses : 211 -/
def cbbbabaa_law33_FeesClasses : CC := (.seq (.reg [⟨(some 53), false, none, .bin .lss (.tmp 52) (.tmp 51)⟩])
 (.seq (.cond (.tmp 53)
 .skip
 (.seq (.mask [false, true, false, false, false, false, false, false, false, false, false, false, false, false, false, false, false, false, false, false, false, false, false, false, false, false, false, false, false, false, false, false, false, false, false, false, false, false, false, false, false, false, false, false, false, false, false, false, false, false, false, false, false, false, false, false, false, false, false, false, false, false, false, false, false, false, false, false, false, false, false, false, false, false, false, false, false, false, false, false, false, false, false, false, false, false, false, false, false, false, false, false, false, false, false, false] [true, true, true, true, true, true, true, true, false, true, true, true, false, true, true, true, true, true, true, true, true, true, true, true, true, true, true, true, true, true, true, true, true, true, true, true, true, true, true, true, true, true, true, true, true, true, true, true, true, true, true, true, true, true, true, true, true, false, true, false, true, true, true, false, false, true, false, false, true, true, true, true, false, true, false, true, false, true, false, true, true, true, true, true, true, true, true, true, true, true, true, true, true, true, true, true])
 (.exit 2)))
 (.seq (.block 3 (.seq (.reg [⟨(some 54), false, none, .indexAddrS 1 (.tmp 50) (.tmp 52)⟩,
   ⟨(some 55), false, none, .load false 1 (.tmp 54) false⟩,
   ⟨(some 12), false, none, .move (.tmp 55) false⟩])
 (.seq (.reg [⟨(some 56), false, none, .move (.tmp 12) false⟩,
   ⟨(some 57), false, none, .call 220 [((.tmp 56), false)]⟩,
   ⟨(some 58), false, none, .move (.tmp 12) false⟩,
   ⟨(some 59), false, none, .call 221 [((.tmp 58), false)]⟩,
   ⟨(some 60), false, none, .bin .neq (.tmp 57) (.tmp 59)⟩,
   ⟨(some 61), false, none, .move (.tmp 60) false⟩,
   ⟨(some 62), false, (some (61, false)), .move (.tmp 12) false⟩,
   ⟨(some 63), false, (some (61, false)), .call 221 [((.tmp 62), false)]⟩,
   ⟨(some 64), false, (some (61, false)), .call 222 [((.tmp 63), false)]⟩,
   ⟨(some 65), false, (some (61, false)), .move (.tmp 12) false⟩,
   ⟨(some 66), false, (some (61, false)), .call 221 [((.tmp 65), false)]⟩,
   ⟨(some 67), false, (some (61, false)), .call 223 [((.tmp 66), false)]⟩,
   ⟨(some 68), false, (some (61, false)), .bin .neq (.tmp 64) (.tmp 67)⟩,
   ⟨(some 69), false, none, .pick (.tmp 61) (.const (.sc (.bool true))) (.tmp 68)⟩,
   ⟨(some 70), false, none, .move (.tmp 69) false⟩,
   ⟨(some 71), false, (some (70, false)), .move (.tmp 12) false⟩,
   ⟨(some 72), false, (some (70, false)), .call 221 [((.tmp 71), false)]⟩,
   ⟨(some 73), false, (some (70, false)), .bin .sub (.tmp 72) (.const (.sc (.int .i64 1)))⟩,
   ⟨(some 74), false, (some (70, false)), .call 222 [((.tmp 73), false)]⟩,
   ⟨(some 75), false, (some (70, false)), .move (.tmp 12) false⟩,
   ⟨(some 76), false, (some (70, false)), .call 221 [((.tmp 75), false)]⟩,
   ⟨(some 77), false, (some (70, false)), .bin .sub (.tmp 76) (.const (.sc (.int .i64 1)))⟩,
   ⟨(some 78), false, (some (70, false)), .call 223 [((.tmp 77), false)]⟩,
   ⟨(some 79), false, (some (70, false)), .bin .neq (.tmp 74) (.tmp 78)⟩,
   ⟨(some 80), false, none, .pick (.tmp 70) (.const (.sc (.bool true))) (.tmp 79)⟩])
 (.cond (.tmp 80)
 (.seq (.reg [⟨(some 8), false, none, .move (.const (.sc (.bool false))) false⟩])
 (.seq (.mask [false, false, false, false, false, false, false, false, true, false, false, false, false, false, false, false, false, false, false, false, false, false, false, false, false, false, false, false, false, false, false, false, false, false, false, false, false, false, false, false, false, false, false, false, false, false, false, false, false, false, false, false, false, false, false, false, false, false, false, false, false, false, false, false, false, false, false, false, false, false, false, false, false, false, false, false, false, false, false, false, false, false, false, false, false, false, false, false, false, false, false, false, false, false, false, false] [true, true, true, true, true, true, true, true, true, true, true, true, false, true, true, true, true, true, true, true, true, true, true, true, true, true, true, true, true, true, true, true, true, true, true, true, true, true, true, true, true, true, true, true, true, true, true, true, true, true, true, true, true, true, true, true, true, false, true, false, true, true, true, false, false, true, false, false, true, true, true, true, false, true, false, true, false, true, false, true, true, true, true, true, true, true, true, true, true, true, true, true, true, true, true, true])
 .ret))
 .skip))))
 (.reg [⟨(some 81), false, none, .bin .add (.tmp 52) (.const (.sc (.int .i64 1)))⟩,
   ⟨(some 52), false, none, .move (.tmp 81) false⟩]))))
def cbbabaa_law33_FeesClasses : CC := (.seq (.reg [⟨(some 24), false, none, .bin .lss (.tmp 23) (.tmp 22)⟩])
 (.seq (.cond (.tmp 24)
 .skip
 (.seq (.mask [true, true, false, false, false, false, false, false, false, false, false, false, false, false, false, false, false, false, false, false, false, false, false, false, false, false, false, false, false, false, false, false, false, false, false, false, false, false, false, false, false, false, false, false, false, false, false, false, false, false, false, false, false, false, false, false, false, false, false, false, false, false, false, false, false, false, false, false, false, false, false, false, false, false, false, false, false, false, false, false, false, false, false, false, false, false, false, false, false, false, false, false, false, false, false, false] [true, true, true, true, true, true, true, true, false, true, false, true, true, true, true, true, true, true, true, true, true, true, true, true, true, true, true, true, true, false, true, true, false, true, true, true, false, true, false, true, false, true, false, true, true, true, true, true, true, true, true, true, true, true, true, true, true, true, true, true, true, true, true, true, true, true, true, true, true, true, true, true, true, true, true, true, true, true, true, true, true, true, true, true, true, true, true, true, true, true, true, true, true, true, true, true])
 (.exit 0)))
 (.seq (.block 1 (.seq (.reg [⟨(some 25), false, none, .indexAddrS 1 (.tmp 21) (.tmp 23)⟩,
   ⟨(some 26), false, none, .load false 1 (.tmp 25) false⟩,
   ⟨(some 10), false, none, .move (.tmp 26) false⟩])
 (.seq (.reg [⟨(some 27), false, none, .move (.tmp 2) false⟩,
   ⟨(some 28), false, none, .move (.tmp 10) false⟩,
   ⟨(some 29), false, none, .call 218 [((.tmp 27), false), ((.tmp 28), false)]⟩,
   ⟨(some 30), false, none, .move (.tmp 2) false⟩,
   ⟨(some 31), false, none, .move (.tmp 10) false⟩,
   ⟨(some 32), false, none, .call 219 [((.tmp 30), false), ((.tmp 31), false)]⟩,
   ⟨(some 33), false, none, .bin .neq (.tmp 29) (.tmp 32)⟩,
   ⟨(some 34), false, none, .move (.tmp 33) false⟩,
   ⟨(some 35), false, (some (34, false)), .move (.tmp 1) false⟩,
   ⟨(some 36), false, (some (34, false)), .call 217 [((.tmp 35), false), ((.const (.sc (.int .i64 100000))), false)]⟩,
   ⟨(some 37), false, (some (34, false)), .move (.tmp 10) false⟩,
   ⟨(some 38), false, (some (34, false)), .call 218 [((.tmp 36), false), ((.tmp 37), false)]⟩,
   ⟨(some 39), false, (some (34, false)), .move (.tmp 1) false⟩,
   ⟨(some 40), false, (some (34, false)), .call 217 [((.tmp 39), false), ((.const (.sc (.int .i64 100000))), false)]⟩,
   ⟨(some 41), false, (some (34, false)), .move (.tmp 10) false⟩,
   ⟨(some 42), false, (some (34, false)), .call 219 [((.tmp 40), false), ((.tmp 41), false)]⟩,
   ⟨(some 43), false, (some (34, false)), .bin .neq (.tmp 38) (.tmp 42)⟩,
   ⟨(some 44), false, none, .pick (.tmp 34) (.const (.sc (.bool true))) (.tmp 43)⟩])
 (.cond (.tmp 44)
 (.seq (.reg [⟨(some 8), false, none, .move (.const (.sc (.bool false))) false⟩])
 (.seq (.mask [false, false, false, false, false, false, false, false, true, false, false, false, false, false, false, false, false, false, false, false, false, false, false, false, false, false, false, false, false, false, false, false, false, false, false, false, false, false, false, false, false, false, false, false, false, false, false, false, false, false, false, false, false, false, false, false, false, false, false, false, false, false, false, false, false, false, false, false, false, false, false, false, false, false, false, false, false, false, false, false, false, false, false, false, false, false, false, false, false, false, false, false, false, false, false, false] [true, true, true, true, true, true, true, true, true, true, false, true, true, true, true, true, true, true, true, true, true, true, true, true, true, true, true, true, true, false, true, true, false, true, true, true, false, true, false, true, false, true, false, true, true, true, true, true, true, true, true, true, true, true, true, true, true, true, true, true, true, true, true, true, true, true, true, true, true, true, true, true, true, true, true, true, true, true, true, true, true, true, true, true, true, true, true, true, true, true, true, true, true, true, true, true])
 .ret))
 .skip))))
 (.reg [⟨(some 45), false, none, .bin .add (.tmp 23) (.const (.sc (.int .i64 1)))⟩,
   ⟨(some 23), false, none, .move (.tmp 45) false⟩]))))
def cbbbb_law33_FeesClasses : CC := (.seq (.reg [⟨(some 82), false, none, .move (.tmp 1) false⟩,
   ⟨(some 83), false, none, .call 222 [((.tmp 82), false)]⟩,
   ⟨(some 84), false, none, .move (.tmp 1) false⟩,
   ⟨(some 85), false, none, .call 223 [((.tmp 84), false)]⟩,
   ⟨(some 86), false, none, .bin .eql (.tmp 83) (.tmp 85)⟩,
   ⟨(some 87), false, none, .move (.tmp 86) false⟩,
   ⟨(some 88), false, (some (87, true)), .move (.tmp 1) false⟩,
   ⟨(some 89), false, (some (87, true)), .call 217 [((.tmp 88), false), ((.const (.sc (.int .i64 200000))), false)]⟩,
   ⟨(some 90), false, (some (87, true)), .call 222 [((.tmp 89), false)]⟩,
   ⟨(some 91), false, (some (87, true)), .move (.tmp 1) false⟩,
   ⟨(some 92), false, (some (87, true)), .call 217 [((.tmp 91), false), ((.const (.sc (.int .i64 200000))), false)]⟩,
   ⟨(some 93), false, (some (87, true)), .call 223 [((.tmp 92), false)]⟩,
   ⟨(some 94), false, (some (87, true)), .bin .eql (.tmp 90) (.tmp 93)⟩,
   ⟨(some 95), false, none, .pick (.tmp 87) (.tmp 94) (.const (.sc (.bool false)))⟩,
   ⟨(some 8), false, none, .move (.tmp 95) false⟩])
 .ret)
def cbbb_law33_FeesClasses : CC := (.seq (.seq (.reg [⟨(some 46), false, none, .move (.tmp 0) false⟩,
   ⟨(some 47), false, none, .move (.tmp 0) false⟩,
   ⟨(some 48), false, none, .call 217 [((.tmp 47), false), ((.const (.sc (.int .i64 26))), false)]⟩,
   ⟨(some 49), false, none, .bin .sub (.tmp 48) (.const (.sc (.int .i64 1)))⟩,
   ⟨(some 50), false, none, .buildSlice 1 2 [(.sc (.int .i64 0))] [(0, 1, (.tmp 46)), (1, 1, (.tmp 49))]⟩,
   ⟨(some 51), false, none, .lenS (.tmp 50)⟩,
   ⟨(some 52), false, none, .move (.const (.sc (.int .i64 0))) false⟩])
 (.block 2 (.loop [false, true, false, false, false, false, false, false, false, false, false, false, false, false, false, false, false, false, false, false, false, false, false, false, false, false, false, false, false, false, false, false, false, false, false, false, false, false, false, false, false, false, false, false, false, false, false, false, false, false, true, true, true, false, false, false, false, false, false, false, false, false, false, false, false, false, false, false, false, false, false, false, false, false, false, false, false, false, false, false, false, false, false, false, false, false, false, false, false, false, false, false, false, false, false, false] [true, true, true, true, true, true, true, true, false, true, true, true, false, true, true, true, true, true, true, true, true, true, true, true, true, true, true, true, true, true, true, true, true, true, true, true, true, true, true, true, true, true, true, true, true, true, true, true, true, true, true, true, true, true, true, true, true, false, true, false, true, true, true, false, false, true, false, false, true, true, true, true, false, true, false, true, false, true, false, true, true, true, true, true, true, true, true, true, true, true, true, true, true, true, true, true]
 cbbbabaa_law33_FeesClasses)))
 cbbbb_law33_FeesClasses)
def cf_law33_FeesClasses : CF := ⟨96, [.tmp 8],
 (.seq (.reg [⟨(some 8), false, none, .move (.const (.sc (.bool false))) false⟩])
 (.seq (.seq (.reg [⟨(some 13), false, none, .call 216 []⟩,
   ⟨(some 14), false, none, .un .not (.tmp 13)⟩])
 (.cond (.tmp 14)
 (.seq (.reg [⟨(some 8), false, none, .move (.const (.sc (.bool false))) false⟩])
 .ret)
 .skip))
 (.seq (.seq (.reg [⟨(some 15), false, none, .move (.tmp 3) false⟩,
   ⟨(some 16), false, none, .move (.tmp 3) false⟩,
   ⟨(some 17), false, none, .call 217 [((.tmp 16), false), ((.const (.sc (.int .i64 5000))), false)]⟩,
   ⟨(some 18), false, none, .move (.tmp 3) false⟩,
   ⟨(some 19), false, none, .call 217 [((.tmp 18), false), ((.const (.sc (.int .i64 2))), false)]⟩,
   ⟨(some 20), false, none, .bin .add (.const (.sc (.int .i64 80000))) (.tmp 19)⟩,
   ⟨(some 21), false, none, .buildSlice 1 3 [(.sc (.int .i64 0))] [(0, 1, (.tmp 15)), (1, 1, (.tmp 17)), (2, 1, (.tmp 20))]⟩,
   ⟨(some 22), false, none, .lenS (.tmp 21)⟩,
   ⟨(some 23), false, none, .move (.const (.sc (.int .i64 0))) false⟩])
 (.block 0 (.loop [true, true, true, false, false, false, false, false, false, false, false, false, false, false, false, false, false, false, false, false, false, true, true, true, false, false, false, false, false, false, false, false, false, false, false, false, false, false, false, false, false, false, false, false, false, false, false, false, false, false, false, false, false, false, false, false, false, false, false, false, false, false, false, false, false, false, false, false, false, false, false, false, false, false, false, false, false, false, false, false, false, false, false, false, false, false, false, false, false, false, false, false, false, false, false, false] [true, true, true, true, true, true, true, true, false, true, false, true, true, true, true, true, true, true, true, true, true, true, true, true, true, true, true, true, true, false, true, true, false, true, true, true, false, true, false, true, false, true, false, true, true, true, true, true, true, true, true, true, true, true, true, true, true, true, true, true, true, true, true, true, true, true, true, true, true, true, true, true, true, true, true, true, true, true, true, true, true, true, true, true, true, true, true, true, true, true, true, true, true, true, true, true]
 cbbabaa_law33_FeesClasses)))
 cbbb_law33_FeesClasses)))⟩
def hint_law33_FeesClasses : Hint := ⟨[], [], [none, none, none, some ([true, true, true, false, false, false, false, false, false, false, false, false, false, false, false, false, false, false, false, false, false, true, true, true, false, false, false, false, false, false, false, false, false, false, false, false, false, false, false, false, false, false, false, false, false, false, false, false, false, false, false, false, false, false, false, false, false, false, false, false, false, false, false, false, false, false, false, false, false, false, false, false, false, false, false, false, false, false, false, false, false, false, false, false, false, false, false, false, false, false, false, false, false, false, false, false], [true, true, true, true, true, true, true, true, false, true, false, true, true, true, true, true, true, true, true, true, true, true, true, true, true, true, true, true, true, false, true, true, false, true, true, true, false, true, false, true, false, true, false, true, true, true, true, true, true, true, true, true, true, true, true, true, true, true, true, true, true, true, true, true, true, true, true, true, true, true, true, true, true, true, true, true, true, true, true, true, true, true, true, true, true, true, true, true, true, true, true, true, true, true, true, true]), none, some ([true, true, false, false, false, false, false, false, false, false, false, false, false, false, false, false, false, false, false, false, false, false, false, false, false, false, false, false, false, false, false, false, false, false, false, false, false, false, false, false, false, false, false, false, false, false, false, false, false, false, false, false, false, false, false, false, false, false, false, false, false, false, false, false, false, false, false, false, false, false, false, false, false, false, false, false, false, false, false, false, false, false, false, false, false, false, false, false, false, false, false, false, false, false, false, false], [true, true, true, true, true, true, true, true, false, true, false, true, true, true, true, true, true, true, true, true, true, true, true, true, true, true, true, true, true, false, true, true, false, true, true, true, false, true, false, true, false, true, false, true, true, true, true, true, true, true, true, true, true, true, true, true, true, true, true, true, true, true, true, true, true, true, true, true, true, true, true, true, true, true, true, true, true, true, true, true, true, true, true, true, true, true, true, true, true, true, true, true, true, true, true, true]), none, none, some ([false, false, false, false, false, false, false, false, true, false, false, false, false, false, false, false, false, false, false, false, false, false, false, false, false, false, false, false, false, false, false, false, false, false, false, false, false, false, false, false, false, false, false, false, false, false, false, false, false, false, false, false, false, false, false, false, false, false, false, false, false, false, false, false, false, false, false, false, false, false, false, false, false, false, false, false, false, false, false, false, false, false, false, false, false, false, false, false, false, false, false, false, false, false, false, false], [true, true, true, true, true, true, true, true, true, true, false, true, true, true, true, true, true, true, true, true, true, true, true, true, true, true, true, true, true, false, true, true, false, true, true, true, false, true, false, true, false, true, false, true, true, true, true, true, true, true, true, true, true, true, true, true, true, true, true, true, true, true, true, true, true, true, true, true, true, true, true, true, true, true, true, true, true, true, true, true, true, true, true, true, true, true, true, true, true, true, true, true, true, true, true, true]), none, some ([false, true, false, false, false, false, false, false, false, false, false, false, false, false, false, false, false, false, false, false, false, false, false, false, false, false, false, false, false, false, false, false, false, false, false, false, false, false, false, false, false, false, false, false, false, false, false, false, false, false, true, true, true, false, false, false, false, false, false, false, false, false, false, false, false, false, false, false, false, false, false, false, false, false, false, false, false, false, false, false, false, false, false, false, false, false, false, false, false, false, false, false, false, false, false, false], [true, true, true, true, true, true, true, true, false, true, true, true, false, true, true, true, true, true, true, true, true, true, true, true, true, true, true, true, true, true, true, true, true, true, true, true, true, true, true, true, true, true, true, true, true, true, true, true, true, true, true, true, true, true, true, true, true, false, true, false, true, true, true, false, false, true, false, false, true, true, true, true, false, true, false, true, false, true, false, true, true, true, true, true, true, true, true, true, true, true, true, true, true, true, true, true]), none, some ([false, true, false, false, false, false, false, false, false, false, false, false, false, false, false, false, false, false, false, false, false, false, false, false, false, false, false, false, false, false, false, false, false, false, false, false, false, false, false, false, false, false, false, false, false, false, false, false, false, false, false, false, false, false, false, false, false, false, false, false, false, false, false, false, false, false, false, false, false, false, false, false, false, false, false, false, false, false, false, false, false, false, false, false, false, false, false, false, false, false, false, false, false, false, false, false], [true, true, true, true, true, true, true, true, false, true, true, true, false, true, true, true, true, true, true, true, true, true, true, true, true, true, true, true, true, true, true, true, true, true, true, true, true, true, true, true, true, true, true, true, true, true, true, true, true, true, true, true, true, true, true, true, true, false, true, false, true, true, true, false, false, true, false, false, true, true, true, true, false, true, false, true, false, true, false, true, true, true, true, true, true, true, true, true, true, true, true, true, true, true, true, true]), none, none, some ([false, false, false, false, false, false, false, false, true, false, false, false, false, false, false, false, false, false, false, false, false, false, false, false, false, false, false, false, false, false, false, false, false, false, false, false, false, false, false, false, false, false, false, false, false, false, false, false, false, false, false, false, false, false, false, false, false, false, false, false, false, false, false, false, false, false, false, false, false, false, false, false, false, false, false, false, false, false, false, false, false, false, false, false, false, false, false, false, false, false, false, false, false, false, false, false], [true, true, true, true, true, true, true, true, true, true, true, true, false, true, true, true, true, true, true, true, true, true, true, true, true, true, true, true, true, true, true, true, true, true, true, true, true, true, true, true, true, true, true, true, true, true, true, true, true, true, true, true, true, true, true, true, true, false, true, false, true, true, true, false, false, true, false, false, true, true, true, true, false, true, false, true, false, true, false, true, true, true, true, true, true, true, true, true, true, true, true, true, true, true, true, true]), none], []⟩
def sh_law33_FeesClasses : Nat → Sh := shOf [(26, (.int .i64)), (55, (.int .i64))]
def cb_law33_FeesClasses (F_law33_sane : ∀ (β : Type), Nat → (Bool → Option β) → Option β) (F_mill_Mod : ∀ (β : Type), Nat → Int → Int → (Int → Option β) → Option β) (F_fees_Rate : ∀ (β : Type), Nat → Int → Int → (Int → Option β) → Option β) (F_ref33_Rate : ∀ (β : Type), Nat → Int → Int → (Int → Option β) → Option β) (F_fees_Bound : ∀ (β : Type), Nat → Int → (Int → Option β) → Option β) (F_ref33_Bound : ∀ (β : Type), Nat → Int → (Int → Option β) → Option β) (F_fees_Class : ∀ (β : Type), Nat → Int → (Int → Option β) → Option β) (F_ref33_Class : ∀ (β : Type), Nat → Int → (Int → Option β) → Option β) (L : Nat) : CBC := (addC 223 (d_ref33_Class F_ref33_Class L) (addC 222 (d_fees_Class F_fees_Class L) (addC 221 (d_ref33_Bound F_ref33_Bound L) (addC 220 (d_fees_Bound F_fees_Bound L) (addC 219 (d_ref33_Rate F_ref33_Rate L) (addC 218 (d_fees_Rate F_fees_Rate L) (addC 217 (d_mill_Mod F_mill_Mod L) (addC 216 (d_law33_sane F_law33_sane L) noC))))))))
def mbbaba_law33_FeesClasses : St → St := mask [true, true, true, false, false, false, false, false, false, false, false, false, false, false, false, false, false, false, false, false, false, true, true, true, false, false, false, false, false, false, false, false, false, false, false, false, false, false, false, false, false, false, false, false, false, false, false, false, false, false, false, false, false, false, false, false, false, false, false, false, false, false, false, false, false, false, false, false, false, false, false, false, false, false, false, false, false, false, false, false, false, false, false, false, false, false, false, false, false, false, false, false, false, false, false, false] [true, true, true, true, true, true, true, true, false, true, false, true, true, true, true, true, true, true, true, true, true, true, true, true, true, true, true, true, true, false, true, true, false, true, true, true, false, true, false, true, false, true, false, true, true, true, true, true, true, true, true, true, true, true, true, true, true, true, true, true, true, true, true, true, true, true, true, true, true, true, true, true, true, true, true, true, true, true, true, true, true, true, true, true, true, true, true, true, true, true, true, true, true, true, true, true]
def mbbbaba_law33_FeesClasses : St → St := mask [false, true, false, false, false, false, false, false, false, false, false, false, false, false, false, false, false, false, false, false, false, false, false, false, false, false, false, false, false, false, false, false, false, false, false, false, false, false, false, false, false, false, false, false, false, false, false, false, false, false, true, true, true, false, false, false, false, false, false, false, false, false, false, false, false, false, false, false, false, false, false, false, false, false, false, false, false, false, false, false, false, false, false, false, false, false, false, false, false, false, false, false, false, false, false, false] [true, true, true, true, true, true, true, true, false, true, true, true, false, true, true, true, true, true, true, true, true, true, true, true, true, true, true, true, true, true, true, true, true, true, true, true, true, true, true, true, true, true, true, true, true, true, true, true, true, true, true, true, true, true, true, true, true, false, true, false, true, true, true, false, false, true, false, false, true, true, true, true, false, true, false, true, false, true, false, true, true, true, true, true, true, true, true, true, true, true, true, true, true, true, true, true]
def st_hbbaba_law33_FeesClasses (p0 : Int) (p1 : Int) (p2 : Int) (p21 : List (List V)) (p22 : Int) (p23 : Int) : St := ⟨[(V.sc (.int .i64 p0)), (V.sc (.int .i64 p1)), (V.sc (.int .i64 p2)), .junk, .junk, .junk, .junk, .junk, .junk, .junk, .junk, .junk, .junk, .junk, .junk, .junk, .junk, .junk, .junk, .junk, .junk, (V.gs 1 p21), (V.sc (.int .i64 p22)), (V.sc (.int .i64 p23)), .junk, .junk, .junk, .junk, .junk, .junk, .junk, .junk, .junk, .junk, .junk, .junk, .junk, .junk, .junk, .junk, .junk, .junk, .junk, .junk, .junk, .junk, .junk, .junk, .junk, .junk, .junk, .junk, .junk, .junk, .junk, .junk, .junk, .junk, .junk, .junk, .junk, .junk, .junk, .junk, .junk, .junk, .junk, .junk, .junk, .junk, .junk, .junk, .junk, .junk, .junk, .junk, .junk, .junk, .junk, .junk, .junk, .junk, .junk, .junk, .junk, .junk, .junk, .junk, .junk, .junk, .junk, .junk, .junk, .junk, .junk, .junk], [.gone, .gone, .gone, .gone, .gone, .gone, .gone, .gone, .gone, .gone, .gone, .gone, .gone, .gone, .gone, .gone, .gone, .gone, .gone, .gone, .gone, .gone, .gone, .gone, .gone, .gone, .gone, .gone, .gone, .gone, .gone, .gone, .gone, .gone, .gone, .gone, .gone, .gone, .gone, .gone, .gone, .gone, .gone, .gone, .gone, .gone, .gone, .gone, .gone, .gone, .gone, .gone, .gone, .gone, .gone, .gone, .gone, .gone, .gone, .gone, .gone, .gone, .gone, .gone, .gone, .gone, .gone, .gone, .gone, .gone, .gone, .gone, .gone, .gone, .gone, .gone, .gone, .gone, .gone, .gone, .gone, .gone, .gone, .gone, .gone, .gone, .gone, .gone, .gone, .gone, .gone, .gone, .gone, .gone, .gone, .gone]⟩
def st_ret_law33_FeesClasses (p8 : Bool) : St := ⟨[.junk, .junk, .junk, .junk, .junk, .junk, .junk, .junk, (V.sc (.bool p8)), .junk, .junk, .junk, .junk, .junk, .junk, .junk, .junk, .junk, .junk, .junk, .junk, .junk, .junk, .junk, .junk, .junk, .junk, .junk, .junk, .junk, .junk, .junk, .junk, .junk, .junk, .junk, .junk, .junk, .junk, .junk, .junk, .junk, .junk, .junk, .junk, .junk, .junk, .junk, .junk, .junk, .junk, .junk, .junk, .junk, .junk, .junk, .junk, .junk, .junk, .junk, .junk, .junk, .junk, .junk, .junk, .junk, .junk, .junk, .junk, .junk, .junk, .junk, .junk, .junk, .junk, .junk, .junk, .junk, .junk, .junk, .junk, .junk, .junk, .junk, .junk, .junk, .junk, .junk, .junk, .junk, .junk, .junk, .junk, .junk, .junk, .junk], [.gone, .gone, .gone, .gone, .gone, .gone, .gone, .gone, .gone, .gone, .gone, .gone, .gone, .gone, .gone, .gone, .gone, .gone, .gone, .gone, .gone, .gone, .gone, .gone, .gone, .gone, .gone, .gone, .gone, .gone, .gone, .gone, .gone, .gone, .gone, .gone, .gone, .gone, .gone, .gone, .gone, .gone, .gone, .gone, .gone, .gone, .gone, .gone, .gone, .gone, .gone, .gone, .gone, .gone, .gone, .gone, .gone, .gone, .gone, .gone, .gone, .gone, .gone, .gone, .gone, .gone, .gone, .gone, .gone, .gone, .gone, .gone, .gone, .gone, .gone, .gone, .gone, .gone, .gone, .gone, .gone, .gone, .gone, .gone, .gone, .gone, .gone, .gone, .gone, .gone, .gone, .gone, .gone, .gone, .gone, .gone]⟩
def st_x0_law33_FeesClasses (p0 : Int) (p1 : Int) : St := ⟨[(V.sc (.int .i64 p0)), (V.sc (.int .i64 p1)), .junk, .junk, .junk, .junk, .junk, .junk, .junk, .junk, .junk, .junk, .junk, .junk, .junk, .junk, .junk, .junk, .junk, .junk, .junk, .junk, .junk, .junk, .junk, .junk, .junk, .junk, .junk, .junk, .junk, .junk, .junk, .junk, .junk, .junk, .junk, .junk, .junk, .junk, .junk, .junk, .junk, .junk, .junk, .junk, .junk, .junk, .junk, .junk, .junk, .junk, .junk, .junk, .junk, .junk, .junk, .junk, .junk, .junk, .junk, .junk, .junk, .junk, .junk, .junk, .junk, .junk, .junk, .junk, .junk, .junk, .junk, .junk, .junk, .junk, .junk, .junk, .junk, .junk, .junk, .junk, .junk, .junk, .junk, .junk, .junk, .junk, .junk, .junk, .junk, .junk, .junk, .junk, .junk, .junk], [.gone, .gone, .gone, .gone, .gone, .gone, .gone, .gone, .gone, .gone, .gone, .gone, .gone, .gone, .gone, .gone, .gone, .gone, .gone, .gone, .gone, .gone, .gone, .gone, .gone, .gone, .gone, .gone, .gone, .gone, .gone, .gone, .gone, .gone, .gone, .gone, .gone, .gone, .gone, .gone, .gone, .gone, .gone, .gone, .gone, .gone, .gone, .gone, .gone, .gone, .gone, .gone, .gone, .gone, .gone, .gone, .gone, .gone, .gone, .gone, .gone, .gone, .gone, .gone, .gone, .gone, .gone, .gone, .gone, .gone, .gone, .gone, .gone, .gone, .gone, .gone, .gone, .gone, .gone, .gone, .gone, .gone, .gone, .gone, .gone, .gone, .gone, .gone, .gone, .gone, .gone, .gone, .gone, .gone, .gone, .gone]⟩
def st_hbbbaba_law33_FeesClasses (p1 : Int) (p50 : List (List V)) (p51 : Int) (p52 : Int) : St := ⟨[.junk, (V.sc (.int .i64 p1)), .junk, .junk, .junk, .junk, .junk, .junk, .junk, .junk, .junk, .junk, .junk, .junk, .junk, .junk, .junk, .junk, .junk, .junk, .junk, .junk, .junk, .junk, .junk, .junk, .junk, .junk, .junk, .junk, .junk, .junk, .junk, .junk, .junk, .junk, .junk, .junk, .junk, .junk, .junk, .junk, .junk, .junk, .junk, .junk, .junk, .junk, .junk, .junk, (V.gs 1 p50), (V.sc (.int .i64 p51)), (V.sc (.int .i64 p52)), .junk, .junk, .junk, .junk, .junk, .junk, .junk, .junk, .junk, .junk, .junk, .junk, .junk, .junk, .junk, .junk, .junk, .junk, .junk, .junk, .junk, .junk, .junk, .junk, .junk, .junk, .junk, .junk, .junk, .junk, .junk, .junk, .junk, .junk, .junk, .junk, .junk, .junk, .junk, .junk, .junk, .junk, .junk], [.gone, .gone, .gone, .gone, .gone, .gone, .gone, .gone, .gone, .gone, .gone, .gone, .gone, .gone, .gone, .gone, .gone, .gone, .gone, .gone, .gone, .gone, .gone, .gone, .gone, .gone, .gone, .gone, .gone, .gone, .gone, .gone, .gone, .gone, .gone, .gone, .gone, .gone, .gone, .gone, .gone, .gone, .gone, .gone, .gone, .gone, .gone, .gone, .gone, .gone, .gone, .gone, .gone, .gone, .gone, .gone, .gone, .gone, .gone, .gone, .gone, .gone, .gone, .gone, .gone, .gone, .gone, .gone, .gone, .gone, .gone, .gone, .gone, .gone, .gone, .gone, .gone, .gone, .gone, .gone, .gone, .gone, .gone, .gone, .gone, .gone, .gone, .gone, .gone, .gone, .gone, .gone, .gone, .gone, .gone, .gone]⟩
def st_x2_law33_FeesClasses (p1 : Int) : St := ⟨[.junk, (V.sc (.int .i64 p1)), .junk, .junk, .junk, .junk, .junk, .junk, .junk, .junk, .junk, .junk, .junk, .junk, .junk, .junk, .junk, .junk, .junk, .junk, .junk, .junk, .junk, .junk, .junk, .junk, .junk, .junk, .junk, .junk, .junk, .junk, .junk, .junk, .junk, .junk, .junk, .junk, .junk, .junk, .junk, .junk, .junk, .junk, .junk, .junk, .junk, .junk, .junk, .junk, .junk, .junk, .junk, .junk, .junk, .junk, .junk, .junk, .junk, .junk, .junk, .junk, .junk, .junk, .junk, .junk, .junk, .junk, .junk, .junk, .junk, .junk, .junk, .junk, .junk, .junk, .junk, .junk, .junk, .junk, .junk, .junk, .junk, .junk, .junk, .junk, .junk, .junk, .junk, .junk, .junk, .junk, .junk, .junk, .junk, .junk], [.gone, .gone, .gone, .gone, .gone, .gone, .gone, .gone, .gone, .gone, .gone, .gone, .gone, .gone, .gone, .gone, .gone, .gone, .gone, .gone, .gone, .gone, .gone, .gone, .gone, .gone, .gone, .gone, .gone, .gone, .gone, .gone, .gone, .gone, .gone, .gone, .gone, .gone, .gone, .gone, .gone, .gone, .gone, .gone, .gone, .gone, .gone, .gone, .gone, .gone, .gone, .gone, .gone, .gone, .gone, .gone, .gone, .gone, .gone, .gone, .gone, .gone, .gone, .gone, .gone, .gone, .gone, .gone, .gone, .gone, .gone, .gone, .gone, .gone, .gone, .gone, .gone, .gone, .gone, .gone, .gone, .gone, .gone, .gone, .gone, .gone, .gone, .gone, .gone, .gone, .gone, .gone, .gone, .gone, .gone, .gone]⟩
def e_law33_FeesClasses {β : Type} (F_law33_sane : ∀ (β : Type), Nat → (Bool → Option β) → Option β) (F_mill_Mod : ∀ (β : Type), Nat → Int → Int → (Int → Option β) → Option β) (F_fees_Rate : ∀ (β : Type), Nat → Int → Int → (Int → Option β) → Option β) (F_ref33_Rate : ∀ (β : Type), Nat → Int → Int → (Int → Option β) → Option β) (F_fees_Bound : ∀ (β : Type), Nat → Int → (Int → Option β) → Option β) (F_ref33_Bound : ∀ (β : Type), Nat → Int → (Int → Option β) → Option β) (F_fees_Class : ∀ (β : Type), Nat → Int → (Int → Option β) → Option β) (F_ref33_Class : ∀ (β : Type), Nat → Int → (Int → Option β) → Option β) (L : Nat) (p0 : Int) (p1 : Int) (p2 : Int) (p3 : Int) (k_fin : Bool → Option β) (k_hbbaba : Int → Int → Int → List (List V) → Int → Int → Option β) : Option β :=
 F_law33_sane β L  (fun v0 =>
 ifb (!v0) (
 k_fin false) (
 F_mill_Mod β L p3 (5000 : Int) (fun v1 =>
 F_mill_Mod β L p3 (2 : Int) (fun v2 =>
 lt (IntKind.wrap .i64 (((80000 : Int) : Int) + v2)) fun x3 =>
 k_hbbaba p0 p1 p2 (chunks 1 3 [(V.sc (.int .i64 p3)), (V.sc (.int .i64 v1)), (V.sc (.int .i64 x3))]) ((List.length (chunks 1 3 [(V.sc (.int .i64 p3)), (V.sc (.int .i64 v1)), (V.sc (.int .i64 x3))]) : Nat) : Int) (0 : Int)))))
theorem e_law33_FeesClasses_ok {β : Type} (F_law33_sane : ∀ (β : Type), Nat → (Bool → Option β) → Option β) (F_mill_Mod : ∀ (β : Type), Nat → Int → Int → (Int → Option β) → Option β) (F_fees_Rate : ∀ (β : Type), Nat → Int → Int → (Int → Option β) → Option β) (F_ref33_Rate : ∀ (β : Type), Nat → Int → Int → (Int → Option β) → Option β) (F_fees_Bound : ∀ (β : Type), Nat → Int → (Int → Option β) → Option β) (F_ref33_Bound : ∀ (β : Type), Nat → Int → (Int → Option β) → Option β) (F_fees_Class : ∀ (β : Type), Nat → Int → (Int → Option β) → Option β) (F_ref33_Class : ∀ (β : Type), Nat → Int → (Int → Option β) → Option β) (L : Nat) (p0 : Int) (p1 : Int) (p2 : Int) (p3 : Int) (k : V → Bor → Option β) : funC sh_law33_FeesClasses (cb_law33_FeesClasses F_law33_sane F_mill_Mod F_fees_Rate F_ref33_Rate F_fees_Bound F_ref33_Bound F_fees_Class F_ref33_Class L) L cf_law33_FeesClasses [(V.sc (.int .i64 p0)), (V.sc (.int .i64 p1)), (V.sc (.int .i64 p2)), (V.sc (.int .i64 p3))] [] k = e_law33_FeesClasses F_law33_sane F_mill_Mod F_fees_Rate F_ref33_Rate F_fees_Bound F_ref33_Bound F_fees_Class F_ref33_Class L p0 p1 p2 p3 (fun p0 => k (V.sc (.bool p0)) []) (fun p0 p1 p2 p21 p22 p23 => loopM (runC sh_law33_FeesClasses (cb_law33_FeesClasses F_law33_sane F_mill_Mod F_fees_Rate F_ref33_Rate F_fees_Bound F_ref33_Bound F_fees_Class F_ref33_Class L) 0 L cbbabaa_law33_FeesClasses) mbbaba_law33_FeesClasses L (st_hbbaba_law33_FeesClasses p0 p1 p2 p21 p22 p23) (blockK 0 (seqK (runC sh_law33_FeesClasses (cb_law33_FeesClasses F_law33_sane F_mill_Mod F_fees_Rate F_ref33_Rate F_fees_Bound F_ref33_Bound F_fees_Class F_ref33_Class L) 0 L cbbb_law33_FeesClasses) (finK 0 (CF.res cf_law33_FeesClasses) k)))) := by kernel_rfl
def bbbaba_law33_FeesClasses {β : Type} (F_law33_sane : ∀ (β : Type), Nat → (Bool → Option β) → Option β) (F_mill_Mod : ∀ (β : Type), Nat → Int → Int → (Int → Option β) → Option β) (F_fees_Rate : ∀ (β : Type), Nat → Int → Int → (Int → Option β) → Option β) (F_ref33_Rate : ∀ (β : Type), Nat → Int → Int → (Int → Option β) → Option β) (F_fees_Bound : ∀ (β : Type), Nat → Int → (Int → Option β) → Option β) (F_ref33_Bound : ∀ (β : Type), Nat → Int → (Int → Option β) → Option β) (F_fees_Class : ∀ (β : Type), Nat → Int → (Int → Option β) → Option β) (F_ref33_Class : ∀ (β : Type), Nat → Int → (Int → Option β) → Option β) (L : Nat) (p0 : Int) (p1 : Int) (p2 : Int) (p21 : List (List V)) (p22 : Int) (p23 : Int) (k_ret : Bool → Option β) (k_hbbaba : Int → Int → Int → List (List V) → Int → Int → Option β) (k_x0 : Int → Int → Option β) : Option β :=
 ifb (decide (p23 < p22)) (
 idx p21 p23 fun c4 =>
 cI .i64 c4 0 fun v5 =>
 F_fees_Rate β L p2 v5 (fun v6 =>
 F_ref33_Rate β L p2 v5 (fun v7 =>
 ifb ((v6 : Int) != v7) (
 k_ret false) (
 F_mill_Mod β L p1 (100000 : Int) (fun v8 =>
 F_fees_Rate β L v8 v5 (fun v9 =>
 F_mill_Mod β L p1 (100000 : Int) (fun v10 =>
 F_ref33_Rate β L v10 v5 (fun v11 =>
 ifb ((v9 : Int) != v11) (
 k_ret false) (
 lt (IntKind.wrap .i64 ((p23 : Int) + (1 : Int))) fun x12 =>
 k_hbbaba p0 p1 p2 p21 p22 x12))))))))) (
 k_x0 p0 p1)
theorem bbbaba_law33_FeesClasses_ok {β : Type} (F_law33_sane : ∀ (β : Type), Nat → (Bool → Option β) → Option β) (F_mill_Mod : ∀ (β : Type), Nat → Int → Int → (Int → Option β) → Option β) (F_fees_Rate : ∀ (β : Type), Nat → Int → Int → (Int → Option β) → Option β) (F_ref33_Rate : ∀ (β : Type), Nat → Int → Int → (Int → Option β) → Option β) (F_fees_Bound : ∀ (β : Type), Nat → Int → (Int → Option β) → Option β) (F_ref33_Bound : ∀ (β : Type), Nat → Int → (Int → Option β) → Option β) (F_fees_Class : ∀ (β : Type), Nat → Int → (Int → Option β) → Option β) (F_ref33_Class : ∀ (β : Type), Nat → Int → (Int → Option β) → Option β) (L : Nat) (p0 : Int) (p1 : Int) (p2 : Int) (p21 : List (List V)) (p22 : Int) (p23 : Int) (X : St → Option β) (K : KT β) : runC sh_law33_FeesClasses (cb_law33_FeesClasses F_law33_sane F_mill_Mod F_fees_Rate F_ref33_Rate F_fees_Bound F_ref33_Bound F_fees_Class F_ref33_Class L) 0 L cbbabaa_law33_FeesClasses (st_hbbaba_law33_FeesClasses p0 p1 p2 p21 p22 p23) (loopK mbbaba_law33_FeesClasses X K) = bbbaba_law33_FeesClasses F_law33_sane F_mill_Mod F_fees_Rate F_ref33_Rate F_fees_Bound F_ref33_Bound F_fees_Class F_ref33_Class L p0 p1 p2 p21 p22 p23 (fun p8 => K .ret (st_ret_law33_FeesClasses p8)) (fun p0 p1 p2 p21 p22 p23 => X (st_hbbaba_law33_FeesClasses p0 p1 p2 p21 p22 p23)) (fun p0 p1 => K (.exit 0) (st_x0_law33_FeesClasses p0 p1)) := by kernel_rfl
def rbbabaret_law33_FeesClasses {β : Type} (F_law33_sane : ∀ (β : Type), Nat → (Bool → Option β) → Option β) (F_mill_Mod : ∀ (β : Type), Nat → Int → Int → (Int → Option β) → Option β) (F_fees_Rate : ∀ (β : Type), Nat → Int → Int → (Int → Option β) → Option β) (F_ref33_Rate : ∀ (β : Type), Nat → Int → Int → (Int → Option β) → Option β) (F_fees_Bound : ∀ (β : Type), Nat → Int → (Int → Option β) → Option β) (F_ref33_Bound : ∀ (β : Type), Nat → Int → (Int → Option β) → Option β) (F_fees_Class : ∀ (β : Type), Nat → Int → (Int → Option β) → Option β) (F_ref33_Class : ∀ (β : Type), Nat → Int → (Int → Option β) → Option β) (L : Nat) (p8 : Bool) (k_fin : Bool → Option β) : Option β :=
 k_fin p8
theorem rbbabaret_law33_FeesClasses_ok {β : Type} (F_law33_sane : ∀ (β : Type), Nat → (Bool → Option β) → Option β) (F_mill_Mod : ∀ (β : Type), Nat → Int → Int → (Int → Option β) → Option β) (F_fees_Rate : ∀ (β : Type), Nat → Int → Int → (Int → Option β) → Option β) (F_ref33_Rate : ∀ (β : Type), Nat → Int → Int → (Int → Option β) → Option β) (F_fees_Bound : ∀ (β : Type), Nat → Int → (Int → Option β) → Option β) (F_ref33_Bound : ∀ (β : Type), Nat → Int → (Int → Option β) → Option β) (F_fees_Class : ∀ (β : Type), Nat → Int → (Int → Option β) → Option β) (F_ref33_Class : ∀ (β : Type), Nat → Int → (Int → Option β) → Option β) (L : Nat) (p8 : Bool) (k : V → Bor → Option β) : (blockK 0 (seqK (runC sh_law33_FeesClasses (cb_law33_FeesClasses F_law33_sane F_mill_Mod F_fees_Rate F_ref33_Rate F_fees_Bound F_ref33_Bound F_fees_Class F_ref33_Class L) 0 L cbbb_law33_FeesClasses) (finK 0 (CF.res cf_law33_FeesClasses) k))) .ret (st_ret_law33_FeesClasses p8) = rbbabaret_law33_FeesClasses F_law33_sane F_mill_Mod F_fees_Rate F_ref33_Rate F_fees_Bound F_ref33_Bound F_fees_Class F_ref33_Class L p8 (fun p0 => k (V.sc (.bool p0)) []) := by kernel_rfl
def rbbabax0_law33_FeesClasses {β : Type} (F_law33_sane : ∀ (β : Type), Nat → (Bool → Option β) → Option β) (F_mill_Mod : ∀ (β : Type), Nat → Int → Int → (Int → Option β) → Option β) (F_fees_Rate : ∀ (β : Type), Nat → Int → Int → (Int → Option β) → Option β) (F_ref33_Rate : ∀ (β : Type), Nat → Int → Int → (Int → Option β) → Option β) (F_fees_Bound : ∀ (β : Type), Nat → Int → (Int → Option β) → Option β) (F_ref33_Bound : ∀ (β : Type), Nat → Int → (Int → Option β) → Option β) (F_fees_Class : ∀ (β : Type), Nat → Int → (Int → Option β) → Option β) (F_ref33_Class : ∀ (β : Type), Nat → Int → (Int → Option β) → Option β) (L : Nat) (p0 : Int) (p1 : Int) (k_hbbbaba : Int → List (List V) → Int → Int → Option β) : Option β :=
 F_mill_Mod β L p0 (26 : Int) (fun v13 =>
 lt (IntKind.wrap .i64 ((v13 : Int) - (1 : Int))) fun x14 =>
 k_hbbbaba p1 (chunks 1 2 [(V.sc (.int .i64 p0)), (V.sc (.int .i64 x14))]) ((List.length (chunks 1 2 [(V.sc (.int .i64 p0)), (V.sc (.int .i64 x14))]) : Nat) : Int) (0 : Int))
theorem rbbabax0_law33_FeesClasses_ok {β : Type} (F_law33_sane : ∀ (β : Type), Nat → (Bool → Option β) → Option β) (F_mill_Mod : ∀ (β : Type), Nat → Int → Int → (Int → Option β) → Option β) (F_fees_Rate : ∀ (β : Type), Nat → Int → Int → (Int → Option β) → Option β) (F_ref33_Rate : ∀ (β : Type), Nat → Int → Int → (Int → Option β) → Option β) (F_fees_Bound : ∀ (β : Type), Nat → Int → (Int → Option β) → Option β) (F_ref33_Bound : ∀ (β : Type), Nat → Int → (Int → Option β) → Option β) (F_fees_Class : ∀ (β : Type), Nat → Int → (Int → Option β) → Option β) (F_ref33_Class : ∀ (β : Type), Nat → Int → (Int → Option β) → Option β) (L : Nat) (p0 : Int) (p1 : Int) (k : V → Bor → Option β) : (blockK 0 (seqK (runC sh_law33_FeesClasses (cb_law33_FeesClasses F_law33_sane F_mill_Mod F_fees_Rate F_ref33_Rate F_fees_Bound F_ref33_Bound F_fees_Class F_ref33_Class L) 0 L cbbb_law33_FeesClasses) (finK 0 (CF.res cf_law33_FeesClasses) k))) (.exit 0) (st_x0_law33_FeesClasses p0 p1) = rbbabax0_law33_FeesClasses F_law33_sane F_mill_Mod F_fees_Rate F_ref33_Rate F_fees_Bound F_ref33_Bound F_fees_Class F_ref33_Class L p0 p1 (fun p1 p50 p51 p52 => loopM (runC sh_law33_FeesClasses (cb_law33_FeesClasses F_law33_sane F_mill_Mod F_fees_Rate F_ref33_Rate F_fees_Bound F_ref33_Bound F_fees_Class F_ref33_Class L) 0 L cbbbabaa_law33_FeesClasses) mbbbaba_law33_FeesClasses L (st_hbbbaba_law33_FeesClasses p1 p50 p51 p52) (blockK 2 (seqK (runC sh_law33_FeesClasses (cb_law33_FeesClasses F_law33_sane F_mill_Mod F_fees_Rate F_ref33_Rate F_fees_Bound F_ref33_Bound F_fees_Class F_ref33_Class L) 0 L cbbbb_law33_FeesClasses) (finK 0 (CF.res cf_law33_FeesClasses) k)))) := by kernel_rfl
def bbbbaba_law33_FeesClasses {β : Type} (F_law33_sane : ∀ (β : Type), Nat → (Bool → Option β) → Option β) (F_mill_Mod : ∀ (β : Type), Nat → Int → Int → (Int → Option β) → Option β) (F_fees_Rate : ∀ (β : Type), Nat → Int → Int → (Int → Option β) → Option β) (F_ref33_Rate : ∀ (β : Type), Nat → Int → Int → (Int → Option β) → Option β) (F_fees_Bound : ∀ (β : Type), Nat → Int → (Int → Option β) → Option β) (F_ref33_Bound : ∀ (β : Type), Nat → Int → (Int → Option β) → Option β) (F_fees_Class : ∀ (β : Type), Nat → Int → (Int → Option β) → Option β) (F_ref33_Class : ∀ (β : Type), Nat → Int → (Int → Option β) → Option β) (L : Nat) (p1 : Int) (p50 : List (List V)) (p51 : Int) (p52 : Int) (k_ret : Bool → Option β) (k_hbbbaba : Int → List (List V) → Int → Int → Option β) (k_x2 : Int → Option β) : Option β :=
 ifb (decide (p52 < p51)) (
 idx p50 p52 fun c15 =>
 cI .i64 c15 0 fun v16 =>
 F_fees_Bound β L v16 (fun v17 =>
 F_ref33_Bound β L v16 (fun v18 =>
 ifb ((v17 : Int) != v18) (
 k_ret false) (
 F_ref33_Bound β L v16 (fun v19 =>
 F_fees_Class β L v19 (fun v20 =>
 F_ref33_Bound β L v16 (fun v21 =>
 F_ref33_Class β L v21 (fun v22 =>
 ifb ((v20 : Int) != v22) (
 k_ret false) (
 F_ref33_Bound β L v16 (fun v23 =>
 lt (IntKind.wrap .i64 ((v23 : Int) - (1 : Int))) fun x24 =>
 F_fees_Class β L x24 (fun v25 =>
 F_ref33_Bound β L v16 (fun v26 =>
 lt (IntKind.wrap .i64 ((v26 : Int) - (1 : Int))) fun x27 =>
 F_ref33_Class β L x27 (fun v28 =>
 ifb ((v25 : Int) != v28) (
 k_ret false) (
 lt (IntKind.wrap .i64 ((p52 : Int) + (1 : Int))) fun x29 =>
 k_hbbbaba p1 p50 p51 x29)))))))))))))) (
 k_x2 p1)
theorem bbbbaba_law33_FeesClasses_ok {β : Type} (F_law33_sane : ∀ (β : Type), Nat → (Bool → Option β) → Option β) (F_mill_Mod : ∀ (β : Type), Nat → Int → Int → (Int → Option β) → Option β) (F_fees_Rate : ∀ (β : Type), Nat → Int → Int → (Int → Option β) → Option β) (F_ref33_Rate : ∀ (β : Type), Nat → Int → Int → (Int → Option β) → Option β) (F_fees_Bound : ∀ (β : Type), Nat → Int → (Int → Option β) → Option β) (F_ref33_Bound : ∀ (β : Type), Nat → Int → (Int → Option β) → Option β) (F_fees_Class : ∀ (β : Type), Nat → Int → (Int → Option β) → Option β) (F_ref33_Class : ∀ (β : Type), Nat → Int → (Int → Option β) → Option β) (L : Nat) (p1 : Int) (p50 : List (List V)) (p51 : Int) (p52 : Int) (X : St → Option β) (K : KT β) : runC sh_law33_FeesClasses (cb_law33_FeesClasses F_law33_sane F_mill_Mod F_fees_Rate F_ref33_Rate F_fees_Bound F_ref33_Bound F_fees_Class F_ref33_Class L) 0 L cbbbabaa_law33_FeesClasses (st_hbbbaba_law33_FeesClasses p1 p50 p51 p52) (loopK mbbbaba_law33_FeesClasses X K) = bbbbaba_law33_FeesClasses F_law33_sane F_mill_Mod F_fees_Rate F_ref33_Rate F_fees_Bound F_ref33_Bound F_fees_Class F_ref33_Class L p1 p50 p51 p52 (fun p8 => K .ret (st_ret_law33_FeesClasses p8)) (fun p1 p50 p51 p52 => X (st_hbbbaba_law33_FeesClasses p1 p50 p51 p52)) (fun p1 => K (.exit 2) (st_x2_law33_FeesClasses p1)) := by kernel_rfl
def rbbbabaret_law33_FeesClasses {β : Type} (F_law33_sane : ∀ (β : Type), Nat → (Bool → Option β) → Option β) (F_mill_Mod : ∀ (β : Type), Nat → Int → Int → (Int → Option β) → Option β) (F_fees_Rate : ∀ (β : Type), Nat → Int → Int → (Int → Option β) → Option β) (F_ref33_Rate : ∀ (β : Type), Nat → Int → Int → (Int → Option β) → Option β) (F_fees_Bound : ∀ (β : Type), Nat → Int → (Int → Option β) → Option β) (F_ref33_Bound : ∀ (β : Type), Nat → Int → (Int → Option β) → Option β) (F_fees_Class : ∀ (β : Type), Nat → Int → (Int → Option β) → Option β) (F_ref33_Class : ∀ (β : Type), Nat → Int → (Int → Option β) → Option β) (L : Nat) (p8 : Bool) (k_fin : Bool → Option β) : Option β :=
 k_fin p8
theorem rbbbabaret_law33_FeesClasses_ok {β : Type} (F_law33_sane : ∀ (β : Type), Nat → (Bool → Option β) → Option β) (F_mill_Mod : ∀ (β : Type), Nat → Int → Int → (Int → Option β) → Option β) (F_fees_Rate : ∀ (β : Type), Nat → Int → Int → (Int → Option β) → Option β) (F_ref33_Rate : ∀ (β : Type), Nat → Int → Int → (Int → Option β) → Option β) (F_fees_Bound : ∀ (β : Type), Nat → Int → (Int → Option β) → Option β) (F_ref33_Bound : ∀ (β : Type), Nat → Int → (Int → Option β) → Option β) (F_fees_Class : ∀ (β : Type), Nat → Int → (Int → Option β) → Option β) (F_ref33_Class : ∀ (β : Type), Nat → Int → (Int → Option β) → Option β) (L : Nat) (p8 : Bool) (k : V → Bor → Option β) : (blockK 2 (seqK (runC sh_law33_FeesClasses (cb_law33_FeesClasses F_law33_sane F_mill_Mod F_fees_Rate F_ref33_Rate F_fees_Bound F_ref33_Bound F_fees_Class F_ref33_Class L) 0 L cbbbb_law33_FeesClasses) (finK 0 (CF.res cf_law33_FeesClasses) k))) .ret (st_ret_law33_FeesClasses p8) = rbbbabaret_law33_FeesClasses F_law33_sane F_mill_Mod F_fees_Rate F_ref33_Rate F_fees_Bound F_ref33_Bound F_fees_Class F_ref33_Class L p8 (fun p0 => k (V.sc (.bool p0)) []) := by kernel_rfl
def rbbbabax2_law33_FeesClasses {β : Type} (F_law33_sane : ∀ (β : Type), Nat → (Bool → Option β) → Option β) (F_mill_Mod : ∀ (β : Type), Nat → Int → Int → (Int → Option β) → Option β) (F_fees_Rate : ∀ (β : Type), Nat → Int → Int → (Int → Option β) → Option β) (F_ref33_Rate : ∀ (β : Type), Nat → Int → Int → (Int → Option β) → Option β) (F_fees_Bound : ∀ (β : Type), Nat → Int → (Int → Option β) → Option β) (F_ref33_Bound : ∀ (β : Type), Nat → Int → (Int → Option β) → Option β) (F_fees_Class : ∀ (β : Type), Nat → Int → (Int → Option β) → Option β) (F_ref33_Class : ∀ (β : Type), Nat → Int → (Int → Option β) → Option β) (L : Nat) (p1 : Int) (k_fin : Bool → Option β) : Option β :=
 F_fees_Class β L p1 (fun v30 =>
 F_ref33_Class β L p1 (fun v31 =>
 ifb ((v30 : Int) == v31) (
 F_mill_Mod β L p1 (200000 : Int) (fun v32 =>
 F_fees_Class β L v32 (fun v33 =>
 F_mill_Mod β L p1 (200000 : Int) (fun v34 =>
 F_ref33_Class β L v34 (fun v35 =>
 k_fin ((v33 : Int) == v35)))))) (
 k_fin false)))
theorem rbbbabax2_law33_FeesClasses_ok {β : Type} (F_law33_sane : ∀ (β : Type), Nat → (Bool → Option β) → Option β) (F_mill_Mod : ∀ (β : Type), Nat → Int → Int → (Int → Option β) → Option β) (F_fees_Rate : ∀ (β : Type), Nat → Int → Int → (Int → Option β) → Option β) (F_ref33_Rate : ∀ (β : Type), Nat → Int → Int → (Int → Option β) → Option β) (F_fees_Bound : ∀ (β : Type), Nat → Int → (Int → Option β) → Option β) (F_ref33_Bound : ∀ (β : Type), Nat → Int → (Int → Option β) → Option β) (F_fees_Class : ∀ (β : Type), Nat → Int → (Int → Option β) → Option β) (F_ref33_Class : ∀ (β : Type), Nat → Int → (Int → Option β) → Option β) (L : Nat) (p1 : Int) (k : V → Bor → Option β) : (blockK 2 (seqK (runC sh_law33_FeesClasses (cb_law33_FeesClasses F_law33_sane F_mill_Mod F_fees_Rate F_ref33_Rate F_fees_Bound F_ref33_Bound F_fees_Class F_ref33_Class L) 0 L cbbbb_law33_FeesClasses) (finK 0 (CF.res cf_law33_FeesClasses) k))) (.exit 2) (st_x2_law33_FeesClasses p1) = rbbbabax2_law33_FeesClasses F_law33_sane F_mill_Mod F_fees_Rate F_ref33_Rate F_fees_Bound F_ref33_Bound F_fees_Class F_ref33_Class L p1 (fun p0 => k (V.sc (.bool p0)) []) := by kernel_rfl
def lbbaba_law33_FeesClasses {β : Type} (F_law33_sane : ∀ (β : Type), Nat → (Bool → Option β) → Option β) (F_mill_Mod : ∀ (β : Type), Nat → Int → Int → (Int → Option β) → Option β) (F_fees_Rate : ∀ (β : Type), Nat → Int → Int → (Int → Option β) → Option β) (F_ref33_Rate : ∀ (β : Type), Nat → Int → Int → (Int → Option β) → Option β) (F_fees_Bound : ∀ (β : Type), Nat → Int → (Int → Option β) → Option β) (F_ref33_Bound : ∀ (β : Type), Nat → Int → (Int → Option β) → Option β) (F_fees_Class : ∀ (β : Type), Nat → Int → (Int → Option β) → Option β) (F_ref33_Class : ∀ (β : Type), Nat → Int → (Int → Option β) → Option β) (L : Nat) (k_ret : Bool → Option β) (k_x0 : Int → Int → Option β) : Nat → Int → Int → Int → List (List V) → Int → Int → Option β
  | 0, _, _, _, _, _, _ => none
  | n + 1, p0, p1, p2, p21, p22, p23 => bbbaba_law33_FeesClasses F_law33_sane F_mill_Mod F_fees_Rate F_ref33_Rate F_fees_Bound F_ref33_Bound F_fees_Class F_ref33_Class L p0 p1 p2 p21 p22 p23 k_ret (fun p0 p1 p2 p21 p22 p23 => lbbaba_law33_FeesClasses F_law33_sane F_mill_Mod F_fees_Rate F_ref33_Rate F_fees_Bound F_ref33_Bound F_fees_Class F_ref33_Class L k_ret k_x0 n p0 p1 p2 p21 p22 p23) k_x0
theorem lbbaba_law33_FeesClasses_ok {β : Type} (F_law33_sane : ∀ (β : Type), Nat → (Bool → Option β) → Option β) (F_mill_Mod : ∀ (β : Type), Nat → Int → Int → (Int → Option β) → Option β) (F_fees_Rate : ∀ (β : Type), Nat → Int → Int → (Int → Option β) → Option β) (F_ref33_Rate : ∀ (β : Type), Nat → Int → Int → (Int → Option β) → Option β) (F_fees_Bound : ∀ (β : Type), Nat → Int → (Int → Option β) → Option β) (F_ref33_Bound : ∀ (β : Type), Nat → Int → (Int → Option β) → Option β) (F_fees_Class : ∀ (β : Type), Nat → Int → (Int → Option β) → Option β) (F_ref33_Class : ∀ (β : Type), Nat → Int → (Int → Option β) → Option β) (L : Nat) (K : KT β) : ∀ (n : Nat) (p0 : Int) (p1 : Int) (p2 : Int) (p21 : List (List V)) (p22 : Int) (p23 : Int), loopM (runC sh_law33_FeesClasses (cb_law33_FeesClasses F_law33_sane F_mill_Mod F_fees_Rate F_ref33_Rate F_fees_Bound F_ref33_Bound F_fees_Class F_ref33_Class L) 0 L cbbabaa_law33_FeesClasses) mbbaba_law33_FeesClasses n (st_hbbaba_law33_FeesClasses p0 p1 p2 p21 p22 p23) K = lbbaba_law33_FeesClasses F_law33_sane F_mill_Mod F_fees_Rate F_ref33_Rate F_fees_Bound F_ref33_Bound F_fees_Class F_ref33_Class L (fun p8 => K .ret (st_ret_law33_FeesClasses p8)) (fun p0 p1 => K (.exit 0) (st_x0_law33_FeesClasses p0 p1)) n p0 p1 p2 p21 p22 p23 := by
  intro n
  induction n with
  | zero => intros; rfl
  | succ n ih =>
    intro p0 p1 p2 p21 p22 p23
    refine (bbbaba_law33_FeesClasses_ok F_law33_sane F_mill_Mod F_fees_Rate F_ref33_Rate F_fees_Bound F_ref33_Bound F_fees_Class F_ref33_Class L p0 p1 p2 p21 p22 p23 (fun σ => loopM (runC sh_law33_FeesClasses (cb_law33_FeesClasses F_law33_sane F_mill_Mod F_fees_Rate F_ref33_Rate F_fees_Bound F_ref33_Bound F_fees_Class F_ref33_Class L) 0 L cbbabaa_law33_FeesClasses) mbbaba_law33_FeesClasses n σ K) K).trans ?_
    simp only [ih]
    rfl
def lbbbaba_law33_FeesClasses {β : Type} (F_law33_sane : ∀ (β : Type), Nat → (Bool → Option β) → Option β) (F_mill_Mod : ∀ (β : Type), Nat → Int → Int → (Int → Option β) → Option β) (F_fees_Rate : ∀ (β : Type), Nat → Int → Int → (Int → Option β) → Option β) (F_ref33_Rate : ∀ (β : Type), Nat → Int → Int → (Int → Option β) → Option β) (F_fees_Bound : ∀ (β : Type), Nat → Int → (Int → Option β) → Option β) (F_ref33_Bound : ∀ (β : Type), Nat → Int → (Int → Option β) → Option β) (F_fees_Class : ∀ (β : Type), Nat → Int → (Int → Option β) → Option β) (F_ref33_Class : ∀ (β : Type), Nat → Int → (Int → Option β) → Option β) (L : Nat) (k_ret : Bool → Option β) (k_x2 : Int → Option β) : Nat → Int → List (List V) → Int → Int → Option β
  | 0, _, _, _, _ => none
  | n + 1, p1, p50, p51, p52 => bbbbaba_law33_FeesClasses F_law33_sane F_mill_Mod F_fees_Rate F_ref33_Rate F_fees_Bound F_ref33_Bound F_fees_Class F_ref33_Class L p1 p50 p51 p52 k_ret (fun p1 p50 p51 p52 => lbbbaba_law33_FeesClasses F_law33_sane F_mill_Mod F_fees_Rate F_ref33_Rate F_fees_Bound F_ref33_Bound F_fees_Class F_ref33_Class L k_ret k_x2 n p1 p50 p51 p52) k_x2
theorem lbbbaba_law33_FeesClasses_ok {β : Type} (F_law33_sane : ∀ (β : Type), Nat → (Bool → Option β) → Option β) (F_mill_Mod : ∀ (β : Type), Nat → Int → Int → (Int → Option β) → Option β) (F_fees_Rate : ∀ (β : Type), Nat → Int → Int → (Int → Option β) → Option β) (F_ref33_Rate : ∀ (β : Type), Nat → Int → Int → (Int → Option β) → Option β) (F_fees_Bound : ∀ (β : Type), Nat → Int → (Int → Option β) → Option β) (F_ref33_Bound : ∀ (β : Type), Nat → Int → (Int → Option β) → Option β) (F_fees_Class : ∀ (β : Type), Nat → Int → (Int → Option β) → Option β) (F_ref33_Class : ∀ (β : Type), Nat → Int → (Int → Option β) → Option β) (L : Nat) (K : KT β) : ∀ (n : Nat) (p1 : Int) (p50 : List (List V)) (p51 : Int) (p52 : Int), loopM (runC sh_law33_FeesClasses (cb_law33_FeesClasses F_law33_sane F_mill_Mod F_fees_Rate F_ref33_Rate F_fees_Bound F_ref33_Bound F_fees_Class F_ref33_Class L) 0 L cbbbabaa_law33_FeesClasses) mbbbaba_law33_FeesClasses n (st_hbbbaba_law33_FeesClasses p1 p50 p51 p52) K = lbbbaba_law33_FeesClasses F_law33_sane F_mill_Mod F_fees_Rate F_ref33_Rate F_fees_Bound F_ref33_Bound F_fees_Class F_ref33_Class L (fun p8 => K .ret (st_ret_law33_FeesClasses p8)) (fun p1 => K (.exit 2) (st_x2_law33_FeesClasses p1)) n p1 p50 p51 p52 := by
  intro n
  induction n with
  | zero => intros; rfl
  | succ n ih =>
    intro p1 p50 p51 p52
    refine (bbbbaba_law33_FeesClasses_ok F_law33_sane F_mill_Mod F_fees_Rate F_ref33_Rate F_fees_Bound F_ref33_Bound F_fees_Class F_ref33_Class L p1 p50 p51 p52 (fun σ => loopM (runC sh_law33_FeesClasses (cb_law33_FeesClasses F_law33_sane F_mill_Mod F_fees_Rate F_ref33_Rate F_fees_Bound F_ref33_Bound F_fees_Class F_ref33_Class L) 0 L cbbbabaa_law33_FeesClasses) mbbbaba_law33_FeesClasses n σ K) K).trans ?_
    simp only [ih]
    rfl
def Crbbabax0_law33_FeesClasses {β : Type} (F_law33_sane : ∀ (β : Type), Nat → (Bool → Option β) → Option β) (F_mill_Mod : ∀ (β : Type), Nat → Int → Int → (Int → Option β) → Option β) (F_fees_Rate : ∀ (β : Type), Nat → Int → Int → (Int → Option β) → Option β) (F_ref33_Rate : ∀ (β : Type), Nat → Int → Int → (Int → Option β) → Option β) (F_fees_Bound : ∀ (β : Type), Nat → Int → (Int → Option β) → Option β) (F_ref33_Bound : ∀ (β : Type), Nat → Int → (Int → Option β) → Option β) (F_fees_Class : ∀ (β : Type), Nat → Int → (Int → Option β) → Option β) (F_ref33_Class : ∀ (β : Type), Nat → Int → (Int → Option β) → Option β) (L : Nat) (p0 : Int) (p1 : Int) (k_fin : Bool → Option β) : Option β :=
 rbbabax0_law33_FeesClasses F_law33_sane F_mill_Mod F_fees_Rate F_ref33_Rate F_fees_Bound F_ref33_Bound F_fees_Class F_ref33_Class L p0 p1 (fun p1 p50 p51 p52 => lbbbaba_law33_FeesClasses F_law33_sane F_mill_Mod F_fees_Rate F_ref33_Rate F_fees_Bound F_ref33_Bound F_fees_Class F_ref33_Class L (fun p8 => rbbbabaret_law33_FeesClasses F_law33_sane F_mill_Mod F_fees_Rate F_ref33_Rate F_fees_Bound F_ref33_Bound F_fees_Class F_ref33_Class L p8 k_fin) (fun p1 => rbbbabax2_law33_FeesClasses F_law33_sane F_mill_Mod F_fees_Rate F_ref33_Rate F_fees_Bound F_ref33_Bound F_fees_Class F_ref33_Class L p1 k_fin) L p1 p50 p51 p52)
theorem Crbbabax0_law33_FeesClasses_ok {β : Type} (F_law33_sane : ∀ (β : Type), Nat → (Bool → Option β) → Option β) (F_mill_Mod : ∀ (β : Type), Nat → Int → Int → (Int → Option β) → Option β) (F_fees_Rate : ∀ (β : Type), Nat → Int → Int → (Int → Option β) → Option β) (F_ref33_Rate : ∀ (β : Type), Nat → Int → Int → (Int → Option β) → Option β) (F_fees_Bound : ∀ (β : Type), Nat → Int → (Int → Option β) → Option β) (F_ref33_Bound : ∀ (β : Type), Nat → Int → (Int → Option β) → Option β) (F_fees_Class : ∀ (β : Type), Nat → Int → (Int → Option β) → Option β) (F_ref33_Class : ∀ (β : Type), Nat → Int → (Int → Option β) → Option β) (L : Nat) (p0 : Int) (p1 : Int) (k : V → Bor → Option β) : (blockK 0 (seqK (runC sh_law33_FeesClasses (cb_law33_FeesClasses F_law33_sane F_mill_Mod F_fees_Rate F_ref33_Rate F_fees_Bound F_ref33_Bound F_fees_Class F_ref33_Class L) 0 L cbbb_law33_FeesClasses) (finK 0 (CF.res cf_law33_FeesClasses) k))) (.exit 0) (st_x0_law33_FeesClasses p0 p1) = Crbbabax0_law33_FeesClasses F_law33_sane F_mill_Mod F_fees_Rate F_ref33_Rate F_fees_Bound F_ref33_Bound F_fees_Class F_ref33_Class L p0 p1 (fun p0 => k (V.sc (.bool p0)) []) := by
  refine (rbbabax0_law33_FeesClasses_ok F_law33_sane F_mill_Mod F_fees_Rate F_ref33_Rate F_fees_Bound F_ref33_Bound F_fees_Class F_ref33_Class L p0 p1 k).trans ?_
  unfold Crbbabax0_law33_FeesClasses
  simp only [lbbbaba_law33_FeesClasses_ok, rbbbabaret_law33_FeesClasses_ok, rbbbabax2_law33_FeesClasses_ok]
def R_law33_FeesClasses {β : Type} (F_law33_sane : ∀ (β : Type), Nat → (Bool → Option β) → Option β) (F_mill_Mod : ∀ (β : Type), Nat → Int → Int → (Int → Option β) → Option β) (F_fees_Rate : ∀ (β : Type), Nat → Int → Int → (Int → Option β) → Option β) (F_ref33_Rate : ∀ (β : Type), Nat → Int → Int → (Int → Option β) → Option β) (F_fees_Bound : ∀ (β : Type), Nat → Int → (Int → Option β) → Option β) (F_ref33_Bound : ∀ (β : Type), Nat → Int → (Int → Option β) → Option β) (F_fees_Class : ∀ (β : Type), Nat → Int → (Int → Option β) → Option β) (F_ref33_Class : ∀ (β : Type), Nat → Int → (Int → Option β) → Option β) (L : Nat) (p0 : Int) (p1 : Int) (p2 : Int) (p3 : Int) (k_fin : Bool → Option β) : Option β :=
 e_law33_FeesClasses F_law33_sane F_mill_Mod F_fees_Rate F_ref33_Rate F_fees_Bound F_ref33_Bound F_fees_Class F_ref33_Class L p0 p1 p2 p3 k_fin (fun p0 p1 p2 p21 p22 p23 => lbbaba_law33_FeesClasses F_law33_sane F_mill_Mod F_fees_Rate F_ref33_Rate F_fees_Bound F_ref33_Bound F_fees_Class F_ref33_Class L (fun p8 => rbbabaret_law33_FeesClasses F_law33_sane F_mill_Mod F_fees_Rate F_ref33_Rate F_fees_Bound F_ref33_Bound F_fees_Class F_ref33_Class L p8 k_fin) (fun p0 p1 => Crbbabax0_law33_FeesClasses F_law33_sane F_mill_Mod F_fees_Rate F_ref33_Rate F_fees_Bound F_ref33_Bound F_fees_Class F_ref33_Class L p0 p1 k_fin) L p0 p1 p2 p21 p22 p23)
theorem R_law33_FeesClasses_ok {β : Type} (F_law33_sane : ∀ (β : Type), Nat → (Bool → Option β) → Option β) (F_mill_Mod : ∀ (β : Type), Nat → Int → Int → (Int → Option β) → Option β) (F_fees_Rate : ∀ (β : Type), Nat → Int → Int → (Int → Option β) → Option β) (F_ref33_Rate : ∀ (β : Type), Nat → Int → Int → (Int → Option β) → Option β) (F_fees_Bound : ∀ (β : Type), Nat → Int → (Int → Option β) → Option β) (F_ref33_Bound : ∀ (β : Type), Nat → Int → (Int → Option β) → Option β) (F_fees_Class : ∀ (β : Type), Nat → Int → (Int → Option β) → Option β) (F_ref33_Class : ∀ (β : Type), Nat → Int → (Int → Option β) → Option β) (L : Nat) (p0 : Int) (p1 : Int) (p2 : Int) (p3 : Int) (k : V → Bor → Option β) : funC sh_law33_FeesClasses (cb_law33_FeesClasses F_law33_sane F_mill_Mod F_fees_Rate F_ref33_Rate F_fees_Bound F_ref33_Bound F_fees_Class F_ref33_Class L) L cf_law33_FeesClasses [(V.sc (.int .i64 p0)), (V.sc (.int .i64 p1)), (V.sc (.int .i64 p2)), (V.sc (.int .i64 p3))] [] k = R_law33_FeesClasses F_law33_sane F_mill_Mod F_fees_Rate F_ref33_Rate F_fees_Bound F_ref33_Bound F_fees_Class F_ref33_Class L p0 p1 p2 p3 (fun p0 => k (V.sc (.bool p0)) []) := by
  refine (e_law33_FeesClasses_ok F_law33_sane F_mill_Mod F_fees_Rate F_ref33_Rate F_fees_Bound F_ref33_Bound F_fees_Class F_ref33_Class L p0 p1 p2 p3 k).trans ?_
  unfold R_law33_FeesClasses
  simp only [lbbaba_law33_FeesClasses_ok, rbbabaret_law33_FeesClasses_ok, Crbbabax0_law33_FeesClasses_ok]
def F_law33_FeesClasses (β : Type) (L : Nat) (p0 : Int) (p1 : Int) (p2 : Int) (p3 : Int) (k_fin : Bool → Option β) : Option β := R_law33_FeesClasses F_law33_sane F_mill_Mod F_fees_Rate F_ref33_Rate F_fees_Bound F_ref33_Bound F_fees_Class F_ref33_Class L p0 p1 p2 p3 k_fin
def d_law33_FeesClasses (F_law33_FeesClasses : ∀ (β : Type), Nat → Int → Int → Int → Int → (Bool → Option β) → Option β) (L : Nat) (β : Type) (args : List V) (bor : Bor) (k : V → Bor → Option β) : Option β := match args, bor with
  | [a0, a1, a2, a3], [] => aI .i64 a0 fun p0 => aI .i64 a1 fun p1 => aI .i64 a2 fun p2 => aI .i64 a3 fun p3 => F_law33_FeesClasses β L p0 p1 p2 p3 (fun p0 => k (V.sc (.bool p0)) [])
  | _, _ => none
theorem d_law33_FeesClasses_ok (L : Nat) (β : Type) (args : List V) (bor : Bor) (k : V → Bor → Option β) (r : β) (h : d_law33_FeesClasses F_law33_FeesClasses L β args bor k = some r) : funC sh_law33_FeesClasses (cb_law33_FeesClasses F_law33_sane F_mill_Mod F_fees_Rate F_ref33_Rate F_fees_Bound F_ref33_Bound F_fees_Class F_ref33_Class L) L cf_law33_FeesClasses args bor k = some r := by
  unfold d_law33_FeesClasses at h
  split at h
  · have q := aI_inv h; clear h; obtain ⟨p0, rfl, h⟩ := q
    have q := aI_inv h; clear h; obtain ⟨p1, rfl, h⟩ := q
    have q := aI_inv h; clear h; obtain ⟨p2, rfl, h⟩ := q
    have q := aI_inv h; clear h; obtain ⟨p3, rfl, h⟩ := q
    exact (R_law33_FeesClasses_ok F_law33_sane F_mill_Mod F_fees_Rate F_ref33_Rate F_fees_Bound F_ref33_Bound F_fees_Class F_ref33_Class L p0 p1 p2 p3 k).trans h
  · cases h
/-! mill_New : 225 -/
def cf_mill_New : CF := ⟨6, [.tmp 2],
 (.seq (.reg [⟨(some 2), false, none, .move (.const (.sc (.pointer none))) false⟩])
 (.seq (.reg [⟨(some 3), false, none, .move (.tmp 0) true⟩,
   ⟨(some 4), false, none, .build [(.gs 1 []), (.sc (.int .i64 0))] [(0, 1, (.tmp 3))]⟩,
   ⟨(some 5), false, none, .box false (.tmp 4)⟩,
   ⟨(some 2), false, none, .move (.tmp 5) false⟩])
 .ret))⟩
def hint_mill_New : Hint := ⟨[(1, 0)], [], [none], []⟩
def sh_mill_New : Nat → Sh := shOf []
def cb_mill_New (L : Nat) : CBC := noC
def R_mill_New {β : Type} (L : Nat) (p0 : List (List V)) (k_fin : List (List V) → Int → Option β) : Option β :=
 k_fin p0 (0 : Int)
theorem R_mill_New_ok {β : Type} (L : Nat) (p0 : List (List V)) (k : V → Bor → Option β) : funC sh_mill_New (cb_mill_New L) L cf_mill_New [(V.sl 1 p0)] [] k = R_mill_New L p0 (fun p0_0 p0_1 => k (V.bx false [(V.sl 1 p0_0), (V.sc (.int .i64 p0_1))]) []) := by kernel_rfl
def F_mill_New (β : Type) (L : Nat) (p0 : List (List V)) (k_fin : List (List V) → Int → Option β) : Option β := R_mill_New L p0 k_fin
def d_mill_New (F_mill_New : ∀ (β : Type), Nat → List (List V) → (List (List V) → Int → Option β) → Option β) (L : Nat) (β : Type) (args : List V) (bor : Bor) (k : V → Bor → Option β) : Option β := match args, bor with
  | [a0], [] => aL 1 a0 fun p0 => F_mill_New β L p0 (fun p0_0 p0_1 => k (V.bx false [(V.sl 1 p0_0), (V.sc (.int .i64 p0_1))]) [])
  | _, _ => none
theorem d_mill_New_ok (L : Nat) (β : Type) (args : List V) (bor : Bor) (k : V → Bor → Option β) (r : β) (h : d_mill_New F_mill_New L β args bor k = some r) : funC sh_mill_New (cb_mill_New L) L cf_mill_New args bor k = some r := by
  unfold d_mill_New at h
  split at h
  · have q := aL_inv h; clear h; obtain ⟨p0, rfl, h⟩ := q
    exact (R_mill_New_ok L p0 k).trans h
  · cases h
/-! mill_Deck_Left : 247 -/
def cf_mill_Deck_Left : CF := ⟨13, [.tmp 2],
 (.seq (.reg [⟨(some 2), false, none, .move (.const (.sc (.bool false))) false⟩])
 (.seq (.dreg [] [(⟨(some 3), false, none, .move (.tmp 0) false⟩, false),
   (⟨(some 4), false, none, .nilCheck (.tmp 3)⟩, false),
   (⟨(some 5), false, none, .fieldAddr 1 (.tmp 4)⟩, false),
   (⟨(some 6), false, none, .load false 1 (.tmp 5) false⟩, true),
   (⟨(some 7), false, none, .move (.tmp 0) false⟩, false),
   (⟨(some 8), false, none, .nilCheck (.tmp 7)⟩, false),
   (⟨(some 9), false, none, .fieldAddr 0 (.tmp 8)⟩, false),
   (⟨(some 10), false, none, .load false 1 (.tmp 9) false⟩, true),
   (⟨(some 11), false, none, .lenS (.tmp 10)⟩, false),
   (⟨(some 12), false, none, .bin .lss (.tmp 6) (.tmp 11)⟩, false),
   (⟨(some 2), false, none, .move (.tmp 12) false⟩, false)])
 .ret))⟩
def hint_mill_Deck_Left : Hint := ⟨[], [], [none], []⟩
def sh_mill_Deck_Left : Nat → Sh := shOf []
def cb_mill_Deck_Left (L : Nat) : CBC := noC
def R_mill_Deck_Left {β : Type} (L : Nat) (b0_0 : List (List V)) (b0_1 : Int) (k_fin : Bool → List (List V) → Int → Option β) : Option β :=
 k_fin (decide (b0_1 < ((List.length b0_0 : Nat) : Int))) b0_0 b0_1
theorem R_mill_Deck_Left_ok {β : Type} (L : Nat) (b0_0 : List (List V)) (b0_1 : Int) (k : V → Bor → Option β) : funC sh_mill_Deck_Left (cb_mill_Deck_Left L) L cf_mill_Deck_Left [(V.ptr 0 0)] [(false, [(V.sl 1 b0_0), (V.sc (.int .i64 b0_1))])] k = R_mill_Deck_Left L b0_0 b0_1 (fun p0 b0_0 b0_1 => k (V.sc (.bool p0)) [(false, [(V.sl 1 b0_0), (V.sc (.int .i64 b0_1))])]) := by kernel_rfl
def F_mill_Deck_Left (β : Type) (L : Nat) (b0_0 : List (List V)) (b0_1 : Int) (k_fin : Bool → List (List V) → Int → Option β) : Option β := R_mill_Deck_Left L b0_0 b0_1 k_fin
def d_mill_Deck_Left (F_mill_Deck_Left : ∀ (β : Type), Nat → List (List V) → Int → (Bool → List (List V) → Int → Option β) → Option β) (L : Nat) (β : Type) (args : List V) (bor : Bor) (k : V → Bor → Option β) : Option β := match args, bor with
  | [a0], [(false, [w0_0, w0_1])] => aP 0 0 a0 (aL 1 w0_0 fun b0_0 => aI .i64 w0_1 fun b0_1 => F_mill_Deck_Left β L b0_0 b0_1 (fun p0 b0_0 b0_1 => k (V.sc (.bool p0)) [(false, [(V.sl 1 b0_0), (V.sc (.int .i64 b0_1))])]))
  | _, _ => none
theorem d_mill_Deck_Left_ok (L : Nat) (β : Type) (args : List V) (bor : Bor) (k : V → Bor → Option β) (r : β) (h : d_mill_Deck_Left F_mill_Deck_Left L β args bor k = some r) : funC sh_mill_Deck_Left (cb_mill_Deck_Left L) L cf_mill_Deck_Left args bor k = some r := by
  unfold d_mill_Deck_Left at h
  split at h
  · have q := aP_inv h; clear h; obtain ⟨rfl, h⟩ := q
    have q := aL_inv h; clear h; obtain ⟨b0_0, rfl, h⟩ := q
    have q := aI_inv h; clear h; obtain ⟨b0_1, rfl, h⟩ := q
    exact (R_mill_Deck_Left_ok L b0_0 b0_1 k).trans h
  · cases h
/-! mill_Deck_Next : 231 -/
def cf_mill_Deck_Next : CF := ⟨28, [.tmp 4],
 (.seq (.reg [⟨(some 4), false, none, .move (.const (.sc (.int .i64 0))) false⟩])
 (.seq (.seq (.reg [⟨(some 5), false, none, .move (.tmp 0) false⟩,
   ⟨(some 6), false, none, .call 247 [((.tmp 5), false)]⟩,
   ⟨(some 7), false, none, .un .not (.tmp 6)⟩])
 (.cond (.tmp 7)
 (.seq (.reg [⟨(some 4), false, none, .move (.const (.sc (.int .i64 0))) false⟩])
 .ret)
 .skip))
 (.seq (.reg [⟨(some 8), false, none, .move (.tmp 0) false⟩,
   ⟨(some 9), false, none, .nilCheck (.tmp 8)⟩,
   ⟨(some 10), false, none, .fieldAddr 1 (.tmp 9)⟩,
   ⟨(some 11), false, none, .load false 1 (.tmp 10) false⟩,
   ⟨(some 12), false, none, .bin .add (.tmp 11) (.const (.sc (.int .i64 1)))⟩,
   ⟨(some 13), false, none, .nilCheck (.tmp 8)⟩,
   ⟨(some 14), false, none, .fieldAddr 1 (.tmp 13)⟩,
   ⟨none, false, none, .store 1 (.tmp 14) (.tmp 12)⟩])
 (.seq (.dreg [] [(⟨(some 15), false, none, .move (.tmp 0) false⟩, false),
   (⟨(some 16), false, none, .nilCheck (.tmp 15)⟩, false),
   (⟨(some 17), false, none, .fieldAddr 0 (.tmp 16)⟩, false),
   (⟨(some 18), false, none, .load false 1 (.tmp 17) false⟩, true),
   (⟨(some 19), false, none, .move (.tmp 0) false⟩, false),
   (⟨(some 20), false, none, .nilCheck (.tmp 19)⟩, false),
   (⟨(some 21), false, none, .fieldAddr 1 (.tmp 20)⟩, false),
   (⟨(some 22), false, none, .load false 1 (.tmp 21) false⟩, true),
   (⟨(some 23), false, none, .bin .sub (.tmp 22) (.const (.sc (.int .i64 1)))⟩, false),
   (⟨(some 24), false, none, .indexAddrS 1 (.tmp 18) (.tmp 23)⟩, false),
   (⟨(some 25), false, none, .load false 1 (.tmp 24) false⟩, false),
   (⟨(some 26), false, none, .move (.tmp 1) false⟩, false),
   (⟨(some 27), false, none, .call 217 [((.tmp 25), false), ((.tmp 26), false)]⟩, false),
   (⟨(some 4), false, none, .move (.tmp 27) false⟩, false)])
 .ret))))⟩
def hint_mill_Deck_Next : Hint := ⟨[], [], [none, none, none], []⟩
def sh_mill_Deck_Next : Nat → Sh := shOf [(25, (.int .i64))]
def cb_mill_Deck_Next (F_mill_Deck_Left : ∀ (β : Type), Nat → List (List V) → Int → (Bool → List (List V) → Int → Option β) → Option β) (F_mill_Mod : ∀ (β : Type), Nat → Int → Int → (Int → Option β) → Option β) (L : Nat) : CBC := (addC 217 (d_mill_Mod F_mill_Mod L) (addC 247 (d_mill_Deck_Left F_mill_Deck_Left L) noC))
def R_mill_Deck_Next {β : Type} (F_mill_Deck_Left : ∀ (β : Type), Nat → List (List V) → Int → (Bool → List (List V) → Int → Option β) → Option β) (F_mill_Mod : ∀ (β : Type), Nat → Int → Int → (Int → Option β) → Option β) (L : Nat) (p1 : Int) (b0_0 : List (List V)) (b0_1 : Int) (k_fin : Int → List (List V) → Int → Option β) : Option β :=
 F_mill_Deck_Left β L b0_0 b0_1 (fun v0 v1 v2 =>
 ifb (!v0) (
 k_fin (0 : Int) v1 v2) (
 lt (IntKind.wrap .i64 ((v2 : Int) + (1 : Int))) fun x3 =>
 lt (IntKind.wrap .i64 ((x3 : Int) - (1 : Int))) fun x4 =>
 idx v1 x4 fun c5 =>
 cI .i64 c5 0 fun v6 =>
 F_mill_Mod β L v6 p1 (fun v7 =>
 k_fin v7 v1 x3)))
theorem R_mill_Deck_Next_ok {β : Type} (F_mill_Deck_Left : ∀ (β : Type), Nat → List (List V) → Int → (Bool → List (List V) → Int → Option β) → Option β) (F_mill_Mod : ∀ (β : Type), Nat → Int → Int → (Int → Option β) → Option β) (L : Nat) (p1 : Int) (b0_0 : List (List V)) (b0_1 : Int) (k : V → Bor → Option β) : funC sh_mill_Deck_Next (cb_mill_Deck_Next F_mill_Deck_Left F_mill_Mod L) L cf_mill_Deck_Next [(V.ptr 0 0), (V.sc (.int .i64 p1))] [(false, [(V.sl 1 b0_0), (V.sc (.int .i64 b0_1))])] k = R_mill_Deck_Next F_mill_Deck_Left F_mill_Mod L p1 b0_0 b0_1 (fun p0 b0_0 b0_1 => k (V.sc (.int .i64 p0)) [(false, [(V.sl 1 b0_0), (V.sc (.int .i64 b0_1))])]) := by kernel_rfl
def F_mill_Deck_Next (β : Type) (L : Nat) (p1 : Int) (b0_0 : List (List V)) (b0_1 : Int) (k_fin : Int → List (List V) → Int → Option β) : Option β := R_mill_Deck_Next F_mill_Deck_Left F_mill_Mod L p1 b0_0 b0_1 k_fin
def d_mill_Deck_Next (F_mill_Deck_Next : ∀ (β : Type), Nat → Int → List (List V) → Int → (Int → List (List V) → Int → Option β) → Option β) (L : Nat) (β : Type) (args : List V) (bor : Bor) (k : V → Bor → Option β) : Option β := match args, bor with
  | [a0, a1], [(false, [w0_0, w0_1])] => aP 0 0 a0 (aI .i64 a1 fun p1 => aL 1 w0_0 fun b0_0 => aI .i64 w0_1 fun b0_1 => F_mill_Deck_Next β L p1 b0_0 b0_1 (fun p0 b0_0 b0_1 => k (V.sc (.int .i64 p0)) [(false, [(V.sl 1 b0_0), (V.sc (.int .i64 b0_1))])]))
  | _, _ => none
theorem d_mill_Deck_Next_ok (L : Nat) (β : Type) (args : List V) (bor : Bor) (k : V → Bor → Option β) (r : β) (h : d_mill_Deck_Next F_mill_Deck_Next L β args bor k = some r) : funC sh_mill_Deck_Next (cb_mill_Deck_Next F_mill_Deck_Left F_mill_Mod L) L cf_mill_Deck_Next args bor k = some r := by
  unfold d_mill_Deck_Next at h
  split at h
  · have q := aP_inv h; clear h; obtain ⟨rfl, h⟩ := q
    have q := aI_inv h; clear h; obtain ⟨p1, rfl, h⟩ := q
    have q := aL_inv h; clear h; obtain ⟨b0_0, rfl, h⟩ := q
    have q := aI_inv h; clear h; obtain ⟨b0_1, rfl, h⟩ := q
    exact (R_mill_Deck_Next_ok F_mill_Deck_Left F_mill_Mod L p1 b0_0 b0_1 k).trans h
  · cases h
/-! mill_Hash : 236 -/
def cf_mill_Hash : CF := ⟨10, [.cell 2 true 32],
 (.seq (.reg [⟨(some 2), false, none, .alloc true (List.replicate 32 (.sc (.int .u8 0)))⟩])
 (.seq (.reg [⟨(some 3), false, none, .move (.tmp 0) false⟩,
   ⟨(some 4), false, none, .call 231 [((.tmp 3), false), ((.const (.sc (.int .i64 5))), false)]⟩,
   ⟨(some 5), false, none, .conv .u8 (.tmp 4)⟩,
   ⟨(some 6), false, none, .move (.tmp 0) false⟩,
   ⟨(some 7), false, none, .call 231 [((.tmp 6), false), ((.const (.sc (.int .i64 7))), false)]⟩,
   ⟨(some 8), false, none, .conv .u8 (.tmp 7)⟩,
   ⟨(some 9), false, none, .build (List.replicate 32 (.sc (.int .u8 0))) [(0, 1, (.tmp 5)), (31, 1, (.tmp 8))]⟩,
   ⟨none, false, none, .store 32 (.tmp 2) (.tmp 9)⟩])
 .ret))⟩
def hint_mill_Hash : Hint := ⟨[], [], [none], []⟩
def sh_mill_Hash : Nat → Sh := shOf []
def cb_mill_Hash (F_mill_Deck_Next : ∀ (β : Type), Nat → Int → List (List V) → Int → (Int → List (List V) → Int → Option β) → Option β) (L : Nat) : CBC := (addC 231 (d_mill_Deck_Next F_mill_Deck_Next L) noC)
def R_mill_Hash {β : Type} (F_mill_Deck_Next : ∀ (β : Type), Nat → Int → List (List V) → Int → (Int → List (List V) → Int → Option β) → Option β) (L : Nat) (b0_0 : List (List V)) (b0_1 : Int) (k_fin : List V → List (List V) → Int → Option β) : Option β :=
 F_mill_Deck_Next β L (5 : Int) b0_0 b0_1 (fun v0 v1 v2 =>
 lt (IntKind.wrap .u8 v0) fun x3 =>
 F_mill_Deck_Next β L (7 : Int) v1 v2 (fun v4 v5 v6 =>
 lt (IntKind.wrap .u8 v4) fun x7 =>
 lt ([(V.sc (.int .u8 x3))] ++ List.replicate 30 (V.sc (.int .u8 (0 : Int))) ++ [(V.sc (.int .u8 x7))]) fun r8 =>
 chk (0 = 0 ∧ (List.length r8) = 32) (
 k_fin r8 v5 v6)))
theorem R_mill_Hash_ok {β : Type} (F_mill_Deck_Next : ∀ (β : Type), Nat → Int → List (List V) → Int → (Int → List (List V) → Int → Option β) → Option β) (L : Nat) (b0_0 : List (List V)) (b0_1 : Int) (k : V → Bor → Option β) : funC sh_mill_Hash (cb_mill_Hash F_mill_Deck_Next L) L cf_mill_Hash [(V.ptr 0 0)] [(false, [(V.sl 1 b0_0), (V.sc (.int .i64 b0_1))])] k = R_mill_Hash F_mill_Deck_Next L b0_0 b0_1 (fun p0 b0_0 b0_1 => k (V.agg p0) [(false, [(V.sl 1 b0_0), (V.sc (.int .i64 b0_1))])]) := by kernel_rfl
def F_mill_Hash (β : Type) (L : Nat) (b0_0 : List (List V)) (b0_1 : Int) (k_fin : List V → List (List V) → Int → Option β) : Option β := R_mill_Hash F_mill_Deck_Next L b0_0 b0_1 k_fin
def d_mill_Hash (F_mill_Hash : ∀ (β : Type), Nat → List (List V) → Int → (List V → List (List V) → Int → Option β) → Option β) (L : Nat) (β : Type) (args : List V) (bor : Bor) (k : V → Bor → Option β) : Option β := match args, bor with
  | [a0], [(false, [w0_0, w0_1])] => aP 0 0 a0 (aL 1 w0_0 fun b0_0 => aI .i64 w0_1 fun b0_1 => F_mill_Hash β L b0_0 b0_1 (fun p0 b0_0 b0_1 => k (V.agg p0) [(false, [(V.sl 1 b0_0), (V.sc (.int .i64 b0_1))])]))
  | _, _ => none
theorem d_mill_Hash_ok (L : Nat) (β : Type) (args : List V) (bor : Bor) (k : V → Bor → Option β) (r : β) (h : d_mill_Hash F_mill_Hash L β args bor k = some r) : funC sh_mill_Hash (cb_mill_Hash F_mill_Deck_Next L) L cf_mill_Hash args bor k = some r := by
  unfold d_mill_Hash at h
  split at h
  · have q := aP_inv h; clear h; obtain ⟨rfl, h⟩ := q
    have q := aL_inv h; clear h; obtain ⟨b0_0, rfl, h⟩ := q
    have q := aI_inv h; clear h; obtain ⟨b0_1, rfl, h⟩ := q
    exact (R_mill_Hash_ok F_mill_Deck_Next L b0_0 b0_1 k).trans h
  · cases h
/-! mill_Hashes : 233 -/
def cbbabaa_mill_Hashes : CC := (.seq (.seq (.reg [⟨(some 11), false, none, .move (.tmp 6) false⟩,
   ⟨(some 12), false, none, .bin .gtr (.tmp 11) (.const (.sc (.int .i64 0)))⟩])
 (.cond (.tmp 12)
 .skip
 (.seq (.mask [false, false, false, false, false, true, false, false, false, false, false, false, false, false, false, false, false, false, false, false, false] [true, true, true, true, true, true, true, false, true, true, true, true, true, true, true, true, true, true, false, false, false, true])
 (.exit 0))))
 (.seq (.block 1 (.reg [⟨(some 15), false, none, .move (.tmp 5) true⟩,
   ⟨(some 16), false, none, .move (.tmp 0) false⟩,
   ⟨(some 17), false, none, .call 236 [((.tmp 16), false)]⟩,
   ⟨(some 18), false, none, .buildSlice 32 1 (List.replicate 32 (.sc (.int .u8 0))) [(0, 32, (.tmp 17))]⟩,
   ⟨(some 19), false, none, .append 32 32 (.tmp 15) (.tmp 18)⟩,
   ⟨(some 5), false, none, .move (.tmp 19) true⟩]))
 (.reg [⟨(some 13), false, none, .move (.tmp 6) false⟩,
   ⟨(some 14), false, none, .bin .sub (.tmp 13) (.const (.sc (.int .i64 1)))⟩,
   ⟨(some 6), false, none, .move (.tmp 14) false⟩])))
def cbbb_mill_Hashes : CC := (.seq (.reg [⟨(some 20), false, none, .move (.tmp 5) true⟩,
   ⟨(some 4), false, none, .move (.tmp 20) true⟩])
 .ret)
def cf_mill_Hashes : CF := ⟨21, [.tmp 4],
 (.seq (.reg [⟨(some 4), false, none, .move (.const (.gs 32 [])) true⟩])
 (.seq (.reg [⟨(some 5), false, none, .move (.const (.gs 32 [])) true⟩])
 (.seq (.seq (.reg [⟨(some 7), false, none, .move (.tmp 0) false⟩,
   ⟨(some 8), false, none, .move (.tmp 1) false⟩,
   ⟨(some 9), false, none, .bin .add (.tmp 8) (.const (.sc (.int .i64 1)))⟩,
   ⟨(some 10), false, none, .call 231 [((.tmp 7), false), ((.tmp 9), false)]⟩,
   ⟨(some 6), false, none, .move (.tmp 10) false⟩])
 (.block 0 (.loop [true, false, false, false, false, true, true, false, false, false, false, false, false, false, false, false, false, false, false, false, false] [true, true, true, true, true, true, true, true, true, true, true, true, true, true, true, true, true, true, false, false, false, true]
 cbbabaa_mill_Hashes)))
 cbbb_mill_Hashes)))⟩
def hint_mill_Hashes : Hint := ⟨[(0, 0), (1, 0), (5, 0), (5, 5), (6, 0), (6, 1)], [], [none, some ([true, false, false, false, false, true, true, false, false, false, false, false, false, false, false, false, false, false, false, false, false], [true, true, true, true, true, true, true, true, true, true, true, true, true, true, true, true, true, true, false, false, false, true]), none, some ([false, false, false, false, false, true, false, false, false, false, false, false, false, false, false, false, false, false, false, false, false], [true, true, true, true, true, true, true, false, true, true, true, true, true, true, true, true, true, true, false, false, false, true]), none, none], []⟩
def sh_mill_Hashes : Nat → Sh := shOf []
def cb_mill_Hashes (F_mill_Deck_Next : ∀ (β : Type), Nat → Int → List (List V) → Int → (Int → List (List V) → Int → Option β) → Option β) (F_mill_Hash : ∀ (β : Type), Nat → List (List V) → Int → (List V → List (List V) → Int → Option β) → Option β) (L : Nat) : CBC := (addC 236 (d_mill_Hash F_mill_Hash L) (addC 231 (d_mill_Deck_Next F_mill_Deck_Next L) noC))
def mbbaba_mill_Hashes : St → St := mask [true, false, false, false, false, true, true, false, false, false, false, false, false, false, false, false, false, false, false, false, false] [true, true, true, true, true, true, true, true, true, true, true, true, true, true, true, true, true, true, false, false, false, true]
def st_hbbaba_mill_Hashes (p5 : List (List V)) (p6 : Int) (b0_0 : List (List V)) (b0_1 : Int) : St := ⟨[(V.ptr 0 0), .junk, .junk, .junk, .junk, (V.gs 32 p5), (V.sc (.int .i64 p6)), .junk, .junk, .junk, .junk, .junk, .junk, .junk, .junk, .junk, .junk, .junk, .junk, .junk, .junk], [(.live false [(V.sl 1 b0_0), (V.sc (.int .i64 b0_1))]), .gone, .gone, .gone, .gone, .gone, .gone, .gone, .gone, .gone, .gone, .gone, .gone, .gone, .gone, .gone, .gone, .gone, .gone, .gone, .gone, .gone]⟩
def st_x0_mill_Hashes (p5 : List (List V)) (b0_0 : List (List V)) (b0_1 : Int) : St := ⟨[.junk, .junk, .junk, .junk, .junk, (V.gs 32 p5), .junk, .junk, .junk, .junk, .junk, .junk, .junk, .junk, .junk, .junk, .junk, .junk, .junk, .junk, .junk], [(.live false [(V.sl 1 b0_0), (V.sc (.int .i64 b0_1))]), .gone, .gone, .gone, .gone, .gone, .gone, .gone, .gone, .gone, .gone, .gone, .gone, .gone, .gone, .gone, .gone, .gone, .gone, .gone, .gone, .gone]⟩
def e_mill_Hashes {β : Type} (F_mill_Deck_Next : ∀ (β : Type), Nat → Int → List (List V) → Int → (Int → List (List V) → Int → Option β) → Option β) (F_mill_Hash : ∀ (β : Type), Nat → List (List V) → Int → (List V → List (List V) → Int → Option β) → Option β) (L : Nat) (p1 : Int) (b0_0 : List (List V)) (b0_1 : Int) (k_hbbaba : List (List V) → Int → List (List V) → Int → Option β) : Option β :=
 lt (IntKind.wrap .i64 ((p1 : Int) + (1 : Int))) fun x0 =>
 F_mill_Deck_Next β L x0 b0_0 b0_1 (fun v1 v2 v3 =>
 k_hbbaba ([] : List (List V)) v1 v2 v3)
theorem e_mill_Hashes_ok {β : Type} (F_mill_Deck_Next : ∀ (β : Type), Nat → Int → List (List V) → Int → (Int → List (List V) → Int → Option β) → Option β) (F_mill_Hash : ∀ (β : Type), Nat → List (List V) → Int → (List V → List (List V) → Int → Option β) → Option β) (L : Nat) (p1 : Int) (b0_0 : List (List V)) (b0_1 : Int) (k : V → Bor → Option β) : funC sh_mill_Hashes (cb_mill_Hashes F_mill_Deck_Next F_mill_Hash L) L cf_mill_Hashes [(V.ptr 0 0), (V.sc (.int .i64 p1))] [(false, [(V.sl 1 b0_0), (V.sc (.int .i64 b0_1))])] k = e_mill_Hashes F_mill_Deck_Next F_mill_Hash L p1 b0_0 b0_1 (fun p5 p6 b0_0 b0_1 => loopM (runC sh_mill_Hashes (cb_mill_Hashes F_mill_Deck_Next F_mill_Hash L) 1 L cbbabaa_mill_Hashes) mbbaba_mill_Hashes L (st_hbbaba_mill_Hashes p5 p6 b0_0 b0_1) (blockK 0 (seqK (runC sh_mill_Hashes (cb_mill_Hashes F_mill_Deck_Next F_mill_Hash L) 1 L cbbb_mill_Hashes) (finK 1 (CF.res cf_mill_Hashes) k)))) := by kernel_rfl
def bbbaba_mill_Hashes {β : Type} (F_mill_Deck_Next : ∀ (β : Type), Nat → Int → List (List V) → Int → (Int → List (List V) → Int → Option β) → Option β) (F_mill_Hash : ∀ (β : Type), Nat → List (List V) → Int → (List V → List (List V) → Int → Option β) → Option β) (L : Nat) (p5 : List (List V)) (p6 : Int) (b0_0 : List (List V)) (b0_1 : Int) (k_hbbaba : List (List V) → Int → List (List V) → Int → Option β) (k_x0 : List (List V) → List (List V) → Int → Option β) : Option β :=
 ifb (decide (p6 > (0 : Int))) (
 F_mill_Hash β L b0_0 b0_1 (fun v4 v5 v6 =>
 chk ((List.length v4) = 32 ∧ 0 + 32 ≤ 32) (
 chk ((List.length p5 + List.length (chunks 32 1 (setAt (List.replicate 32 (V.sc (.int .u8 (0 : Int)))) 0 v4))) * 32 ≤ sizeCap ∧ List.length p5 + List.length (chunks 32 1 (setAt (List.replicate 32 (V.sc (.int .u8 (0 : Int)))) 0 v4)) ≤ sizeCap) (
 lt (p5 ++ (chunks 32 1 (setAt (List.replicate 32 (V.sc (.int .u8 (0 : Int)))) 0 v4))) fun l7 =>
 lt (IntKind.wrap .i64 ((p6 : Int) - (1 : Int))) fun x8 =>
 k_hbbaba l7 x8 v5 v6)))) (
 k_x0 p5 b0_0 b0_1)
theorem bbbaba_mill_Hashes_ok {β : Type} (F_mill_Deck_Next : ∀ (β : Type), Nat → Int → List (List V) → Int → (Int → List (List V) → Int → Option β) → Option β) (F_mill_Hash : ∀ (β : Type), Nat → List (List V) → Int → (List V → List (List V) → Int → Option β) → Option β) (L : Nat) (p5 : List (List V)) (p6 : Int) (b0_0 : List (List V)) (b0_1 : Int) (X : St → Option β) (K : KT β) : runC sh_mill_Hashes (cb_mill_Hashes F_mill_Deck_Next F_mill_Hash L) 1 L cbbabaa_mill_Hashes (st_hbbaba_mill_Hashes p5 p6 b0_0 b0_1) (loopK mbbaba_mill_Hashes X K) = bbbaba_mill_Hashes F_mill_Deck_Next F_mill_Hash L p5 p6 b0_0 b0_1 (fun p5 p6 b0_0 b0_1 => X (st_hbbaba_mill_Hashes p5 p6 b0_0 b0_1)) (fun p5 b0_0 b0_1 => K (.exit 0) (st_x0_mill_Hashes p5 b0_0 b0_1)) := by kernel_rfl
def rbbabax0_mill_Hashes {β : Type} (F_mill_Deck_Next : ∀ (β : Type), Nat → Int → List (List V) → Int → (Int → List (List V) → Int → Option β) → Option β) (F_mill_Hash : ∀ (β : Type), Nat → List (List V) → Int → (List V → List (List V) → Int → Option β) → Option β) (L : Nat) (p5 : List (List V)) (b0_0 : List (List V)) (b0_1 : Int) (k_fin : List (List V) → List (List V) → Int → Option β) : Option β :=
 k_fin p5 b0_0 b0_1
theorem rbbabax0_mill_Hashes_ok {β : Type} (F_mill_Deck_Next : ∀ (β : Type), Nat → Int → List (List V) → Int → (Int → List (List V) → Int → Option β) → Option β) (F_mill_Hash : ∀ (β : Type), Nat → List (List V) → Int → (List V → List (List V) → Int → Option β) → Option β) (L : Nat) (p5 : List (List V)) (b0_0 : List (List V)) (b0_1 : Int) (k : V → Bor → Option β) : (blockK 0 (seqK (runC sh_mill_Hashes (cb_mill_Hashes F_mill_Deck_Next F_mill_Hash L) 1 L cbbb_mill_Hashes) (finK 1 (CF.res cf_mill_Hashes) k))) (.exit 0) (st_x0_mill_Hashes p5 b0_0 b0_1) = rbbabax0_mill_Hashes F_mill_Deck_Next F_mill_Hash L p5 b0_0 b0_1 (fun p0 b0_0 b0_1 => k (V.gs 32 p0) [(false, [(V.sl 1 b0_0), (V.sc (.int .i64 b0_1))])]) := by kernel_rfl
def lbbaba_mill_Hashes {β : Type} (F_mill_Deck_Next : ∀ (β : Type), Nat → Int → List (List V) → Int → (Int → List (List V) → Int → Option β) → Option β) (F_mill_Hash : ∀ (β : Type), Nat → List (List V) → Int → (List V → List (List V) → Int → Option β) → Option β) (L : Nat) (k_x0 : List (List V) → List (List V) → Int → Option β) : Nat → List (List V) → Int → List (List V) → Int → Option β
  | 0, _, _, _, _ => none
  | n + 1, p5, p6, b0_0, b0_1 => bbbaba_mill_Hashes F_mill_Deck_Next F_mill_Hash L p5 p6 b0_0 b0_1 (fun p5 p6 b0_0 b0_1 => lbbaba_mill_Hashes F_mill_Deck_Next F_mill_Hash L k_x0 n p5 p6 b0_0 b0_1) k_x0
theorem lbbaba_mill_Hashes_ok {β : Type} (F_mill_Deck_Next : ∀ (β : Type), Nat → Int → List (List V) → Int → (Int → List (List V) → Int → Option β) → Option β) (F_mill_Hash : ∀ (β : Type), Nat → List (List V) → Int → (List V → List (List V) → Int → Option β) → Option β) (L : Nat) (K : KT β) : ∀ (n : Nat) (p5 : List (List V)) (p6 : Int) (b0_0 : List (List V)) (b0_1 : Int), loopM (runC sh_mill_Hashes (cb_mill_Hashes F_mill_Deck_Next F_mill_Hash L) 1 L cbbabaa_mill_Hashes) mbbaba_mill_Hashes n (st_hbbaba_mill_Hashes p5 p6 b0_0 b0_1) K = lbbaba_mill_Hashes F_mill_Deck_Next F_mill_Hash L (fun p5 b0_0 b0_1 => K (.exit 0) (st_x0_mill_Hashes p5 b0_0 b0_1)) n p5 p6 b0_0 b0_1 := by
  intro n
  induction n with
  | zero => intros; rfl
  | succ n ih =>
    intro p5 p6 b0_0 b0_1
    refine (bbbaba_mill_Hashes_ok F_mill_Deck_Next F_mill_Hash L p5 p6 b0_0 b0_1 (fun σ => loopM (runC sh_mill_Hashes (cb_mill_Hashes F_mill_Deck_Next F_mill_Hash L) 1 L cbbabaa_mill_Hashes) mbbaba_mill_Hashes n σ K) K).trans ?_
    simp only [ih]
    rfl
def R_mill_Hashes {β : Type} (F_mill_Deck_Next : ∀ (β : Type), Nat → Int → List (List V) → Int → (Int → List (List V) → Int → Option β) → Option β) (F_mill_Hash : ∀ (β : Type), Nat → List (List V) → Int → (List V → List (List V) → Int → Option β) → Option β) (L : Nat) (p1 : Int) (b0_0 : List (List V)) (b0_1 : Int) (k_fin : List (List V) → List (List V) → Int → Option β) : Option β :=
 e_mill_Hashes F_mill_Deck_Next F_mill_Hash L p1 b0_0 b0_1 (fun p5 p6 b0_0 b0_1 => lbbaba_mill_Hashes F_mill_Deck_Next F_mill_Hash L (fun p5 b0_0 b0_1 => rbbabax0_mill_Hashes F_mill_Deck_Next F_mill_Hash L p5 b0_0 b0_1 k_fin) L p5 p6 b0_0 b0_1)
theorem R_mill_Hashes_ok {β : Type} (F_mill_Deck_Next : ∀ (β : Type), Nat → Int → List (List V) → Int → (Int → List (List V) → Int → Option β) → Option β) (F_mill_Hash : ∀ (β : Type), Nat → List (List V) → Int → (List V → List (List V) → Int → Option β) → Option β) (L : Nat) (p1 : Int) (b0_0 : List (List V)) (b0_1 : Int) (k : V → Bor → Option β) : funC sh_mill_Hashes (cb_mill_Hashes F_mill_Deck_Next F_mill_Hash L) L cf_mill_Hashes [(V.ptr 0 0), (V.sc (.int .i64 p1))] [(false, [(V.sl 1 b0_0), (V.sc (.int .i64 b0_1))])] k = R_mill_Hashes F_mill_Deck_Next F_mill_Hash L p1 b0_0 b0_1 (fun p0 b0_0 b0_1 => k (V.gs 32 p0) [(false, [(V.sl 1 b0_0), (V.sc (.int .i64 b0_1))])]) := by
  refine (e_mill_Hashes_ok F_mill_Deck_Next F_mill_Hash L p1 b0_0 b0_1 k).trans ?_
  unfold R_mill_Hashes
  simp only [lbbaba_mill_Hashes_ok, rbbabax0_mill_Hashes_ok]
def F_mill_Hashes (β : Type) (L : Nat) (p1 : Int) (b0_0 : List (List V)) (b0_1 : Int) (k_fin : List (List V) → List (List V) → Int → Option β) : Option β := R_mill_Hashes F_mill_Deck_Next F_mill_Hash L p1 b0_0 b0_1 k_fin
def d_mill_Hashes (F_mill_Hashes : ∀ (β : Type), Nat → Int → List (List V) → Int → (List (List V) → List (List V) → Int → Option β) → Option β) (L : Nat) (β : Type) (args : List V) (bor : Bor) (k : V → Bor → Option β) : Option β := match args, bor with
  | [a0, a1], [(false, [w0_0, w0_1])] => aP 0 0 a0 (aI .i64 a1 fun p1 => aL 1 w0_0 fun b0_0 => aI .i64 w0_1 fun b0_1 => F_mill_Hashes β L p1 b0_0 b0_1 (fun p0 b0_0 b0_1 => k (V.gs 32 p0) [(false, [(V.sl 1 b0_0), (V.sc (.int .i64 b0_1))])]))
  | _, _ => none
theorem d_mill_Hashes_ok (L : Nat) (β : Type) (args : List V) (bor : Bor) (k : V → Bor → Option β) (r : β) (h : d_mill_Hashes F_mill_Hashes L β args bor k = some r) : funC sh_mill_Hashes (cb_mill_Hashes F_mill_Deck_Next F_mill_Hash L) L cf_mill_Hashes args bor k = some r := by
  unfold d_mill_Hashes at h
  split at h
  · have q := aP_inv h; clear h; obtain ⟨rfl, h⟩ := q
    have q := aI_inv h; clear h; obtain ⟨p1, rfl, h⟩ := q
    have q := aL_inv h; clear h; obtain ⟨b0_0, rfl, h⟩ := q
    have q := aI_inv h; clear h; obtain ⟨b0_1, rfl, h⟩ := q
    exact (R_mill_Hashes_ok F_mill_Deck_Next F_mill_Hash L p1 b0_0 b0_1 k).trans h
  · cases h
/-! ref33_Confirm : 238 -/
def cbbabaabaabaa_ref33_Confirm : CC := (.seq (.seq (.reg [⟨(some 19), false, none, .move (.tmp 9) false⟩,
   ⟨(some 20), false, none, .move (.tmp 1) false⟩,
   ⟨(some 21), false, none, .lenS (.tmp 20)⟩,
   ⟨(some 22), false, none, .bin .lss (.tmp 19) (.tmp 21)⟩])
 (.cond (.tmp 22)
 .skip
 (.seq (.mask [false, true, true, false, false, false, false, true, true, false, false, false, false, false, false, false, false, false, false, false, false, false, false, false, false, false, false, false, false, false, false, false, false, false, false, false, false, false, false, false, false, false, false, false, false, false, false, false, false, false, false, false, false, false, false, false, false, false] [true, true, true, true, true, true, true, true, true, false, true, true, true, true, true, true, true, true, true, true, true, false, true, true, true, true, true, true, true, true, true, true, true, true, true, true, true, true, true, true, true, true, true, true, true, true, true, true, true, true, true, true, true, true, true, true, true, true])
 (.exit 2))))
 (.seq (.block 3 (.seq (.dreg [] [(⟨(some 25), false, none, .move (.tmp 7) false⟩, false),
   (⟨(some 26), false, none, .move (.tmp 8) false⟩, false),
   (⟨(some 27), false, none, .indexAddrS 35 (.tmp 25) (.tmp 26)⟩, false),
   (⟨(some 28), false, none, .fieldAddr 0 (.tmp 27)⟩, false),
   (⟨(some 29), false, none, .load true 32 (.tmp 28) false⟩, true),
   (⟨(some 30), false, none, .move (.tmp 1) false⟩, false),
   (⟨(some 31), false, none, .move (.tmp 9) false⟩, false),
   (⟨(some 32), false, none, .indexAddrS 32 (.tmp 30) (.tmp 31)⟩, false),
   (⟨(some 33), false, none, .load true 32 (.tmp 32) false⟩, true),
   (⟨(some 34), false, none, .eqAgg false 32 (.tmp 29) (.tmp 33)⟩, false),
   (⟨(some 35), false, none, .move (.tmp 34) false⟩, false),
   (⟨(some 36), false, (some (35, true)), .move (.tmp 7) false⟩, false),
   (⟨(some 37), false, (some (35, true)), .move (.tmp 8) false⟩, false),
   (⟨(some 38), false, (some (35, true)), .indexAddrS 35 (.tmp 36) (.tmp 37)⟩, false),
   (⟨(some 39), false, (some (35, true)), .fieldAddr 34 (.tmp 38)⟩, false),
   (⟨(some 40), false, (some (35, true)), .load false 1 (.tmp 39) false⟩, false),
   (⟨(some 41), false, (some (35, true)), .bin .eql (.tmp 40) (.const (.sc (.int .i64 0)))⟩, false),
   (⟨(some 42), false, none, .pick (.tmp 35) (.tmp 41) (.const (.sc (.bool false)))⟩, false),
   (⟨(some 43), false, none, .move (.tmp 42) false⟩, false),
   (⟨(some 44), false, (some (43, true)), .move (.tmp 7) false⟩, false),
   (⟨(some 45), false, (some (43, true)), .move (.tmp 8) false⟩, false),
   (⟨(some 46), false, (some (43, true)), .indexAddrS 35 (.tmp 44) (.tmp 45)⟩, false),
   (⟨(some 47), false, (some (43, true)), .fieldAddr 33 (.tmp 46)⟩, false),
   (⟨(some 48), false, (some (43, true)), .load false 1 (.tmp 47) false⟩, false),
   (⟨(some 49), false, (some (43, true)), .move (.tmp 2) false⟩, false),
   (⟨(some 50), false, (some (43, true)), .bin .lss (.tmp 48) (.tmp 49)⟩, false),
   (⟨(some 51), false, none, .pick (.tmp 43) (.tmp 50) (.const (.sc (.bool false)))⟩, false)])
 (.cond (.tmp 51)
 (.reg [⟨(some 52), false, none, .move (.tmp 7) false⟩,
   ⟨(some 53), false, none, .move (.tmp 8) false⟩,
   ⟨(some 54), false, none, .move (.tmp 2) false⟩,
   ⟨(some 55), false, none, .indexAddrS 35 (.tmp 52) (.tmp 53)⟩,
   ⟨(some 56), false, none, .fieldAddr 34 (.tmp 55)⟩,
   ⟨none, false, none, .store 1 (.tmp 56) (.tmp 54)⟩])
 .skip)))
 (.reg [⟨(some 23), false, none, .move (.tmp 9) false⟩,
   ⟨(some 24), false, none, .bin .add (.tmp 23) (.const (.sc (.int .i64 1)))⟩,
   ⟨(some 9), false, none, .move (.tmp 24) false⟩])))
def cbbabaabb_ref33_Confirm : CC := (.reg [⟨(some 17), false, none, .move (.tmp 8) false⟩,
   ⟨(some 18), false, none, .bin .add (.tmp 17) (.const (.sc (.int .i64 1)))⟩,
   ⟨(some 8), false, none, .move (.tmp 18) false⟩])
def cbbabaa_ref33_Confirm : CC := (.seq (.seq (.reg [⟨(some 13), false, none, .move (.tmp 8) false⟩,
   ⟨(some 14), false, none, .move (.tmp 7) false⟩,
   ⟨(some 15), false, none, .lenS (.tmp 14)⟩,
   ⟨(some 16), false, none, .bin .lss (.tmp 13) (.tmp 15)⟩])
 (.cond (.tmp 16)
 .skip
 (.seq (.mask [false, false, false, false, false, false, false, true, false, false, false, false, false, false, false, false, false, false, false, false, false, false, false, false, false, false, false, false, false, false, false, false, false, false, false, false, false, false, false, false, false, false, false, false, false, false, false, false, false, false, false, false, false, false, false, false, false, false] [true, true, true, true, true, true, true, true, false, false, true, true, true, true, true, false, true, true, true, true, true, false, true, true, true, true, true, true, true, true, true, true, true, true, true, true, true, true, true, true, true, true, true, true, true, true, true, true, true, true, true, true, true, true, true, true, true, true])
 (.exit 0))))
 (.seq (.block 1 (.seq (.reg [⟨(some 9), false, none, .move (.const (.sc (.int .i64 0))) false⟩])
 (.block 2 (.loop [false, true, true, false, false, false, false, true, true, true, false, false, false, false, false, false, false, false, false, false, false, false, false, false, false, false, false, false, false, false, false, false, false, false, false, false, false, false, false, false, false, false, false, false, false, false, false, false, false, false, false, false, false, false, false, false, false, false] [true, true, true, true, true, true, true, true, true, true, true, true, true, true, true, true, true, true, true, true, true, false, true, true, true, true, true, true, true, true, true, true, true, true, true, true, true, true, true, true, true, true, true, true, true, true, true, true, true, true, true, true, true, true, true, true, true, true]
 cbbabaabaabaa_ref33_Confirm))))
 cbbabaabb_ref33_Confirm))
def cbbb_ref33_Confirm : CC := (.seq (.reg [⟨(some 57), false, none, .move (.tmp 7) true⟩,
   ⟨(some 6), false, none, .move (.tmp 57) true⟩])
 .ret)
def cf_ref33_Confirm : CF := ⟨58, [.tmp 6],
 (.seq (.reg [⟨(some 6), false, none, .move (.const (.gs 35 [])) true⟩])
 (.seq (.reg [⟨(some 10), false, none, .buildSlice 35 0 [(.sc (.int .u8 0)), (.sc (.int .u8 0)), (.sc (.int .u8 0)), (.sc (.int .u8 0)), (.sc (.int .u8 0)), (.sc (.int .u8 0)), (.sc (.int .u8 0)), (.sc (.int .u8 0)), (.sc (.int .u8 0)), (.sc (.int .u8 0)), (.sc (.int .u8 0)), (.sc (.int .u8 0)), (.sc (.int .u8 0)), (.sc (.int .u8 0)), (.sc (.int .u8 0)), (.sc (.int .u8 0)), (.sc (.int .u8 0)), (.sc (.int .u8 0)), (.sc (.int .u8 0)), (.sc (.int .u8 0)), (.sc (.int .u8 0)), (.sc (.int .u8 0)), (.sc (.int .u8 0)), (.sc (.int .u8 0)), (.sc (.int .u8 0)), (.sc (.int .u8 0)), (.sc (.int .u8 0)), (.sc (.int .u8 0)), (.sc (.int .u8 0)), (.sc (.int .u8 0)), (.sc (.int .u8 0)), (.sc (.int .u8 0)), (.sc (.int .i64 0)), (.sc (.int .i64 0)), (.sc (.int .i64 0))] []⟩,
   ⟨(some 11), false, none, .move (.tmp 0) true⟩,
   ⟨(some 12), true, none, .append 35 56 (.tmp 10) (.tmp 11)⟩,
   ⟨(some 7), false, none, .move (.tmp 12) true⟩])
 (.seq (.seq (.reg [⟨(some 8), false, none, .move (.const (.sc (.int .i64 0))) false⟩])
 (.block 0 (.loop [false, true, true, false, false, false, false, true, true, false, false, false, false, false, false, false, false, false, false, false, false, false, false, false, false, false, false, false, false, false, false, false, false, false, false, false, false, false, false, false, false, false, false, false, false, false, false, false, false, false, false, false, false, false, false, false, false, false] [true, true, true, true, true, true, true, true, true, false, true, true, true, true, true, false, true, true, true, true, true, false, true, true, true, true, true, true, true, true, true, true, true, true, true, true, true, true, true, true, true, true, true, true, true, true, true, true, true, true, true, true, true, true, true, true, true, true]
 cbbabaa_ref33_Confirm)))
 cbbb_ref33_Confirm)))⟩
def hint_ref33_Confirm : Hint := ⟨[(0, 0), (1, 1), (1, 3), (10, 0), (10, 1)], [(1, 2)], [none, some ([false, true, true, false, false, false, false, true, true, false, false, false, false, false, false, false, false, false, false, false, false, false, false, false, false, false, false, false, false, false, false, false, false, false, false, false, false, false, false, false, false, false, false, false, false, false, false, false, false, false, false, false, false, false, false, false, false, false], [true, true, true, true, true, true, true, true, true, false, true, true, true, true, true, false, true, true, true, true, true, false, true, true, true, true, true, true, true, true, true, true, true, true, true, true, true, true, true, true, true, true, true, true, true, true, true, true, true, true, true, true, true, true, true, true, true, true]), none, some ([false, false, false, false, false, false, false, true, false, false, false, false, false, false, false, false, false, false, false, false, false, false, false, false, false, false, false, false, false, false, false, false, false, false, false, false, false, false, false, false, false, false, false, false, false, false, false, false, false, false, false, false, false, false, false, false, false, false], [true, true, true, true, true, true, true, true, false, false, true, true, true, true, true, false, true, true, true, true, true, false, true, true, true, true, true, true, true, true, true, true, true, true, true, true, true, true, true, true, true, true, true, true, true, true, true, true, true, true, true, true, true, true, true, true, true, true]), none, none, some ([false, true, true, false, false, false, false, true, true, true, false, false, false, false, false, false, false, false, false, false, false, false, false, false, false, false, false, false, false, false, false, false, false, false, false, false, false, false, false, false, false, false, false, false, false, false, false, false, false, false, false, false, false, false, false, false, false, false], [true, true, true, true, true, true, true, true, true, true, true, true, true, true, true, true, true, true, true, true, true, false, true, true, true, true, true, true, true, true, true, true, true, true, true, true, true, true, true, true, true, true, true, true, true, true, true, true, true, true, true, true, true, true, true, true, true, true]), none, some ([false, true, true, false, false, false, false, true, true, false, false, false, false, false, false, false, false, false, false, false, false, false, false, false, false, false, false, false, false, false, false, false, false, false, false, false, false, false, false, false, false, false, false, false, false, false, false, false, false, false, false, false, false, false, false, false, false, false], [true, true, true, true, true, true, true, true, true, false, true, true, true, true, true, true, true, true, true, true, true, false, true, true, true, true, true, true, true, true, true, true, true, true, true, true, true, true, true, true, true, true, true, true, true, true, true, true, true, true, true, true, true, true, true, true, true, true]), none, none, none], []⟩
def sh_ref33_Confirm : Nat → Sh := shOf [(40, (.int .i64)), (48, (.int .i64))]
def cb_ref33_Confirm (L : Nat) : CBC := noC
def mbbaba_ref33_Confirm : St → St := mask [false, true, true, false, false, false, false, true, true, false, false, false, false, false, false, false, false, false, false, false, false, false, false, false, false, false, false, false, false, false, false, false, false, false, false, false, false, false, false, false, false, false, false, false, false, false, false, false, false, false, false, false, false, false, false, false, false, false] [true, true, true, true, true, true, true, true, true, false, true, true, true, true, true, false, true, true, true, true, true, false, true, true, true, true, true, true, true, true, true, true, true, true, true, true, true, true, true, true, true, true, true, true, true, true, true, true, true, true, true, true, true, true, true, true, true, true]
def mbbabaabaaba_ref33_Confirm : St → St := mask [false, true, true, false, false, false, false, true, true, true, false, false, false, false, false, false, false, false, false, false, false, false, false, false, false, false, false, false, false, false, false, false, false, false, false, false, false, false, false, false, false, false, false, false, false, false, false, false, false, false, false, false, false, false, false, false, false, false] [true, true, true, true, true, true, true, true, true, true, true, true, true, true, true, true, true, true, true, true, true, false, true, true, true, true, true, true, true, true, true, true, true, true, true, true, true, true, true, true, true, true, true, true, true, true, true, true, true, true, true, true, true, true, true, true, true, true]
def st_hbbaba_ref33_Confirm (p1 : List (List V)) (p2 : Int) (p7 : List (List V)) (p8 : Int) : St := ⟨[.junk, (V.sl 32 p1), (V.sc (.int .i64 p2)), .junk, .junk, .junk, .junk, (V.gs 35 p7), (V.sc (.int .i64 p8)), .junk, .junk, .junk, .junk, .junk, .junk, .junk, .junk, .junk, .junk, .junk, .junk, .junk, .junk, .junk, .junk, .junk, .junk, .junk, .junk, .junk, .junk, .junk, .junk, .junk, .junk, .junk, .junk, .junk, .junk, .junk, .junk, .junk, .junk, .junk, .junk, .junk, .junk, .junk, .junk, .junk, .junk, .junk, .junk, .junk, .junk, .junk, .junk, .junk], [.gone, .gone, .gone, .gone, .gone, .gone, .gone, .gone, .gone, .gone, .gone, .gone, .gone, .gone, .gone, .gone, .gone, .gone, .gone, .gone, .gone, .gone, .gone, .gone, .gone, .gone, .gone, .gone, .gone, .gone, .gone, .gone, .gone, .gone, .gone, .gone, .gone, .gone, .gone, .gone, .gone, .gone, .gone, .gone, .gone, .gone, .gone, .gone, .gone, .gone, .gone, .gone, .gone, .gone, .gone, .gone, .gone, .gone]⟩
def st_hbbabav1_ref33_Confirm (p1 : List (List V)) (p2 : Int) (p7l : Nat) (p8 : Int) (b12 : List V) : St := ⟨[.junk, (V.sl 32 p1), (V.sc (.int .i64 p2)), .junk, .junk, .junk, .junk, (V.own 12 0 p7l 35), (V.sc (.int .i64 p8)), .junk, .junk, .junk, .junk, .junk, .junk, .junk, .junk, .junk, .junk, .junk, .junk, .junk, .junk, .junk, .junk, .junk, .junk, .junk, .junk, .junk, .junk, .junk, .junk, .junk, .junk, .junk, .junk, .junk, .junk, .junk, .junk, .junk, .junk, .junk, .junk, .junk, .junk, .junk, .junk, .junk, .junk, .junk, .junk, .junk, .junk, .junk, .junk, .junk], [.gone, .gone, .gone, .gone, .gone, .gone, .gone, .gone, .gone, .gone, .gone, .gone, (.live true b12), .gone, .gone, .gone, .gone, .gone, .gone, .gone, .gone, .gone, .gone, .gone, .gone, .gone, .gone, .gone, .gone, .gone, .gone, .gone, .gone, .gone, .gone, .gone, .gone, .gone, .gone, .gone, .gone, .gone, .gone, .gone, .gone, .gone, .gone, .gone, .gone, .gone, .gone, .gone, .gone, .gone, .gone, .gone, .gone, .gone]⟩
def st_hbbabaabaaba_ref33_Confirm (p1 : List (List V)) (p2 : Int) (p7 : List (List V)) (p8 : Int) (p9 : Int) : St := ⟨[.junk, (V.sl 32 p1), (V.sc (.int .i64 p2)), .junk, .junk, .junk, .junk, (V.gs 35 p7), (V.sc (.int .i64 p8)), (V.sc (.int .i64 p9)), .junk, .junk, .junk, .junk, .junk, .junk, .junk, .junk, .junk, .junk, .junk, .junk, .junk, .junk, .junk, .junk, .junk, .junk, .junk, .junk, .junk, .junk, .junk, .junk, .junk, .junk, .junk, .junk, .junk, .junk, .junk, .junk, .junk, .junk, .junk, .junk, .junk, .junk, .junk, .junk, .junk, .junk, .junk, .junk, .junk, .junk, .junk, .junk], [.gone, .gone, .gone, .gone, .gone, .gone, .gone, .gone, .gone, .gone, .gone, .gone, .gone, .gone, .gone, .gone, .gone, .gone, .gone, .gone, .gone, .gone, .gone, .gone, .gone, .gone, .gone, .gone, .gone, .gone, .gone, .gone, .gone, .gone, .gone, .gone, .gone, .gone, .gone, .gone, .gone, .gone, .gone, .gone, .gone, .gone, .gone, .gone, .gone, .gone, .gone, .gone, .gone, .gone, .gone, .gone, .gone, .gone]⟩
def st_x0_ref33_Confirm (p7 : List (List V)) : St := ⟨[.junk, .junk, .junk, .junk, .junk, .junk, .junk, (V.gs 35 p7), .junk, .junk, .junk, .junk, .junk, .junk, .junk, .junk, .junk, .junk, .junk, .junk, .junk, .junk, .junk, .junk, .junk, .junk, .junk, .junk, .junk, .junk, .junk, .junk, .junk, .junk, .junk, .junk, .junk, .junk, .junk, .junk, .junk, .junk, .junk, .junk, .junk, .junk, .junk, .junk, .junk, .junk, .junk, .junk, .junk, .junk, .junk, .junk, .junk, .junk], [.gone, .gone, .gone, .gone, .gone, .gone, .gone, .gone, .gone, .gone, .gone, .gone, .gone, .gone, .gone, .gone, .gone, .gone, .gone, .gone, .gone, .gone, .gone, .gone, .gone, .gone, .gone, .gone, .gone, .gone, .gone, .gone, .gone, .gone, .gone, .gone, .gone, .gone, .gone, .gone, .gone, .gone, .gone, .gone, .gone, .gone, .gone, .gone, .gone, .gone, .gone, .gone, .gone, .gone, .gone, .gone, .gone, .gone]⟩
def st_hbbabaabaabav1_ref33_Confirm (p1 : List (List V)) (p2 : Int) (p7l : Nat) (p8 : Int) (p9 : Int) (b12 : List V) : St := ⟨[.junk, (V.sl 32 p1), (V.sc (.int .i64 p2)), .junk, .junk, .junk, .junk, (V.own 12 0 p7l 35), (V.sc (.int .i64 p8)), (V.sc (.int .i64 p9)), .junk, .junk, .junk, .junk, .junk, .junk, .junk, .junk, .junk, .junk, .junk, .junk, .junk, .junk, .junk, .junk, .junk, .junk, .junk, .junk, .junk, .junk, .junk, .junk, .junk, .junk, .junk, .junk, .junk, .junk, .junk, .junk, .junk, .junk, .junk, .junk, .junk, .junk, .junk, .junk, .junk, .junk, .junk, .junk, .junk, .junk, .junk, .junk], [.gone, .gone, .gone, .gone, .gone, .gone, .gone, .gone, .gone, .gone, .gone, .gone, (.live true b12), .gone, .gone, .gone, .gone, .gone, .gone, .gone, .gone, .gone, .gone, .gone, .gone, .gone, .gone, .gone, .gone, .gone, .gone, .gone, .gone, .gone, .gone, .gone, .gone, .gone, .gone, .gone, .gone, .gone, .gone, .gone, .gone, .gone, .gone, .gone, .gone, .gone, .gone, .gone, .gone, .gone, .gone, .gone, .gone, .gone]⟩
def st_x0v1_ref33_Confirm (p7l : Nat) (b12 : List V) : St := ⟨[.junk, .junk, .junk, .junk, .junk, .junk, .junk, (V.own 12 0 p7l 35), .junk, .junk, .junk, .junk, .junk, .junk, .junk, .junk, .junk, .junk, .junk, .junk, .junk, .junk, .junk, .junk, .junk, .junk, .junk, .junk, .junk, .junk, .junk, .junk, .junk, .junk, .junk, .junk, .junk, .junk, .junk, .junk, .junk, .junk, .junk, .junk, .junk, .junk, .junk, .junk, .junk, .junk, .junk, .junk, .junk, .junk, .junk, .junk, .junk, .junk], [.gone, .gone, .gone, .gone, .gone, .gone, .gone, .gone, .gone, .gone, .gone, .gone, (.live true b12), .gone, .gone, .gone, .gone, .gone, .gone, .gone, .gone, .gone, .gone, .gone, .gone, .gone, .gone, .gone, .gone, .gone, .gone, .gone, .gone, .gone, .gone, .gone, .gone, .gone, .gone, .gone, .gone, .gone, .gone, .gone, .gone, .gone, .gone, .gone, .gone, .gone, .gone, .gone, .gone, .gone, .gone, .gone, .gone, .gone]⟩
def st_x2_ref33_Confirm (p1 : List (List V)) (p2 : Int) (p7 : List (List V)) (p8 : Int) : St := ⟨[.junk, (V.sl 32 p1), (V.sc (.int .i64 p2)), .junk, .junk, .junk, .junk, (V.gs 35 p7), (V.sc (.int .i64 p8)), .junk, .junk, .junk, .junk, .junk, .junk, .junk, .junk, .junk, .junk, .junk, .junk, .junk, .junk, .junk, .junk, .junk, .junk, .junk, .junk, .junk, .junk, .junk, .junk, .junk, .junk, .junk, .junk, .junk, .junk, .junk, .junk, .junk, .junk, .junk, .junk, .junk, .junk, .junk, .junk, .junk, .junk, .junk, .junk, .junk, .junk, .junk, .junk, .junk], [.gone, .gone, .gone, .gone, .gone, .gone, .gone, .gone, .gone, .gone, .gone, .gone, .gone, .gone, .gone, .gone, .gone, .gone, .gone, .gone, .gone, .gone, .gone, .gone, .gone, .gone, .gone, .gone, .gone, .gone, .gone, .gone, .gone, .gone, .gone, .gone, .gone, .gone, .gone, .gone, .gone, .gone, .gone, .gone, .gone, .gone, .gone, .gone, .gone, .gone, .gone, .gone, .gone, .gone, .gone, .gone, .gone, .gone]⟩
def st_x2v1_ref33_Confirm (p1 : List (List V)) (p2 : Int) (p7l : Nat) (p8 : Int) (b12 : List V) : St := ⟨[.junk, (V.sl 32 p1), (V.sc (.int .i64 p2)), .junk, .junk, .junk, .junk, (V.own 12 0 p7l 35), (V.sc (.int .i64 p8)), .junk, .junk, .junk, .junk, .junk, .junk, .junk, .junk, .junk, .junk, .junk, .junk, .junk, .junk, .junk, .junk, .junk, .junk, .junk, .junk, .junk, .junk, .junk, .junk, .junk, .junk, .junk, .junk, .junk, .junk, .junk, .junk, .junk, .junk, .junk, .junk, .junk, .junk, .junk, .junk, .junk, .junk, .junk, .junk, .junk, .junk, .junk, .junk, .junk], [.gone, .gone, .gone, .gone, .gone, .gone, .gone, .gone, .gone, .gone, .gone, .gone, (.live true b12), .gone, .gone, .gone, .gone, .gone, .gone, .gone, .gone, .gone, .gone, .gone, .gone, .gone, .gone, .gone, .gone, .gone, .gone, .gone, .gone, .gone, .gone, .gone, .gone, .gone, .gone, .gone, .gone, .gone, .gone, .gone, .gone, .gone, .gone, .gone, .gone, .gone, .gone, .gone, .gone, .gone, .gone, .gone, .gone, .gone]⟩
def e_ref33_Confirm {β : Type} (L : Nat) (p0 : List (List V)) (p1 : List (List V)) (p2 : Int) (k_hbbaba : List (List V) → Int → List (List V) → Int → Option β) (k_hbbabav1 : List (List V) → Int → Nat → Int → List V → Option β) : Option β :=
 chk ((List.length ([] : List (List V)) + List.length p0) * 56 ≤ sizeCap ∧ List.length ([] : List (List V)) + List.length p0 ≤ sizeCap) (
 ifb (List.isEmpty p0) (
 k_hbbaba p1 p2 ([] : List (List V)) (0 : Int)) (
 k_hbbabav1 p1 p2 (List.length p0) (0 : Int) (List.flatten p0)))
theorem e_ref33_Confirm_ok {β : Type} (L : Nat) (p0 : List (List V)) (p1 : List (List V)) (p2 : Int) (k : V → Bor → Option β) : funC sh_ref33_Confirm (cb_ref33_Confirm L) L cf_ref33_Confirm [(V.sl 35 p0), (V.sl 32 p1), (V.sc (.int .i64 p2))] [] k = e_ref33_Confirm L p0 p1 p2 (fun p1 p2 p7 p8 => loopM (runC sh_ref33_Confirm (cb_ref33_Confirm L) 0 L cbbabaa_ref33_Confirm) mbbaba_ref33_Confirm L (st_hbbaba_ref33_Confirm p1 p2 p7 p8) (blockK 0 (seqK (runC sh_ref33_Confirm (cb_ref33_Confirm L) 0 L cbbb_ref33_Confirm) (finK 0 (CF.res cf_ref33_Confirm) k)))) (fun p1 p2 p7l p8 b12 => loopM (runC sh_ref33_Confirm (cb_ref33_Confirm L) 0 L cbbabaa_ref33_Confirm) mbbaba_ref33_Confirm L (st_hbbabav1_ref33_Confirm p1 p2 p7l p8 b12) (blockK 0 (seqK (runC sh_ref33_Confirm (cb_ref33_Confirm L) 0 L cbbb_ref33_Confirm) (finK 0 (CF.res cf_ref33_Confirm) k)))) := by kernel_rfl
def bbbaba_ref33_Confirm {β : Type} (L : Nat) (p1 : List (List V)) (p2 : Int) (p7 : List (List V)) (p8 : Int) (k_hbbabaabaaba : List (List V) → Int → List (List V) → Int → Int → Option β) (k_x0 : List (List V) → Option β) : Option β :=
 ifb (decide (p8 < ((List.length p7 : Nat) : Int))) (
 k_hbbabaabaaba p1 p2 p7 p8 (0 : Int)) (
 k_x0 p7)
theorem bbbaba_ref33_Confirm_ok {β : Type} (L : Nat) (p1 : List (List V)) (p2 : Int) (p7 : List (List V)) (p8 : Int) (X : St → Option β) (K : KT β) : runC sh_ref33_Confirm (cb_ref33_Confirm L) 0 L cbbabaa_ref33_Confirm (st_hbbaba_ref33_Confirm p1 p2 p7 p8) (loopK mbbaba_ref33_Confirm X K) = bbbaba_ref33_Confirm L p1 p2 p7 p8 (fun p1 p2 p7 p8 p9 => loopM (runC sh_ref33_Confirm (cb_ref33_Confirm L) 0 L cbbabaabaabaa_ref33_Confirm) mbbabaabaaba_ref33_Confirm L (st_hbbabaabaaba_ref33_Confirm p1 p2 p7 p8 p9) (blockK 2 (blockK 1 (seqK (runC sh_ref33_Confirm (cb_ref33_Confirm L) 0 L cbbabaabb_ref33_Confirm) (loopK mbbaba_ref33_Confirm X K))))) (fun p7 => K (.exit 0) (st_x0_ref33_Confirm p7)) := by kernel_rfl
def bbbabav1_ref33_Confirm {β : Type} (L : Nat) (p1 : List (List V)) (p2 : Int) (p7l : Nat) (p8 : Int) (b12 : List V) (k_hbbabaabaabav1 : List (List V) → Int → Nat → Int → Int → List V → Option β) (k_x0v1 : Nat → List V → Option β) : Option β :=
 ifb (decide (p8 < ((p7l : Nat) : Int))) (
 k_hbbabaabaabav1 p1 p2 p7l p8 (0 : Int) b12) (
 k_x0v1 p7l b12)
theorem bbbabav1_ref33_Confirm_ok {β : Type} (L : Nat) (p1 : List (List V)) (p2 : Int) (p7l : Nat) (p8 : Int) (b12 : List V) (X : St → Option β) (K : KT β) : runC sh_ref33_Confirm (cb_ref33_Confirm L) 0 L cbbabaa_ref33_Confirm (st_hbbabav1_ref33_Confirm p1 p2 p7l p8 b12) (loopK mbbaba_ref33_Confirm X K) = bbbabav1_ref33_Confirm L p1 p2 p7l p8 b12 (fun p1 p2 p7l p8 p9 b12 => loopM (runC sh_ref33_Confirm (cb_ref33_Confirm L) 0 L cbbabaabaabaa_ref33_Confirm) mbbabaabaaba_ref33_Confirm L (st_hbbabaabaabav1_ref33_Confirm p1 p2 p7l p8 p9 b12) (blockK 2 (blockK 1 (seqK (runC sh_ref33_Confirm (cb_ref33_Confirm L) 0 L cbbabaabb_ref33_Confirm) (loopK mbbaba_ref33_Confirm X K))))) (fun p7l b12 => K (.exit 0) (st_x0v1_ref33_Confirm p7l b12)) := by kernel_rfl
def rbbabax0_ref33_Confirm {β : Type} (L : Nat) (p7 : List (List V)) (k_fin : List (List V) → Option β) : Option β :=
 k_fin p7
theorem rbbabax0_ref33_Confirm_ok {β : Type} (L : Nat) (p7 : List (List V)) (k : V → Bor → Option β) : (blockK 0 (seqK (runC sh_ref33_Confirm (cb_ref33_Confirm L) 0 L cbbb_ref33_Confirm) (finK 0 (CF.res cf_ref33_Confirm) k))) (.exit 0) (st_x0_ref33_Confirm p7) = rbbabax0_ref33_Confirm L p7 (fun p0 => k (V.gs 35 p0) []) := by kernel_rfl
def rbbabav1x0v1_ref33_Confirm {β : Type} (L : Nat) (p7l : Nat) (b12 : List V) (k_finv1 : List (List V) → Option β) : Option β :=
 k_finv1 (chunks 35 p7l b12)
theorem rbbabav1x0v1_ref33_Confirm_ok {β : Type} (L : Nat) (p7l : Nat) (b12 : List V) (k : V → Bor → Option β) : (blockK 0 (seqK (runC sh_ref33_Confirm (cb_ref33_Confirm L) 0 L cbbb_ref33_Confirm) (finK 0 (CF.res cf_ref33_Confirm) k))) (.exit 0) (st_x0v1_ref33_Confirm p7l b12) = rbbabav1x0v1_ref33_Confirm L p7l b12 (fun p0 => k (V.fr 35 p0) []) := by kernel_rfl
def bbbabaabaaba_ref33_Confirm {β : Type} (L : Nat) (p1 : List (List V)) (p2 : Int) (p7 : List (List V)) (p8 : Int) (p9 : Int) (k_hbbabaabaaba : List (List V) → Int → List (List V) → Int → Int → Option β) (k_x2 : List (List V) → Int → List (List V) → Int → Option β) : Option β :=
 ifb (decide (p9 < ((List.length p1 : Nat) : Int))) (
 idx p7 p8 fun c0 =>
 idx p1 p9 fun c1 =>
 eqC 32 (List.take 32 c0) (List.take 32 c1) fun v2 =>
 ifb v2 (
 idx p7 p8 fun c3 =>
 cI .i64 (List.drop 34 c3) 0 fun v4 =>
 ifb ((v4 : Int) == (0 : Int)) (
 idx p7 p8 fun c5 =>
 cI .i64 (List.drop 33 c5) 0 fun v6 =>
 ifb (decide (v6 < p2)) (
 idx p7 p8 fun c7 =>
 none) (
 lt (IntKind.wrap .i64 ((p9 : Int) + (1 : Int))) fun x8 =>
 k_hbbabaabaaba p1 p2 p7 p8 x8)) (
 lt (IntKind.wrap .i64 ((p9 : Int) + (1 : Int))) fun x9 =>
 k_hbbabaabaaba p1 p2 p7 p8 x9)) (
 lt (IntKind.wrap .i64 ((p9 : Int) + (1 : Int))) fun x10 =>
 k_hbbabaabaaba p1 p2 p7 p8 x10)) (
 k_x2 p1 p2 p7 p8)
theorem bbbabaabaaba_ref33_Confirm_ok {β : Type} (L : Nat) (p1 : List (List V)) (p2 : Int) (p7 : List (List V)) (p8 : Int) (p9 : Int) (X : St → Option β) (K : KT β) : runC sh_ref33_Confirm (cb_ref33_Confirm L) 0 L cbbabaabaabaa_ref33_Confirm (st_hbbabaabaaba_ref33_Confirm p1 p2 p7 p8 p9) (loopK mbbabaabaaba_ref33_Confirm X K) = bbbabaabaaba_ref33_Confirm L p1 p2 p7 p8 p9 (fun p1 p2 p7 p8 p9 => X (st_hbbabaabaaba_ref33_Confirm p1 p2 p7 p8 p9)) (fun p1 p2 p7 p8 => K (.exit 2) (st_x2_ref33_Confirm p1 p2 p7 p8)) := by kernel_rfl
def bbbabaabaabav1_ref33_Confirm {β : Type} (L : Nat) (p1 : List (List V)) (p2 : Int) (p7l : Nat) (p8 : Int) (p9 : Int) (b12 : List V) (k_hbbabaabaabav1 : List (List V) → Int → Nat → Int → Int → List V → Option β) (k_x2v1 : List (List V) → Int → Nat → Int → List V → Option β) : Option β :=
 ifb (decide (p9 < ((List.length p1 : Nat) : Int))) (
 chk (0 ≤ p8 ∧ p8 < ((p7l : Nat) : Int)) (
 chk (((0 + ((Int.toNat p8) * 35)) + 0) + 32 ≤ (List.length b12)) (
 idx p1 p9 fun c11 =>
 eqC 32 (List.take 32 (List.drop ((0 + ((Int.toNat p8) * 35)) + 0) b12)) (List.take 32 c11) fun v12 =>
 ifb v12 (
 chk (0 ≤ p8 ∧ p8 < ((p7l : Nat) : Int)) (
 cI .i64 b12 ((0 + ((Int.toNat p8) * 35)) + 34) fun v13 =>
 ifb ((v13 : Int) == (0 : Int)) (
 chk (0 ≤ p8 ∧ p8 < ((p7l : Nat) : Int)) (
 cI .i64 b12 ((0 + ((Int.toNat p8) * 35)) + 33) fun v14 =>
 ifb (decide (v14 < p2)) (
 chk (0 ≤ p8 ∧ p8 < ((p7l : Nat) : Int)) (
 chk (1 = 1 ∧ ((0 + ((Int.toNat p8) * 35)) + 34) + 1 ≤ (List.length b12)) (
 lt (setAt b12 ((0 + ((Int.toNat p8) * 35)) + 34) [(V.sc (.int .i64 p2))]) fun r15 =>
 lt (IntKind.wrap .i64 ((p9 : Int) + (1 : Int))) fun x16 =>
 k_hbbabaabaabav1 p1 p2 p7l p8 x16 r15))) (
 lt (IntKind.wrap .i64 ((p9 : Int) + (1 : Int))) fun x17 =>
 k_hbbabaabaabav1 p1 p2 p7l p8 x17 b12))) (
 lt (IntKind.wrap .i64 ((p9 : Int) + (1 : Int))) fun x18 =>
 k_hbbabaabaabav1 p1 p2 p7l p8 x18 b12))) (
 lt (IntKind.wrap .i64 ((p9 : Int) + (1 : Int))) fun x19 =>
 k_hbbabaabaabav1 p1 p2 p7l p8 x19 b12)))) (
 k_x2v1 p1 p2 p7l p8 b12)
theorem bbbabaabaabav1_ref33_Confirm_ok {β : Type} (L : Nat) (p1 : List (List V)) (p2 : Int) (p7l : Nat) (p8 : Int) (p9 : Int) (b12 : List V) (X : St → Option β) (K : KT β) : runC sh_ref33_Confirm (cb_ref33_Confirm L) 0 L cbbabaabaabaa_ref33_Confirm (st_hbbabaabaabav1_ref33_Confirm p1 p2 p7l p8 p9 b12) (loopK mbbabaabaaba_ref33_Confirm X K) = bbbabaabaabav1_ref33_Confirm L p1 p2 p7l p8 p9 b12 (fun p1 p2 p7l p8 p9 b12 => X (st_hbbabaabaabav1_ref33_Confirm p1 p2 p7l p8 p9 b12)) (fun p1 p2 p7l p8 b12 => K (.exit 2) (st_x2v1_ref33_Confirm p1 p2 p7l p8 b12)) := by kernel_rfl
def rbbabaabaabax2_ref33_Confirm {β : Type} (L : Nat) (p1 : List (List V)) (p2 : Int) (p7 : List (List V)) (p8 : Int) (k_hbbaba : List (List V) → Int → List (List V) → Int → Option β) : Option β :=
 lt (IntKind.wrap .i64 ((p8 : Int) + (1 : Int))) fun x20 =>
 k_hbbaba p1 p2 p7 x20
theorem rbbabaabaabax2_ref33_Confirm_ok {β : Type} (L : Nat) (p1 : List (List V)) (p2 : Int) (p7 : List (List V)) (p8 : Int) (X : St → Option β) (K : KT β) : (blockK 2 (blockK 1 (seqK (runC sh_ref33_Confirm (cb_ref33_Confirm L) 0 L cbbabaabb_ref33_Confirm) (loopK mbbaba_ref33_Confirm X K)))) (.exit 2) (st_x2_ref33_Confirm p1 p2 p7 p8) = rbbabaabaabax2_ref33_Confirm L p1 p2 p7 p8 (fun p1 p2 p7 p8 => X (st_hbbaba_ref33_Confirm p1 p2 p7 p8)) := by kernel_rfl
def rbbabaabaabav1x2v1_ref33_Confirm {β : Type} (L : Nat) (p1 : List (List V)) (p2 : Int) (p7l : Nat) (p8 : Int) (b12 : List V) (k_hbbabav1 : List (List V) → Int → Nat → Int → List V → Option β) : Option β :=
 lt (IntKind.wrap .i64 ((p8 : Int) + (1 : Int))) fun x21 =>
 k_hbbabav1 p1 p2 p7l x21 b12
theorem rbbabaabaabav1x2v1_ref33_Confirm_ok {β : Type} (L : Nat) (p1 : List (List V)) (p2 : Int) (p7l : Nat) (p8 : Int) (b12 : List V) (X : St → Option β) (K : KT β) : (blockK 2 (blockK 1 (seqK (runC sh_ref33_Confirm (cb_ref33_Confirm L) 0 L cbbabaabb_ref33_Confirm) (loopK mbbaba_ref33_Confirm X K)))) (.exit 2) (st_x2v1_ref33_Confirm p1 p2 p7l p8 b12) = rbbabaabaabav1x2v1_ref33_Confirm L p1 p2 p7l p8 b12 (fun p1 p2 p7l p8 b12 => X (st_hbbabav1_ref33_Confirm p1 p2 p7l p8 b12)) := by kernel_rfl
def lbbabaabaaba_ref33_Confirm {β : Type} (L : Nat) (k_x2 : List (List V) → Int → List (List V) → Int → Option β) : Nat → List (List V) → Int → List (List V) → Int → Int → Option β
  | 0, _, _, _, _, _ => none
  | n + 1, p1, p2, p7, p8, p9 => bbbabaabaaba_ref33_Confirm L p1 p2 p7 p8 p9 (fun p1 p2 p7 p8 p9 => lbbabaabaaba_ref33_Confirm L k_x2 n p1 p2 p7 p8 p9) k_x2
theorem lbbabaabaaba_ref33_Confirm_ok {β : Type} (L : Nat) (K : KT β) : ∀ (n : Nat) (p1 : List (List V)) (p2 : Int) (p7 : List (List V)) (p8 : Int) (p9 : Int), loopM (runC sh_ref33_Confirm (cb_ref33_Confirm L) 0 L cbbabaabaabaa_ref33_Confirm) mbbabaabaaba_ref33_Confirm n (st_hbbabaabaaba_ref33_Confirm p1 p2 p7 p8 p9) K = lbbabaabaaba_ref33_Confirm L (fun p1 p2 p7 p8 => K (.exit 2) (st_x2_ref33_Confirm p1 p2 p7 p8)) n p1 p2 p7 p8 p9 := by
  intro n
  induction n with
  | zero => intros; rfl
  | succ n ih =>
    intro p1 p2 p7 p8 p9
    refine (bbbabaabaaba_ref33_Confirm_ok L p1 p2 p7 p8 p9 (fun σ => loopM (runC sh_ref33_Confirm (cb_ref33_Confirm L) 0 L cbbabaabaabaa_ref33_Confirm) mbbabaabaaba_ref33_Confirm n σ K) K).trans ?_
    simp only [ih]
    rfl
def Cbbbaba_ref33_Confirm {β : Type} (L : Nat) (p1 : List (List V)) (p2 : Int) (p7 : List (List V)) (p8 : Int) (k_x0 : List (List V) → Option β) (k_hbbaba : List (List V) → Int → List (List V) → Int → Option β) : Option β :=
 bbbaba_ref33_Confirm L p1 p2 p7 p8 (fun p1 p2 p7 p8 p9 => lbbabaabaaba_ref33_Confirm L (fun p1 p2 p7 p8 => rbbabaabaabax2_ref33_Confirm L p1 p2 p7 p8 k_hbbaba) L p1 p2 p7 p8 p9) k_x0
theorem Cbbbaba_ref33_Confirm_ok {β : Type} (L : Nat) (p1 : List (List V)) (p2 : Int) (p7 : List (List V)) (p8 : Int) (X : St → Option β) (K : KT β) : runC sh_ref33_Confirm (cb_ref33_Confirm L) 0 L cbbabaa_ref33_Confirm (st_hbbaba_ref33_Confirm p1 p2 p7 p8) (loopK mbbaba_ref33_Confirm X K) = Cbbbaba_ref33_Confirm L p1 p2 p7 p8 (fun p7 => K (.exit 0) (st_x0_ref33_Confirm p7)) (fun p1 p2 p7 p8 => X (st_hbbaba_ref33_Confirm p1 p2 p7 p8)) := by
  refine (bbbaba_ref33_Confirm_ok L p1 p2 p7 p8 X K).trans ?_
  unfold Cbbbaba_ref33_Confirm
  simp only [lbbabaabaaba_ref33_Confirm_ok, rbbabaabaabax2_ref33_Confirm_ok]
def lbbaba_ref33_Confirm {β : Type} (L : Nat) (k_x0 : List (List V) → Option β) : Nat → List (List V) → Int → List (List V) → Int → Option β
  | 0, _, _, _, _ => none
  | n + 1, p1, p2, p7, p8 => Cbbbaba_ref33_Confirm L p1 p2 p7 p8 k_x0 (fun p1 p2 p7 p8 => lbbaba_ref33_Confirm L k_x0 n p1 p2 p7 p8)
theorem lbbaba_ref33_Confirm_ok {β : Type} (L : Nat) (K : KT β) : ∀ (n : Nat) (p1 : List (List V)) (p2 : Int) (p7 : List (List V)) (p8 : Int), loopM (runC sh_ref33_Confirm (cb_ref33_Confirm L) 0 L cbbabaa_ref33_Confirm) mbbaba_ref33_Confirm n (st_hbbaba_ref33_Confirm p1 p2 p7 p8) K = lbbaba_ref33_Confirm L (fun p7 => K (.exit 0) (st_x0_ref33_Confirm p7)) n p1 p2 p7 p8 := by
  intro n
  induction n with
  | zero => intros; rfl
  | succ n ih =>
    intro p1 p2 p7 p8
    refine (Cbbbaba_ref33_Confirm_ok L p1 p2 p7 p8 (fun σ => loopM (runC sh_ref33_Confirm (cb_ref33_Confirm L) 0 L cbbabaa_ref33_Confirm) mbbaba_ref33_Confirm n σ K) K).trans ?_
    simp only [ih]
    rfl
def lbbabaabaabav1_ref33_Confirm {β : Type} (L : Nat) (k_x2v1 : List (List V) → Int → Nat → Int → List V → Option β) : Nat → List (List V) → Int → Nat → Int → Int → List V → Option β
  | 0, _, _, _, _, _, _ => none
  | n + 1, p1, p2, p7l, p8, p9, b12 => bbbabaabaabav1_ref33_Confirm L p1 p2 p7l p8 p9 b12 (fun p1 p2 p7l p8 p9 b12 => lbbabaabaabav1_ref33_Confirm L k_x2v1 n p1 p2 p7l p8 p9 b12) k_x2v1
theorem lbbabaabaabav1_ref33_Confirm_ok {β : Type} (L : Nat) (K : KT β) : ∀ (n : Nat) (p1 : List (List V)) (p2 : Int) (p7l : Nat) (p8 : Int) (p9 : Int) (b12 : List V), loopM (runC sh_ref33_Confirm (cb_ref33_Confirm L) 0 L cbbabaabaabaa_ref33_Confirm) mbbabaabaaba_ref33_Confirm n (st_hbbabaabaabav1_ref33_Confirm p1 p2 p7l p8 p9 b12) K = lbbabaabaabav1_ref33_Confirm L (fun p1 p2 p7l p8 b12 => K (.exit 2) (st_x2v1_ref33_Confirm p1 p2 p7l p8 b12)) n p1 p2 p7l p8 p9 b12 := by
  intro n
  induction n with
  | zero => intros; rfl
  | succ n ih =>
    intro p1 p2 p7l p8 p9 b12
    refine (bbbabaabaabav1_ref33_Confirm_ok L p1 p2 p7l p8 p9 b12 (fun σ => loopM (runC sh_ref33_Confirm (cb_ref33_Confirm L) 0 L cbbabaabaabaa_ref33_Confirm) mbbabaabaaba_ref33_Confirm n σ K) K).trans ?_
    simp only [ih]
    rfl
def Cbbbabav1_ref33_Confirm {β : Type} (L : Nat) (p1 : List (List V)) (p2 : Int) (p7l : Nat) (p8 : Int) (b12 : List V) (k_x0v1 : Nat → List V → Option β) (k_hbbabav1 : List (List V) → Int → Nat → Int → List V → Option β) : Option β :=
 bbbabav1_ref33_Confirm L p1 p2 p7l p8 b12 (fun p1 p2 p7l p8 p9 b12 => lbbabaabaabav1_ref33_Confirm L (fun p1 p2 p7l p8 b12 => rbbabaabaabav1x2v1_ref33_Confirm L p1 p2 p7l p8 b12 k_hbbabav1) L p1 p2 p7l p8 p9 b12) k_x0v1
theorem Cbbbabav1_ref33_Confirm_ok {β : Type} (L : Nat) (p1 : List (List V)) (p2 : Int) (p7l : Nat) (p8 : Int) (b12 : List V) (X : St → Option β) (K : KT β) : runC sh_ref33_Confirm (cb_ref33_Confirm L) 0 L cbbabaa_ref33_Confirm (st_hbbabav1_ref33_Confirm p1 p2 p7l p8 b12) (loopK mbbaba_ref33_Confirm X K) = Cbbbabav1_ref33_Confirm L p1 p2 p7l p8 b12 (fun p7l b12 => K (.exit 0) (st_x0v1_ref33_Confirm p7l b12)) (fun p1 p2 p7l p8 b12 => X (st_hbbabav1_ref33_Confirm p1 p2 p7l p8 b12)) := by
  refine (bbbabav1_ref33_Confirm_ok L p1 p2 p7l p8 b12 X K).trans ?_
  unfold Cbbbabav1_ref33_Confirm
  simp only [lbbabaabaabav1_ref33_Confirm_ok, rbbabaabaabav1x2v1_ref33_Confirm_ok]
def lbbabav1_ref33_Confirm {β : Type} (L : Nat) (k_x0v1 : Nat → List V → Option β) : Nat → List (List V) → Int → Nat → Int → List V → Option β
  | 0, _, _, _, _, _ => none
  | n + 1, p1, p2, p7l, p8, b12 => Cbbbabav1_ref33_Confirm L p1 p2 p7l p8 b12 k_x0v1 (fun p1 p2 p7l p8 b12 => lbbabav1_ref33_Confirm L k_x0v1 n p1 p2 p7l p8 b12)
theorem lbbabav1_ref33_Confirm_ok {β : Type} (L : Nat) (K : KT β) : ∀ (n : Nat) (p1 : List (List V)) (p2 : Int) (p7l : Nat) (p8 : Int) (b12 : List V), loopM (runC sh_ref33_Confirm (cb_ref33_Confirm L) 0 L cbbabaa_ref33_Confirm) mbbaba_ref33_Confirm n (st_hbbabav1_ref33_Confirm p1 p2 p7l p8 b12) K = lbbabav1_ref33_Confirm L (fun p7l b12 => K (.exit 0) (st_x0v1_ref33_Confirm p7l b12)) n p1 p2 p7l p8 b12 := by
  intro n
  induction n with
  | zero => intros; rfl
  | succ n ih =>
    intro p1 p2 p7l p8 b12
    refine (Cbbbabav1_ref33_Confirm_ok L p1 p2 p7l p8 b12 (fun σ => loopM (runC sh_ref33_Confirm (cb_ref33_Confirm L) 0 L cbbabaa_ref33_Confirm) mbbaba_ref33_Confirm n σ K) K).trans ?_
    simp only [ih]
    rfl
def R_ref33_Confirm {β : Type} (L : Nat) (p0 : List (List V)) (p1 : List (List V)) (p2 : Int) (k_fin : List (List V) → Option β) (k_finv1 : List (List V) → Option β) : Option β :=
 e_ref33_Confirm L p0 p1 p2 (fun p1 p2 p7 p8 => lbbaba_ref33_Confirm L (fun p7 => rbbabax0_ref33_Confirm L p7 k_fin) L p1 p2 p7 p8) (fun p1 p2 p7l p8 b12 => lbbabav1_ref33_Confirm L (fun p7l b12 => rbbabav1x0v1_ref33_Confirm L p7l b12 k_finv1) L p1 p2 p7l p8 b12)
theorem R_ref33_Confirm_ok {β : Type} (L : Nat) (p0 : List (List V)) (p1 : List (List V)) (p2 : Int) (k : V → Bor → Option β) : funC sh_ref33_Confirm (cb_ref33_Confirm L) L cf_ref33_Confirm [(V.sl 35 p0), (V.sl 32 p1), (V.sc (.int .i64 p2))] [] k = R_ref33_Confirm L p0 p1 p2 (fun p0 => k (V.gs 35 p0) []) (fun p0 => k (V.fr 35 p0) []) := by
  refine (e_ref33_Confirm_ok L p0 p1 p2 k).trans ?_
  unfold R_ref33_Confirm
  simp only [lbbaba_ref33_Confirm_ok, rbbabax0_ref33_Confirm_ok, lbbabav1_ref33_Confirm_ok, rbbabav1x0v1_ref33_Confirm_ok]
def F_ref33_Confirm (β : Type) (L : Nat) (p0 : List (List V)) (p1 : List (List V)) (p2 : Int) (k_fin : List (List V) → Option β) (k_finv1 : List (List V) → Option β) : Option β := R_ref33_Confirm L p0 p1 p2 k_fin k_finv1
def d_ref33_Confirm (F_ref33_Confirm : ∀ (β : Type), Nat → List (List V) → List (List V) → Int → (List (List V) → Option β) → (List (List V) → Option β) → Option β) (L : Nat) (β : Type) (args : List V) (bor : Bor) (k : V → Bor → Option β) : Option β := match args, bor with
  | [a0, a1, a2], [] => aL 35 a0 fun p0 => aL 32 a1 fun p1 => aI .i64 a2 fun p2 => F_ref33_Confirm β L p0 p1 p2 (fun p0 => k (V.gs 35 p0) []) (fun p0 => k (V.fr 35 p0) [])
  | _, _ => none
theorem d_ref33_Confirm_ok (L : Nat) (β : Type) (args : List V) (bor : Bor) (k : V → Bor → Option β) (r : β) (h : d_ref33_Confirm F_ref33_Confirm L β args bor k = some r) : funC sh_ref33_Confirm (cb_ref33_Confirm L) L cf_ref33_Confirm args bor k = some r := by
  unfold d_ref33_Confirm at h
  split at h
  · have q := aL_inv h; clear h; obtain ⟨p0, rfl, h⟩ := q
    have q := aL_inv h; clear h; obtain ⟨p1, rfl, h⟩ := q
    have q := aI_inv h; clear h; obtain ⟨p2, rfl, h⟩ := q
    exact (R_ref33_Confirm_ok L p0 p1 p2 k).trans h
  · cases h

end Go.Proofs.Ythplooifbkopgaa
