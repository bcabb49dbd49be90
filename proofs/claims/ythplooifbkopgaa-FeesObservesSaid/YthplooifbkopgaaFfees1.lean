/- The functions of this seat, as they compute on plain values. Printed by lift2.py. -/
import Derived.Test.YthplooifbkopgaaE29
import Derived.Test.YthplooifbkopgaaC2
import Derived.Test.YthplooifbkopgaaRows
namespace Go.Proofs.Ythplooifbkopgaa
set_option maxRecDepth 100000
set_option linter.unusedVariables false
/-! fees_bounds : 243 -/
def cbbabaa_fees_bounds : CC := (.seq (.seq (.reg [⟨(some 4), false, none, .move (.tmp 2) false⟩,
   ⟨(some 5), false, none, .bin .lss (.tmp 4) (.const (.sc (.int .i64 24)))⟩])
 (.cond (.tmp 5)
 .skip
 (.seq (.mask (bl 3 21) (bl 2097147 21))
 (.exit 0))))
 (.seq (.block 1 (.dreg [] [(⟨(some 8), false, none, .move (.tmp 2) false⟩, q0),
   (⟨(some 9), false, none, .move (.tmp 2) false⟩, q0),
   (⟨(some 10), false, none, .bin .sub (.tmp 9) (.const (.sc (.int .i64 1)))⟩, q0),
   (⟨(some 11), false, none, .indexAddrA 24 1 (.tmp 1) (.tmp 10)⟩, q0),
   (⟨(some 12), false, none, .load false 1 (.tmp 11) false⟩, q1),
   (⟨(some 13), false, none, .move (.tmp 2) false⟩, q0),
   (⟨(some 14), false, none, .bin .sub (.tmp 13) (.const (.sc (.int .i64 1)))⟩, q0),
   (⟨(some 15), false, none, .indexAddrA 24 1 (.tmp 1) (.tmp 14)⟩, q0),
   (⟨(some 16), false, none, .load false 1 (.tmp 15) false⟩, q1),
   (⟨(some 17), false, none, .bin .quo (.tmp 16) (.const (.sc (.int .i64 2)))⟩, q0),
   (⟨(some 18), false, none, .bin .add (.tmp 12) (.tmp 17)⟩, q0),
   (⟨(some 19), false, none, .indexAddrA 24 1 (.tmp 1) (.tmp 8)⟩, q0),
   (⟨none, false, none, .store 1 (.tmp 19) (.tmp 18)⟩, q0)]))
 (.reg [⟨(some 6), false, none, .move (.tmp 2) false⟩,
   ⟨(some 7), false, none, .bin .add (.tmp 6) (.const (.sc (.int .i64 1)))⟩,
   ⟨(some 2), false, none, .move (.tmp 7) false⟩])))
def cbbb_fees_bounds : CC := (.seq (.reg [⟨(some 20), false, none, .load true 24 (.tmp 1) false⟩,
   ⟨none, false, none, .store 24 (.tmp 0) (.tmp 20)⟩])
 .ret)
def cf_fees_bounds : CF := ⟨21, [.cell 0 true 24],
 (.seq (.reg [⟨(some 0), false, none, .alloc true (List.replicate 24 (.sc (.int .i64 0)))⟩])
 (.seq (.reg [⟨(some 3), false, none, .build (List.replicate 24 (.sc (.int .i64 0))) [(0, 1, (.const (.sc (.int .i64 10))))]⟩,
   ⟨(some 1), false, none, .alloc true (List.replicate 24 (.sc (.int .i64 0)))⟩,
   ⟨none, false, none, .store 24 (.tmp 1) (.tmp 3)⟩])
 (.seq (.seq (.reg [⟨(some 2), false, none, .move (.const (.sc (.int .i64 1))) false⟩])
 (.block 0 (.loop (bl 7 21) (bl 2097151 21)
 cbbabaa_fees_bounds)))
 cbbb_fees_bounds)))⟩
def hint_fees_bounds : Hint := ⟨[], [], [none, some ((bl 7 21), (bl 2097151 21)), none, some ((bl 3 21), (bl 2097147 21)), none, none], [], [], false⟩
def sh_fees_bounds : Nat → Sh := shOf [(12, (.int .i64)), (16, (.int .i64))]
def cb_fees_bounds (L : Nat) : CBC := noC
def mbbaba_fees_bounds : St → St := maskN 0 (bl 7 21) (bl 2097151 21)
def st_hbbaba_fees_bounds (p2 : Int) (b0 : List V) (b1 : List V) : St := ⟨[(V.ptr 0 0), (V.ptr 1 0), (V.sc (.int .i64 p2)), .junk, .junk, .junk, .junk, .junk, .junk, .junk, .junk, .junk, .junk, .junk, .junk, .junk, .junk, .junk, .junk, .junk, .junk], [(.live true b0), (.live true b1), .gone, .gone, .gone, .gone, .gone, .gone, .gone, .gone, .gone, .gone, .gone, .gone, .gone, .gone, .gone, .gone, .gone, .gone, .gone]⟩
def st_x0_fees_bounds (b0 : List V) (b1 : List V) : St := ⟨[(V.ptr 0 0), (V.ptr 1 0), .junk, .junk, .junk, .junk, .junk, .junk, .junk, .junk, .junk, .junk, .junk, .junk, .junk, .junk, .junk, .junk, .junk, .junk, .junk], [(.live true b0), (.live true b1), .gone, .gone, .gone, .gone, .gone, .gone, .gone, .gone, .gone, .gone, .gone, .gone, .gone, .gone, .gone, .gone, .gone, .gone, .gone]⟩
def e_fees_bounds {β : Type} (L : Nat) (k_hbbaba : Int → List V → List V → Option β) : Option β :=
 lt ([(V.sc (.int .i64 (10 : Int)))] ++ List.replicate 23 (V.sc (.int .i64 (0 : Int)))) fun r0 =>
 k_hbbaba (1 : Int) (List.replicate 24 (V.sc (.int .i64 (0 : Int)))) r0
theorem e_fees_bounds_ok {β : Type} (L : Nat) (k : V → Bor → Option β) : funC sh_fees_bounds (cb_fees_bounds L) L cf_fees_bounds [] [] k = e_fees_bounds L (fun p2 b0 b1 => loopM (runC sh_fees_bounds (cb_fees_bounds L) 0 L cbbabaa_fees_bounds) mbbaba_fees_bounds L (st_hbbaba_fees_bounds p2 b0 b1) (blockK 0 (seqK (runC sh_fees_bounds (cb_fees_bounds L) 0 L cbbb_fees_bounds) (finK 0 (CF.res cf_fees_bounds) k)))) := by kernel_rfl
def bbbaba_fees_bounds {β : Type} (L : Nat) (p2 : Int) (b0 : List V) (b1 : List V) (k_hbbaba : Int → List V → List V → Option β) (k_x0 : List V → List V → Option β) : Option β :=
 ifb (decide (p2 < (24 : Int))) (
 lt (IntKind.wrap .i64 ((p2 : Int) - (1 : Int))) fun x1 =>
 chk (0 ≤ x1 ∧ x1 < ((24 : Nat) : Int)) (
 cI .i64 b1 (0 + ((Int.toNat x1) * 1)) fun v2 =>
 lt (IntKind.wrap .i64 ((p2 : Int) - (1 : Int))) fun x3 =>
 chk (0 ≤ x3 ∧ x3 < ((24 : Nat) : Int)) (
 cI .i64 b1 (0 + ((Int.toNat x3) * 1)) fun v4 =>
 lt (IntKind.wrap .i64 (Int.tdiv v4 (2 : Int))) fun x5 =>
 lt (IntKind.wrap .i64 ((v2 : Int) + x5)) fun x6 =>
 chk (0 ≤ p2 ∧ p2 < ((24 : Nat) : Int)) (
 chk (1 = 1 ∧ (0 + ((Int.toNat p2) * 1)) + 1 ≤ (List.length b1)) (
 lt (setAt b1 (0 + ((Int.toNat p2) * 1)) [(V.sc (.int .i64 x6))]) fun r7 =>
 lt (IntKind.wrap .i64 ((p2 : Int) + (1 : Int))) fun x8 =>
 k_hbbaba x8 b0 r7))))) (
 k_x0 b0 b1)
theorem bbbaba_fees_bounds_ok {β : Type} (L : Nat) (p2 : Int) (b0 : List V) (b1 : List V) (X : St → Option β) (K : KT β) : runC sh_fees_bounds (cb_fees_bounds L) 0 L cbbabaa_fees_bounds (st_hbbaba_fees_bounds p2 b0 b1) (loopK mbbaba_fees_bounds X K) = bbbaba_fees_bounds L p2 b0 b1 (fun p2 b0 b1 => X (st_hbbaba_fees_bounds p2 b0 b1)) (fun b0 b1 => K (.exit 0) (st_x0_fees_bounds b0 b1)) := by kernel_rfl
def rbbabax0_fees_bounds {β : Type} (L : Nat) (b0 : List V) (b1 : List V) (k_fin : List V → Option β) : Option β :=
 chk (0 + 24 ≤ (List.length b1)) (
 chk ((List.length (List.take 24 b1)) = 24 ∧ 0 + 24 ≤ (List.length b0)) (
 lt (setAt b0 0 (List.take 24 b1)) fun r9 =>
 chk (0 = 0 ∧ (List.length r9) = 24 ∧ 24 ≠ 0) (
 k_fin r9)))
theorem rbbabax0_fees_bounds_ok {β : Type} (L : Nat) (b0 : List V) (b1 : List V) (k : V → Bor → Option β) : (blockK 0 (seqK (runC sh_fees_bounds (cb_fees_bounds L) 0 L cbbb_fees_bounds) (finK 0 (CF.res cf_fees_bounds) k))) (.exit 0) (st_x0_fees_bounds b0 b1) = rbbabax0_fees_bounds L b0 b1 (fun p0 => k (V.agg p0) []) := by kernel_rfl
def lbbaba_fees_bounds {β : Type} (L : Nat) (k_x0 : List V → List V → Option β) : Nat → Int → List V → List V → Option β
  | 0, _, _, _ => none
  | n + 1, p2, b0, b1 => bbbaba_fees_bounds L p2 b0 b1 (fun p2 b0 b1 => lbbaba_fees_bounds L k_x0 n p2 b0 b1) k_x0
theorem lbbaba_fees_bounds_ok {β : Type} (L : Nat) (K : KT β) : ∀ (n : Nat) (p2 : Int) (b0 : List V) (b1 : List V), loopM (runC sh_fees_bounds (cb_fees_bounds L) 0 L cbbabaa_fees_bounds) mbbaba_fees_bounds n (st_hbbaba_fees_bounds p2 b0 b1) K = lbbaba_fees_bounds L (fun b0 b1 => K (.exit 0) (st_x0_fees_bounds b0 b1)) n p2 b0 b1 := by
  intro n
  induction n with
  | zero => intros; rfl
  | succ n ih =>
    intro p2 b0 b1
    refine (bbbaba_fees_bounds_ok L p2 b0 b1 (fun σ => loopM (runC sh_fees_bounds (cb_fees_bounds L) 0 L cbbabaa_fees_bounds) mbbaba_fees_bounds n σ K) K).trans ?_
    simp only [ih]
    rfl
def R_fees_bounds {β : Type} (L : Nat) (k_fin : List V → Option β) : Option β :=
 e_fees_bounds L (fun p2 b0 b1 => lbbaba_fees_bounds L (fun b0 b1 => rbbabax0_fees_bounds L b0 b1 k_fin) L p2 b0 b1)
theorem R_fees_bounds_ok {β : Type} (L : Nat) (k : V → Bor → Option β) : funC sh_fees_bounds (cb_fees_bounds L) L cf_fees_bounds [] [] k = R_fees_bounds L (fun p0 => k (V.agg p0) []) := by
  refine (e_fees_bounds_ok L k).trans ?_
  unfold R_fees_bounds
  simp only [lbbaba_fees_bounds_ok, rbbabax0_fees_bounds_ok]
abbrev T_fees_bounds := ∀ (β : Type), Nat → (List V → Option β) → Option β
def F_fees_bounds (β : Type) (L : Nat) (k_fin : List V → Option β) : Option β := R_fees_bounds L k_fin
def d_fees_bounds (F_fees_bounds : T_fees_bounds) (L : Nat) (β : Type) (args : List V) (bor : Bor) (k : V → Bor → Option β) : Option β := match args, bor with
  | [], [] => F_fees_bounds β L (fun p0 => k (V.agg p0) [])
  | _, _ => none
theorem d_fees_bounds_ok (L : Nat) (β : Type) (args : List V) (bor : Bor) (k : V → Bor → Option β) (r : β) (h : d_fees_bounds F_fees_bounds L β args bor k = some r) : funC sh_fees_bounds (cb_fees_bounds L) L cf_fees_bounds args bor k = some r := by
  unfold d_fees_bounds at h
  split at h
  · exact (R_fees_bounds_ok L k).trans h
  · cases h
/-! fees_Bound : 220 -/
def cf_fees_Bound : CF := ⟨12, [.tmp 2],
 (.seq (.reg [⟨(some 2), false, none, .move (.const (.sc (.int .i64 0))) false⟩])
 (.seq (.seq (.reg [⟨(some 3), false, none, .move (.tmp 0) false⟩,
   ⟨(some 4), false, none, .bin .lss (.tmp 3) (.const (.sc (.int .i64 0)))⟩,
   ⟨(some 5), false, none, .move (.tmp 4) false⟩,
   ⟨(some 6), false, (some (5, false)), .move (.tmp 0) false⟩,
   ⟨(some 7), false, (some (5, false)), .bin .geq (.tmp 6) (.const (.sc (.int .i64 24)))⟩,
   ⟨(some 8), false, none, .pick (.tmp 5) (.const (.sc (.bool true))) (.tmp 7)⟩])
 (.cond (.tmp 8)
 (.seq (.reg [⟨(some 2), false, none, .move (.const (.sc (.int .i64 0))) false⟩])
 .ret)
 .skip))
 (.seq (.reg [⟨(some 9), false, none, .call 243 [] []⟩,
   ⟨(some 10), false, none, .move (.tmp 0) false⟩,
   ⟨(some 11), false, none, .indexA false 24 1 (.tmp 9) (.tmp 10)⟩,
   ⟨(some 2), false, none, .move (.tmp 11) false⟩])
 .ret)))⟩
def hint_fees_Bound : Hint := ⟨[], [], [none, none, none], [], [], false⟩
def sh_fees_Bound : Nat → Sh := shOf [(11, (.int .i64))]
def cb_fees_Bound (F_fees_bounds : T_fees_bounds) (L : Nat) : CBC := (addC 243 (d_fees_bounds F_fees_bounds L) noC)
def R_fees_Bound {β : Type} (F_fees_bounds : T_fees_bounds) (L : Nat) (p0 : Int) (k_fin : Int → Option β) : Option β :=
 ifb (decide (p0 < (0 : Int))) (
 k_fin (0 : Int)) (
 ifb (decide (p0 ≥ (24 : Int))) (
 k_fin (0 : Int)) (
 F_fees_bounds β L  (fun v0 =>
 chk (0 ≤ p0 ∧ p0 < ((24 : Nat) : Int)) (
 cI .i64 v0 ((Int.toNat p0) * 1) fun v1 =>
 k_fin v1))))
theorem R_fees_Bound_ok {β : Type} (F_fees_bounds : T_fees_bounds) (L : Nat) (p0 : Int) (k : V → Bor → Option β) : funC sh_fees_Bound (cb_fees_Bound F_fees_bounds L) L cf_fees_Bound [(V.sc (.int .i64 p0))] [] k = R_fees_Bound F_fees_bounds L p0 (fun p0 => k (V.sc (.int .i64 p0)) []) := by kernel_rfl
abbrev T_fees_Bound := ∀ (β : Type), Nat → Int → (Int → Option β) → Option β
def F_fees_Bound (β : Type) (L : Nat) (p0 : Int) (k_fin : Int → Option β) : Option β := R_fees_Bound F_fees_bounds L p0 k_fin
def d_fees_Bound (F_fees_Bound : T_fees_Bound) (L : Nat) (β : Type) (args : List V) (bor : Bor) (k : V → Bor → Option β) : Option β := match args, bor with
  | [a0], [] => aI .i64 a0 fun p0 => F_fees_Bound β L p0 (fun p0 => k (V.sc (.int .i64 p0)) [])
  | _, _ => none
theorem d_fees_Bound_ok (L : Nat) (β : Type) (args : List V) (bor : Bor) (k : V → Bor → Option β) (r : β) (h : d_fees_Bound F_fees_Bound L β args bor k = some r) : funC sh_fees_Bound (cb_fees_Bound F_fees_bounds L) L cf_fees_Bound args bor k = some r := by
  unfold d_fees_Bound at h
  split at h
  · have q := aI_inv h; clear h; obtain ⟨p0, rfl, h⟩ := q
    exact (R_fees_Bound_ok F_fees_bounds L p0 k).trans h
  · cases h
/-! fees_Class : 222 -/
def cbbabaa_fees_Class : CC := (.seq (.reg [⟨(some 8), false, none, .bin .lss (.tmp 7) (.const (.sc (.int .i64 24)))⟩])
 (.seq (.cond (.tmp 8)
 .skip
 (.seq (.mask (bl 8 17) (bl 131023 17))
 (.exit 0)))
 (.seq (.block 1 (.seq (.reg [⟨(some 9), false, none, .move (.tmp 7) false⟩,
   ⟨(some 10), false, none, .indexA false 24 1 (.tmp 6) (.tmp 7)⟩,
   ⟨(some 4), false, none, .move (.tmp 9) false⟩,
   ⟨(some 5), false, none, .move (.tmp 10) false⟩])
 (.seq (.reg [⟨(some 11), false, none, .move (.tmp 5) false⟩,
   ⟨(some 12), false, none, .move (.tmp 0) false⟩,
   ⟨(some 13), false, none, .bin .leq (.tmp 11) (.tmp 12)⟩])
 (.cond (.tmp 13)
 (.reg [⟨(some 14), false, none, .move (.tmp 4) false⟩,
   ⟨(some 3), false, none, .move (.tmp 14) false⟩])
 .skip))))
 (.reg [⟨(some 15), false, none, .bin .add (.tmp 7) (.const (.sc (.int .i64 1)))⟩,
   ⟨(some 7), false, none, .move (.tmp 15) false⟩]))))
def cbbb_fees_Class : CC := (.seq (.reg [⟨(some 16), false, none, .move (.tmp 3) false⟩,
   ⟨(some 2), false, none, .move (.tmp 16) false⟩])
 .ret)
def cf_fees_Class : CF := ⟨17, [.tmp 2],
 (.seq (.reg [⟨(some 2), false, none, .move (.const (.sc (.int .i64 0))) false⟩])
 (.seq (.reg [⟨(some 3), false, none, .move (.const (.sc (.int .i64 (-1)))) false⟩])
 (.seq (.seq (.reg [⟨(some 6), false, none, .call 243 [] []⟩,
   ⟨(some 7), false, none, .move (.const (.sc (.int .i64 0))) false⟩])
 (.block 0 (.loop (bl 201 17) (bl 131023 17)
 cbbabaa_fees_Class)))
 cbbb_fees_Class)))⟩
def hint_fees_Class : Hint := ⟨[], [], [none, some ((bl 201 17), (bl 131023 17)), none, some ((bl 8 17), (bl 131023 17)), none, none, none], [], [], false⟩
def sh_fees_Class : Nat → Sh := shOf [(10, (.int .i64))]
def cb_fees_Class (F_fees_bounds : T_fees_bounds) (L : Nat) : CBC := (addC 243 (d_fees_bounds F_fees_bounds L) noC)
def mbbaba_fees_Class : St → St := maskN 0 (bl 201 17) (bl 131023 17)
def st_hbbaba_fees_Class (p0 : Int) (p3 : Int) (p6 : List V) (p7 : Int) : St := ⟨[(V.sc (.int .i64 p0)), .junk, .junk, (V.sc (.int .i64 p3)), .junk, .junk, (V.agg p6), (V.sc (.int .i64 p7)), .junk, .junk, .junk, .junk, .junk, .junk, .junk, .junk, .junk], [.gone, .gone, .gone, .gone, .gone, .gone, .gone, .gone, .gone, .gone, .gone, .gone, .gone, .gone, .gone, .gone, .gone]⟩
def st_x0_fees_Class (p3 : Int) : St := ⟨[.junk, .junk, .junk, (V.sc (.int .i64 p3)), .junk, .junk, .junk, .junk, .junk, .junk, .junk, .junk, .junk, .junk, .junk, .junk, .junk], [.gone, .gone, .gone, .gone, .gone, .gone, .gone, .gone, .gone, .gone, .gone, .gone, .gone, .gone, .gone, .gone, .gone]⟩
def e_fees_Class {β : Type} (F_fees_bounds : T_fees_bounds) (L : Nat) (p0 : Int) (k_hbbaba : Int → Int → List V → Int → Option β) : Option β :=
 F_fees_bounds β L  (fun v0 =>
 k_hbbaba p0 (-1 : Int) v0 (0 : Int))
theorem e_fees_Class_ok {β : Type} (F_fees_bounds : T_fees_bounds) (L : Nat) (p0 : Int) (k : V → Bor → Option β) : funC sh_fees_Class (cb_fees_Class F_fees_bounds L) L cf_fees_Class [(V.sc (.int .i64 p0))] [] k = e_fees_Class F_fees_bounds L p0 (fun p0 p3 p6 p7 => loopM (runC sh_fees_Class (cb_fees_Class F_fees_bounds L) 0 L cbbabaa_fees_Class) mbbaba_fees_Class L (st_hbbaba_fees_Class p0 p3 p6 p7) (blockK 0 (seqK (runC sh_fees_Class (cb_fees_Class F_fees_bounds L) 0 L cbbb_fees_Class) (finK 0 (CF.res cf_fees_Class) k)))) := by kernel_rfl
def bbbaba_fees_Class {β : Type} (F_fees_bounds : T_fees_bounds) (L : Nat) (p0 : Int) (p3 : Int) (p6 : List V) (p7 : Int) (k_hbbaba : Int → Int → List V → Int → Option β) (k_x0 : Int → Option β) : Option β :=
 ifb (decide (p7 < (24 : Int))) (
 chk (0 ≤ p7 ∧ p7 < ((24 : Nat) : Int)) (
 cI .i64 p6 ((Int.toNat p7) * 1) fun v1 =>
 ifb (decide (v1 ≤ p0)) (
 lt (IntKind.wrap .i64 ((p7 : Int) + (1 : Int))) fun x2 =>
 k_hbbaba p0 p7 p6 x2) (
 lt (IntKind.wrap .i64 ((p7 : Int) + (1 : Int))) fun x3 =>
 k_hbbaba p0 p3 p6 x3))) (
 k_x0 p3)
theorem bbbaba_fees_Class_ok {β : Type} (F_fees_bounds : T_fees_bounds) (L : Nat) (p0 : Int) (p3 : Int) (p6 : List V) (p7 : Int) (X : St → Option β) (K : KT β) : runC sh_fees_Class (cb_fees_Class F_fees_bounds L) 0 L cbbabaa_fees_Class (st_hbbaba_fees_Class p0 p3 p6 p7) (loopK mbbaba_fees_Class X K) = bbbaba_fees_Class F_fees_bounds L p0 p3 p6 p7 (fun p0 p3 p6 p7 => X (st_hbbaba_fees_Class p0 p3 p6 p7)) (fun p3 => K (.exit 0) (st_x0_fees_Class p3)) := by kernel_rfl
def rbbabax0_fees_Class {β : Type} (F_fees_bounds : T_fees_bounds) (L : Nat) (p3 : Int) (k_fin : Int → Option β) : Option β :=
 k_fin p3
theorem rbbabax0_fees_Class_ok {β : Type} (F_fees_bounds : T_fees_bounds) (L : Nat) (p3 : Int) (k : V → Bor → Option β) : (blockK 0 (seqK (runC sh_fees_Class (cb_fees_Class F_fees_bounds L) 0 L cbbb_fees_Class) (finK 0 (CF.res cf_fees_Class) k))) (.exit 0) (st_x0_fees_Class p3) = rbbabax0_fees_Class F_fees_bounds L p3 (fun p0 => k (V.sc (.int .i64 p0)) []) := by kernel_rfl
def lbbaba_fees_Class {β : Type} (F_fees_bounds : T_fees_bounds) (L : Nat) (k_x0 : Int → Option β) : Nat → Int → Int → List V → Int → Option β
  | 0, _, _, _, _ => none
  | n + 1, p0, p3, p6, p7 => bbbaba_fees_Class F_fees_bounds L p0 p3 p6 p7 (fun p0 p3 p6 p7 => lbbaba_fees_Class F_fees_bounds L k_x0 n p0 p3 p6 p7) k_x0
theorem lbbaba_fees_Class_ok {β : Type} (F_fees_bounds : T_fees_bounds) (L : Nat) (K : KT β) : ∀ (n : Nat) (p0 : Int) (p3 : Int) (p6 : List V) (p7 : Int), loopM (runC sh_fees_Class (cb_fees_Class F_fees_bounds L) 0 L cbbabaa_fees_Class) mbbaba_fees_Class n (st_hbbaba_fees_Class p0 p3 p6 p7) K = lbbaba_fees_Class F_fees_bounds L (fun p3 => K (.exit 0) (st_x0_fees_Class p3)) n p0 p3 p6 p7 := by
  intro n
  induction n with
  | zero => intros; rfl
  | succ n ih =>
    intro p0 p3 p6 p7
    refine (bbbaba_fees_Class_ok F_fees_bounds L p0 p3 p6 p7 (fun σ => loopM (runC sh_fees_Class (cb_fees_Class F_fees_bounds L) 0 L cbbabaa_fees_Class) mbbaba_fees_Class n σ K) K).trans ?_
    simp only [ih]
    rfl
def R_fees_Class {β : Type} (F_fees_bounds : T_fees_bounds) (L : Nat) (p0 : Int) (k_fin : Int → Option β) : Option β :=
 e_fees_Class F_fees_bounds L p0 (fun p0 p3 p6 p7 => lbbaba_fees_Class F_fees_bounds L (fun p3 => rbbabax0_fees_Class F_fees_bounds L p3 k_fin) L p0 p3 p6 p7)
theorem R_fees_Class_ok {β : Type} (F_fees_bounds : T_fees_bounds) (L : Nat) (p0 : Int) (k : V → Bor → Option β) : funC sh_fees_Class (cb_fees_Class F_fees_bounds L) L cf_fees_Class [(V.sc (.int .i64 p0))] [] k = R_fees_Class F_fees_bounds L p0 (fun p0 => k (V.sc (.int .i64 p0)) []) := by
  refine (e_fees_Class_ok F_fees_bounds L p0 k).trans ?_
  unfold R_fees_Class
  simp only [lbbaba_fees_Class_ok, rbbabax0_fees_Class_ok]
abbrev T_fees_Class := ∀ (β : Type), Nat → Int → (Int → Option β) → Option β
def F_fees_Class (β : Type) (L : Nat) (p0 : Int) (k_fin : Int → Option β) : Option β := R_fees_Class F_fees_bounds L p0 k_fin
def d_fees_Class (F_fees_Class : T_fees_Class) (L : Nat) (β : Type) (args : List V) (bor : Bor) (k : V → Bor → Option β) : Option β := match args, bor with
  | [a0], [] => aI .i64 a0 fun p0 => F_fees_Class β L p0 (fun p0 => k (V.sc (.int .i64 p0)) [])
  | _, _ => none
theorem d_fees_Class_ok (L : Nat) (β : Type) (args : List V) (bor : Bor) (k : V → Bor → Option β) (r : β) (h : d_fees_Class F_fees_Class L β args bor k = some r) : funC sh_fees_Class (cb_fees_Class F_fees_bounds L) L cf_fees_Class args bor k = some r := by
  unfold d_fees_Class at h
  split at h
  · have q := aI_inv h; clear h; obtain ⟨p0, rfl, h⟩ := q
    exact (R_fees_Class_ok F_fees_bounds L p0 k).trans h
  · cases h
/-! fees_Rate : 218 -/
def cf_fees_Rate : CF := ⟨24, [.tmp 4],
 (.seq (.reg [⟨(some 4), false, none, .move (.const (.sc (.int .i64 0))) false⟩])
 (.seq (.seq (.reg [⟨(some 5), false, none, .move (.tmp 0) false⟩,
   ⟨(some 6), false, none, .bin .lss (.tmp 5) (.const (.sc (.int .i64 0)))⟩,
   ⟨(some 7), false, none, .move (.tmp 6) false⟩,
   ⟨(some 8), false, (some (7, false)), .move (.tmp 0) false⟩,
   ⟨(some 9), false, (some (7, false)), .bin .gtr (.tmp 8) (.const (.sc (.int .i64 2100000000000000)))⟩,
   ⟨(some 10), false, none, .pick (.tmp 7) (.const (.sc (.bool true))) (.tmp 9)⟩,
   ⟨(some 11), false, none, .move (.tmp 10) false⟩,
   ⟨(some 12), false, (some (11, false)), .move (.tmp 1) false⟩,
   ⟨(some 13), false, (some (11, false)), .bin .lss (.tmp 12) (.const (.sc (.int .i64 1)))⟩,
   ⟨(some 14), false, none, .pick (.tmp 11) (.const (.sc (.bool true))) (.tmp 13)⟩,
   ⟨(some 15), false, none, .move (.tmp 14) false⟩,
   ⟨(some 16), false, (some (15, false)), .move (.tmp 1) false⟩,
   ⟨(some 17), false, (some (15, false)), .bin .gtr (.tmp 16) (.const (.sc (.int .i64 80000)))⟩,
   ⟨(some 18), false, none, .pick (.tmp 15) (.const (.sc (.bool true))) (.tmp 17)⟩])
 (.cond (.tmp 18)
 (.seq (.reg [⟨(some 4), false, none, .move (.const (.sc (.int .i64 0))) false⟩])
 .ret)
 .skip))
 (.seq (.reg [⟨(some 19), false, none, .move (.tmp 0) false⟩,
   ⟨(some 20), false, none, .bin .mul (.const (.sc (.int .i64 1000))) (.tmp 19)⟩,
   ⟨(some 21), false, none, .move (.tmp 1) false⟩,
   ⟨(some 22), false, none, .bin .quo (.tmp 20) (.tmp 21)⟩,
   ⟨(some 23), false, none, .mm false (.tmp 22) (.const (.sc (.int .i64 1048576)))⟩,
   ⟨(some 4), false, none, .move (.tmp 23) false⟩])
 .ret)))⟩
def hint_fees_Rate : Hint := ⟨[], [], [none, none, none], [], [], false⟩
def sh_fees_Rate : Nat → Sh := shOf []
def cb_fees_Rate (L : Nat) : CBC := noC
def R_fees_Rate {β : Type} (L : Nat) (p0 : Int) (p1 : Int) (k_fin : Int → Option β) : Option β :=
 ifb (decide (p0 < (0 : Int))) (
 k_fin (0 : Int)) (
 ifb (decide (p0 > (2100000000000000 : Int))) (
 k_fin (0 : Int)) (
 ifb (decide (p1 < (1 : Int))) (
 k_fin (0 : Int)) (
 ifb (decide (p1 > (80000 : Int))) (
 k_fin (0 : Int)) (
 lt (IntKind.wrap .i64 (((1000 : Int) : Int) * p0)) fun x0 =>
 chk (p1 ≠ 0) (
 lt (IntKind.wrap .i64 (Int.tdiv x0 p1)) fun x1 =>
 lt (imin x1 (1048576 : Int)) fun x2 =>
 k_fin x2)))))
theorem R_fees_Rate_ok {β : Type} (L : Nat) (p0 : Int) (p1 : Int) (k : V → Bor → Option β) : funC sh_fees_Rate (cb_fees_Rate L) L cf_fees_Rate [(V.sc (.int .i64 p0)), (V.sc (.int .i64 p1))] [] k = R_fees_Rate L p0 p1 (fun p0 => k (V.sc (.int .i64 p0)) []) := by kernel_rfl
abbrev T_fees_Rate := ∀ (β : Type), Nat → Int → Int → (Int → Option β) → Option β
def F_fees_Rate (β : Type) (L : Nat) (p0 : Int) (p1 : Int) (k_fin : Int → Option β) : Option β := R_fees_Rate L p0 p1 k_fin
def d_fees_Rate (F_fees_Rate : T_fees_Rate) (L : Nat) (β : Type) (args : List V) (bor : Bor) (k : V → Bor → Option β) : Option β := match args, bor with
  | [a0, a1], [] => aI .i64 a0 fun p0 => aI .i64 a1 fun p1 => F_fees_Rate β L p0 p1 (fun p0 => k (V.sc (.int .i64 p0)) [])
  | _, _ => none
theorem d_fees_Rate_ok (L : Nat) (β : Type) (args : List V) (bor : Bor) (k : V → Bor → Option β) (r : β) (h : d_fees_Rate F_fees_Rate L β args bor k = some r) : funC sh_fees_Rate (cb_fees_Rate L) L cf_fees_Rate args bor k = some r := by
  unfold d_fees_Rate at h
  split at h
  · have q := aI_inv h; clear h; obtain ⟨p0, rfl, h⟩ := q
    have q := aI_inv h; clear h; obtain ⟨p1, rfl, h⟩ := q
    exact (R_fees_Rate_ok L p0 p1 k).trans h
  · cases h
/-! law33_sane : 216 -/
def cf_law33_sane : CF := ⟨19, [.tmp 0],
 (.seq (.reg [⟨(some 0), false, none, .move (.const (.sc (.bool false))) false⟩])
 (.seq (.reg [⟨(some 1), false, none, .call 220 [((.const (.sc (.int .i64 0))), 0)] []⟩,
   ⟨(some 2), false, none, .bin .eql (.tmp 1) (.const (.sc (.int .i64 10)))⟩,
   ⟨(some 3), false, none, .move (.tmp 2) false⟩,
   ⟨(some 4), false, (some (3, true)), .call 220 [((.const (.sc (.int .i64 3))), 0)] []⟩,
   ⟨(some 5), false, (some (3, true)), .bin .eql (.tmp 4) (.const (.sc (.int .i64 33)))⟩,
   ⟨(some 6), false, none, .pick (.tmp 3) (.tmp 5) (.const (.sc (.bool false)))⟩,
   ⟨(some 7), false, none, .move (.tmp 6) false⟩,
   ⟨(some 8), false, (some (7, true)), .call 222 [((.const (.sc (.int .i64 21))), 0)] []⟩,
   ⟨(some 9), false, (some (7, true)), .bin .eql (.tmp 8) (.const (.sc (.int .i64 1)))⟩,
   ⟨(some 10), false, none, .pick (.tmp 7) (.tmp 9) (.const (.sc (.bool false)))⟩,
   ⟨(some 11), false, none, .move (.tmp 10) false⟩,
   ⟨(some 12), false, (some (11, true)), .call 222 [((.const (.sc (.int .i64 9))), 0)] []⟩,
   ⟨(some 13), false, (some (11, true)), .bin .eql (.tmp 12) (.const (.sc (.int .i64 (-1))))⟩,
   ⟨(some 14), false, none, .pick (.tmp 11) (.tmp 13) (.const (.sc (.bool false)))⟩,
   ⟨(some 15), false, none, .move (.tmp 14) false⟩,
   ⟨(some 16), false, (some (15, true)), .call 218 [((.const (.sc (.int .i64 5))), 0), ((.const (.sc (.int .i64 1000))), 0)] []⟩,
   ⟨(some 17), false, (some (15, true)), .bin .eql (.tmp 16) (.const (.sc (.int .i64 5)))⟩,
   ⟨(some 18), false, none, .pick (.tmp 15) (.tmp 17) (.const (.sc (.bool false)))⟩,
   ⟨(some 0), false, none, .move (.tmp 18) false⟩])
 .ret))⟩
def hint_law33_sane : Hint := ⟨[], [], [none], [], [], false⟩
def sh_law33_sane : Nat → Sh := shOf []
def cb_law33_sane (F_fees_Bound : T_fees_Bound) (F_fees_Class : T_fees_Class) (F_fees_Rate : T_fees_Rate) (L : Nat) : CBC := (addC 218 (d_fees_Rate F_fees_Rate L) (addC 222 (d_fees_Class F_fees_Class L) (addC 220 (d_fees_Bound F_fees_Bound L) noC)))
def R_law33_sane {β : Type} (F_fees_Bound : T_fees_Bound) (F_fees_Class : T_fees_Class) (F_fees_Rate : T_fees_Rate) (L : Nat) (k_fin : Bool → Option β) : Option β :=
 F_fees_Bound β L (0 : Int) (fun v0 =>
 ifb ((v0 : Int) == (10 : Int)) (
 F_fees_Bound β L (3 : Int) (fun v1 =>
 ifb ((v1 : Int) == (33 : Int)) (
 F_fees_Class β L (21 : Int) (fun v2 =>
 ifb ((v2 : Int) == (1 : Int)) (
 F_fees_Class β L (9 : Int) (fun v3 =>
 ifb ((v3 : Int) == (-1 : Int)) (
 F_fees_Rate β L (5 : Int) (1000 : Int) (fun v4 =>
 k_fin ((v4 : Int) == (5 : Int)))) (
 k_fin false))) (
 k_fin false))) (
 k_fin false))) (
 k_fin false))
theorem R_law33_sane_ok {β : Type} (F_fees_Bound : T_fees_Bound) (F_fees_Class : T_fees_Class) (F_fees_Rate : T_fees_Rate) (L : Nat) (k : V → Bor → Option β) : funC sh_law33_sane (cb_law33_sane F_fees_Bound F_fees_Class F_fees_Rate L) L cf_law33_sane [] [] k = R_law33_sane F_fees_Bound F_fees_Class F_fees_Rate L (fun p0 => k (V.sc (.bool p0)) []) := by kernel_rfl
abbrev T_law33_sane := ∀ (β : Type), Nat → (Bool → Option β) → Option β
def F_law33_sane (β : Type) (L : Nat) (k_fin : Bool → Option β) : Option β := R_law33_sane F_fees_Bound F_fees_Class F_fees_Rate L k_fin
def d_law33_sane (F_law33_sane : T_law33_sane) (L : Nat) (β : Type) (args : List V) (bor : Bor) (k : V → Bor → Option β) : Option β := match args, bor with
  | [], [] => F_law33_sane β L (fun p0 => k (V.sc (.bool p0)) [])
  | _, _ => none
theorem d_law33_sane_ok (L : Nat) (β : Type) (args : List V) (bor : Bor) (k : V → Bor → Option β) (r : β) (h : d_law33_sane F_law33_sane L β args bor k = some r) : funC sh_law33_sane (cb_law33_sane F_fees_Bound F_fees_Class F_fees_Rate L) L cf_law33_sane args bor k = some r := by
  unfold d_law33_sane at h
  split at h
  · exact (R_law33_sane_ok F_fees_Bound F_fees_Class F_fees_Rate L k).trans h
  · cases h
/-! mill_New : 225 -/
def cf_mill_New : CF := ⟨6, [.tmp 2],
 (.seq (.reg [⟨(some 2), false, none, .move (.const (.sc (.pointer none))) false⟩])
 (.seq (.reg [⟨(some 3), false, none, .move (.tmp 0) false⟩,
   ⟨(some 4), false, none, .build [(.sl 1 []), (.sc (.int .i64 0))] [(0, 1, (.tmp 3))]⟩,
   ⟨(some 5), false, none, .box false (.tmp 4)⟩,
   ⟨(some 2), false, none, .move (.tmp 5) false⟩])
 .ret))⟩
def hint_mill_New : Hint := ⟨[], [], [none], [], [], false⟩
def sh_mill_New : Nat → Sh := shOf []
def cb_mill_New (L : Nat) : CBC := noC
def R_mill_New {β : Type} (L : Nat) (p0 : List (List V)) (k_fin : List (List V) → Int → Option β) : Option β :=
 k_fin p0 (0 : Int)
theorem R_mill_New_ok {β : Type} (L : Nat) (p0 : List (List V)) (k : V → Bor → Option β) : funC sh_mill_New (cb_mill_New L) L cf_mill_New [(V.sl 1 p0)] [] k = R_mill_New L p0 (fun p0_0 p0_1 => k (V.bx false [(V.sl 1 p0_0), (V.sc (.int .i64 p0_1))]) []) := by kernel_rfl
abbrev T_mill_New := ∀ (β : Type), Nat → List (List V) → (List (List V) → Int → Option β) → Option β
def F_mill_New (β : Type) (L : Nat) (p0 : List (List V)) (k_fin : List (List V) → Int → Option β) : Option β := R_mill_New L p0 k_fin
def d_mill_New (F_mill_New : T_mill_New) (L : Nat) (β : Type) (args : List V) (bor : Bor) (k : V → Bor → Option β) : Option β := match args, bor with
  | [a0], [] => aL 1 a0 fun p0 => F_mill_New β L p0 (fun p0_0 p0_1 => k (V.bx false [(V.sl 1 p0_0), (V.sc (.int .i64 p0_1))]) [])
  | _, _ => none
theorem d_mill_New_ok (L : Nat) (β : Type) (args : List V) (bor : Bor) (k : V → Bor → Option β) (r : β) (h : d_mill_New F_mill_New L β args bor k = some r) : funC sh_mill_New (cb_mill_New L) L cf_mill_New args bor k = some r := by
  unfold d_mill_New at h
  split at h
  · have q := aL_inv h; clear h; obtain ⟨p0, rfl, h⟩ := q
    exact (R_mill_New_ok L p0 k).trans h
  · cases h
/-! mill_Mod : 217 -/
def cf_mill_Mod : CF := ⟨15, [.tmp 4],
 (.seq (.reg [⟨(some 4), false, none, .move (.const (.sc (.int .i64 0))) false⟩])
 (.seq (.reg [⟨(some 6), false, none, .move (.tmp 0) false⟩,
   ⟨(some 7), false, none, .move (.tmp 1) false⟩,
   ⟨(some 8), false, none, .bin .rem (.tmp 6) (.tmp 7)⟩,
   ⟨(some 5), false, none, .move (.tmp 8) false⟩])
 (.seq (.seq (.reg [⟨(some 9), false, none, .move (.tmp 5) false⟩,
   ⟨(some 10), false, none, .bin .lss (.tmp 9) (.const (.sc (.int .i64 0)))⟩])
 (.cond (.tmp 10)
 (.reg [⟨(some 11), false, none, .move (.tmp 5) false⟩,
   ⟨(some 12), false, none, .move (.tmp 1) false⟩,
   ⟨(some 13), false, none, .bin .add (.tmp 11) (.tmp 12)⟩,
   ⟨(some 5), false, none, .move (.tmp 13) false⟩])
 .skip))
 (.seq (.reg [⟨(some 14), false, none, .move (.tmp 5) false⟩,
   ⟨(some 4), false, none, .move (.tmp 14) false⟩])
 .ret))))⟩
def hint_mill_Mod : Hint := ⟨[], [], [none, none], [], [], false⟩
def sh_mill_Mod : Nat → Sh := shOf []
def cb_mill_Mod (L : Nat) : CBC := noC
def R_mill_Mod {β : Type} (L : Nat) (p0 : Int) (p1 : Int) (k_fin : Int → Option β) : Option β :=
 chk (p1 ≠ 0) (
 lt (Int.tmod p0 p1) fun x0 =>
 ifb (decide (x0 < (0 : Int))) (
 lt (IntKind.wrap .i64 ((x0 : Int) + p1)) fun x1 =>
 k_fin x1) (
 k_fin x0))
theorem R_mill_Mod_ok {β : Type} (L : Nat) (p0 : Int) (p1 : Int) (k : V → Bor → Option β) : funC sh_mill_Mod (cb_mill_Mod L) L cf_mill_Mod [(V.sc (.int .i64 p0)), (V.sc (.int .i64 p1))] [] k = R_mill_Mod L p0 p1 (fun p0 => k (V.sc (.int .i64 p0)) []) := by kernel_rfl
abbrev T_mill_Mod := ∀ (β : Type), Nat → Int → Int → (Int → Option β) → Option β
def F_mill_Mod (β : Type) (L : Nat) (p0 : Int) (p1 : Int) (k_fin : Int → Option β) : Option β := R_mill_Mod L p0 p1 k_fin
def d_mill_Mod (F_mill_Mod : T_mill_Mod) (L : Nat) (β : Type) (args : List V) (bor : Bor) (k : V → Bor → Option β) : Option β := match args, bor with
  | [a0, a1], [] => aI .i64 a0 fun p0 => aI .i64 a1 fun p1 => F_mill_Mod β L p0 p1 (fun p0 => k (V.sc (.int .i64 p0)) [])
  | _, _ => none
theorem d_mill_Mod_ok (L : Nat) (β : Type) (args : List V) (bor : Bor) (k : V → Bor → Option β) (r : β) (h : d_mill_Mod F_mill_Mod L β args bor k = some r) : funC sh_mill_Mod (cb_mill_Mod L) L cf_mill_Mod args bor k = some r := by
  unfold d_mill_Mod at h
  split at h
  · have q := aI_inv h; clear h; obtain ⟨p0, rfl, h⟩ := q
    have q := aI_inv h; clear h; obtain ⟨p1, rfl, h⟩ := q
    exact (R_mill_Mod_ok L p0 p1 k).trans h
  · cases h
/-! mill_Deck_Left : 247 -/
def cf_mill_Deck_Left : CF := ⟨13, [.tmp 2],
 (.seq (.reg [⟨(some 2), false, none, .move (.const (.sc (.bool false))) false⟩])
 (.seq (.dreg [] [(⟨(some 3), false, none, .move (.tmp 0) false⟩, q0),
   (⟨(some 4), false, none, .nilCheck (.tmp 3)⟩, q0),
   (⟨(some 5), false, none, .fieldAddr 1 (.tmp 4)⟩, q0),
   (⟨(some 6), false, none, .load false 1 (.tmp 5) false⟩, ⟨true, some 0, [], false⟩),
   (⟨(some 7), false, none, .move (.tmp 0) false⟩, q0),
   (⟨(some 8), false, none, .nilCheck (.tmp 7)⟩, q0),
   (⟨(some 9), false, none, .fieldAddr 0 (.tmp 8)⟩, q0),
   (⟨(some 10), false, none, .load false 1 (.tmp 9) false⟩, ⟨true, some 0, [], false⟩),
   (⟨(some 11), false, none, .lenS (.tmp 10)⟩, q0),
   (⟨(some 12), false, none, .bin .lss (.tmp 6) (.tmp 11)⟩, q0),
   (⟨(some 2), false, none, .move (.tmp 12) false⟩, q0)])
 .ret))⟩
def hint_mill_Deck_Left : Hint := ⟨[], [], [none], [], [], false⟩
def sh_mill_Deck_Left : Nat → Sh := shOf []
def cb_mill_Deck_Left (L : Nat) : CBC := noC
def R_mill_Deck_Left {β : Type} (L : Nat) (b0_0 : List (List V)) (b0_1 : Int) (k_fin : Bool → List (List V) → Int → Option β) : Option β :=
 k_fin (decide (b0_1 < ((List.length b0_0 : Nat) : Int))) b0_0 b0_1
theorem R_mill_Deck_Left_ok {β : Type} (L : Nat) (b0_0 : List (List V)) (b0_1 : Int) (k : V → Bor → Option β) : funC sh_mill_Deck_Left (cb_mill_Deck_Left L) L cf_mill_Deck_Left [(V.ptr 0 0)] [(.live false [(V.sl 1 b0_0), (V.sc (.int .i64 b0_1))])] k = R_mill_Deck_Left L b0_0 b0_1 (fun p0 b0_0 b0_1 => k (V.sc (.bool p0)) [(.live false [(V.sl 1 b0_0), (V.sc (.int .i64 b0_1))])]) := by kernel_rfl
abbrev T_mill_Deck_Left := ∀ (β : Type), Nat → List (List V) → Int → (Bool → List (List V) → Int → Option β) → Option β
def F_mill_Deck_Left (β : Type) (L : Nat) (b0_0 : List (List V)) (b0_1 : Int) (k_fin : Bool → List (List V) → Int → Option β) : Option β := R_mill_Deck_Left L b0_0 b0_1 k_fin
def d_mill_Deck_Left (F_mill_Deck_Left : T_mill_Deck_Left) (L : Nat) (β : Type) (args : List V) (bor : Bor) (k : V → Bor → Option β) : Option β := match args, bor with
  | [a0], [(.live false [w0_0, w0_1])] => aP 0 0 a0 (aL 1 w0_0 fun b0_0 => aI .i64 w0_1 fun b0_1 => F_mill_Deck_Left β L b0_0 b0_1 (fun p0 b0_0 b0_1 => k (V.sc (.bool p0)) [(.live false [(V.sl 1 b0_0), (V.sc (.int .i64 b0_1))])]))
  | _, _ => none
theorem d_mill_Deck_Left_ok (L : Nat) (β : Type) (args : List V) (bor : Bor) (k : V → Bor → Option β) (r : β) (h : d_mill_Deck_Left F_mill_Deck_Left L β args bor k = some r) : funC sh_mill_Deck_Left (cb_mill_Deck_Left L) L cf_mill_Deck_Left args bor k = some r := by
  unfold d_mill_Deck_Left at h
  split at h
  · have q := aP_inv h; clear h; obtain ⟨rfl, h⟩ := q
    have q := aL_inv h; clear h; obtain ⟨b0_0, rfl, h⟩ := q
    have q := aI_inv h; clear h; obtain ⟨b0_1, rfl, h⟩ := q
    exact (R_mill_Deck_Left_ok L b0_0 b0_1 k).trans h
  · cases h
/-! mill_Deck_Next : 231 -/
def cf_mill_Deck_Next : CF := ⟨28, [.tmp 4],
 (.seq (.reg [⟨(some 4), false, none, .move (.const (.sc (.int .i64 0))) false⟩])
 (.seq (.seq (.reg [⟨(some 5), false, none, .move (.tmp 0) false⟩,
   ⟨(some 6), false, none, .call 247 [((.tmp 5), 0)] []⟩,
   ⟨(some 7), false, none, .un .not (.tmp 6)⟩])
 (.cond (.tmp 7)
 (.seq (.reg [⟨(some 4), false, none, .move (.const (.sc (.int .i64 0))) false⟩])
 .ret)
 .skip))
 (.seq (.reg [⟨(some 8), false, none, .move (.tmp 0) false⟩,
   ⟨(some 9), false, none, .nilCheck (.tmp 8)⟩,
   ⟨(some 10), false, none, .fieldAddr 1 (.tmp 9)⟩,
   ⟨(some 11), false, none, .load false 1 (.tmp 10) false⟩,
   ⟨(some 12), false, none, .bin .add (.tmp 11) (.const (.sc (.int .i64 1)))⟩,
   ⟨(some 13), false, none, .nilCheck (.tmp 8)⟩,
   ⟨(some 14), false, none, .fieldAddr 1 (.tmp 13)⟩,
   ⟨none, false, none, .store 1 (.tmp 14) (.tmp 12)⟩])
 (.seq (.dreg [] [(⟨(some 15), false, none, .move (.tmp 0) false⟩, q0),
   (⟨(some 16), false, none, .nilCheck (.tmp 15)⟩, q0),
   (⟨(some 17), false, none, .fieldAddr 0 (.tmp 16)⟩, q0),
   (⟨(some 18), false, none, .load false 1 (.tmp 17) false⟩, ⟨true, some 0, [], false⟩),
   (⟨(some 19), false, none, .move (.tmp 0) false⟩, q0),
   (⟨(some 20), false, none, .nilCheck (.tmp 19)⟩, q0),
   (⟨(some 21), false, none, .fieldAddr 1 (.tmp 20)⟩, q0),
   (⟨(some 22), false, none, .load false 1 (.tmp 21) false⟩, ⟨true, some 0, [], false⟩),
   (⟨(some 23), false, none, .bin .sub (.tmp 22) (.const (.sc (.int .i64 1)))⟩, q0),
   (⟨(some 24), false, none, .indexAddrS 1 (.tmp 18) (.tmp 23)⟩, q0),
   (⟨(some 25), false, none, .load false 1 (.tmp 24) false⟩, q0),
   (⟨(some 26), false, none, .move (.tmp 1) false⟩, q0),
   (⟨(some 27), false, none, .call 217 [((.tmp 25), 0), ((.tmp 26), 0)] []⟩, q0),
   (⟨(some 4), false, none, .move (.tmp 27) false⟩, q0)])
 .ret))))⟩
def hint_mill_Deck_Next : Hint := ⟨[], [], [none, none, none], [], [], false⟩
def sh_mill_Deck_Next : Nat → Sh := shOf [(25, (.int .i64))]
def cb_mill_Deck_Next (F_mill_Deck_Left : T_mill_Deck_Left) (F_mill_Mod : T_mill_Mod) (L : Nat) : CBC := (addC 217 (d_mill_Mod F_mill_Mod L) (addC 247 (d_mill_Deck_Left F_mill_Deck_Left L) noC))
def R_mill_Deck_Next {β : Type} (F_mill_Deck_Left : T_mill_Deck_Left) (F_mill_Mod : T_mill_Mod) (L : Nat) (p1 : Int) (b0_0 : List (List V)) (b0_1 : Int) (k_fin : Int → List (List V) → Int → Option β) : Option β :=
 F_mill_Deck_Left β L b0_0 b0_1 (fun v0 v1 v2 =>
 ifb (!v0) (
 k_fin (0 : Int) v1 v2) (
 lt (IntKind.wrap .i64 ((v2 : Int) + (1 : Int))) fun x3 =>
 lt (IntKind.wrap .i64 ((x3 : Int) - (1 : Int))) fun x4 =>
 idx v1 x4 fun c5 =>
 cI .i64 c5 0 fun v6 =>
 F_mill_Mod β L v6 p1 (fun v7 =>
 k_fin v7 v1 x3)))
theorem R_mill_Deck_Next_ok {β : Type} (F_mill_Deck_Left : T_mill_Deck_Left) (F_mill_Mod : T_mill_Mod) (L : Nat) (p1 : Int) (b0_0 : List (List V)) (b0_1 : Int) (k : V → Bor → Option β) : funC sh_mill_Deck_Next (cb_mill_Deck_Next F_mill_Deck_Left F_mill_Mod L) L cf_mill_Deck_Next [(V.ptr 0 0), (V.sc (.int .i64 p1))] [(.live false [(V.sl 1 b0_0), (V.sc (.int .i64 b0_1))])] k = R_mill_Deck_Next F_mill_Deck_Left F_mill_Mod L p1 b0_0 b0_1 (fun p0 b0_0 b0_1 => k (V.sc (.int .i64 p0)) [(.live false [(V.sl 1 b0_0), (V.sc (.int .i64 b0_1))])]) := by kernel_rfl
abbrev T_mill_Deck_Next := ∀ (β : Type), Nat → Int → List (List V) → Int → (Int → List (List V) → Int → Option β) → Option β
def F_mill_Deck_Next (β : Type) (L : Nat) (p1 : Int) (b0_0 : List (List V)) (b0_1 : Int) (k_fin : Int → List (List V) → Int → Option β) : Option β := R_mill_Deck_Next F_mill_Deck_Left F_mill_Mod L p1 b0_0 b0_1 k_fin
def d_mill_Deck_Next (F_mill_Deck_Next : T_mill_Deck_Next) (L : Nat) (β : Type) (args : List V) (bor : Bor) (k : V → Bor → Option β) : Option β := match args, bor with
  | [a0, a1], [(.live false [w0_0, w0_1])] => aP 0 0 a0 (aI .i64 a1 fun p1 => aL 1 w0_0 fun b0_0 => aI .i64 w0_1 fun b0_1 => F_mill_Deck_Next β L p1 b0_0 b0_1 (fun p0 b0_0 b0_1 => k (V.sc (.int .i64 p0)) [(.live false [(V.sl 1 b0_0), (V.sc (.int .i64 b0_1))])]))
  | _, _ => none
theorem d_mill_Deck_Next_ok (L : Nat) (β : Type) (args : List V) (bor : Bor) (k : V → Bor → Option β) (r : β) (h : d_mill_Deck_Next F_mill_Deck_Next L β args bor k = some r) : funC sh_mill_Deck_Next (cb_mill_Deck_Next F_mill_Deck_Left F_mill_Mod L) L cf_mill_Deck_Next args bor k = some r := by
  unfold d_mill_Deck_Next at h
  split at h
  · have q := aP_inv h; clear h; obtain ⟨rfl, h⟩ := q
    have q := aI_inv h; clear h; obtain ⟨p1, rfl, h⟩ := q
    have q := aL_inv h; clear h; obtain ⟨b0_0, rfl, h⟩ := q
    have q := aI_inv h; clear h; obtain ⟨b0_1, rfl, h⟩ := q
    exact (R_mill_Deck_Next_ok F_mill_Deck_Left F_mill_Mod L p1 b0_0 b0_1 k).trans h
  · cases h
/-! mill_Hash : 236 -/
def cf_mill_Hash : CF := ⟨10, [.cell 2 true 32],
 (.seq (.reg [⟨(some 2), false, none, .alloc true (List.replicate 32 (.sc (.int .u8 0)))⟩])
 (.seq (.reg [⟨(some 3), false, none, .move (.tmp 0) false⟩,
   ⟨(some 4), false, none, .call 231 [((.tmp 3), 0), ((.const (.sc (.int .i64 5))), 0)] []⟩,
   ⟨(some 5), false, none, .conv .u8 (.tmp 4)⟩,
   ⟨(some 6), false, none, .move (.tmp 0) false⟩,
   ⟨(some 7), false, none, .call 231 [((.tmp 6), 0), ((.const (.sc (.int .i64 7))), 0)] []⟩,
   ⟨(some 8), false, none, .conv .u8 (.tmp 7)⟩,
   ⟨(some 9), false, none, .build (List.replicate 32 (.sc (.int .u8 0))) [(0, 1, (.tmp 5)), (31, 1, (.tmp 8))]⟩,
   ⟨none, false, none, .store 32 (.tmp 2) (.tmp 9)⟩])
 .ret))⟩
def hint_mill_Hash : Hint := ⟨[], [], [none], [], [], false⟩
def sh_mill_Hash : Nat → Sh := shOf []
def cb_mill_Hash (F_mill_Deck_Next : T_mill_Deck_Next) (L : Nat) : CBC := (addC 231 (d_mill_Deck_Next F_mill_Deck_Next L) noC)
def R_mill_Hash {β : Type} (F_mill_Deck_Next : T_mill_Deck_Next) (L : Nat) (b0_0 : List (List V)) (b0_1 : Int) (k_fin : List V → List (List V) → Int → Option β) : Option β :=
 F_mill_Deck_Next β L (5 : Int) b0_0 b0_1 (fun v0 v1 v2 =>
 lt (IntKind.wrap .u8 v0) fun x3 =>
 F_mill_Deck_Next β L (7 : Int) v1 v2 (fun v4 v5 v6 =>
 lt (IntKind.wrap .u8 v4) fun x7 =>
 lt ([(V.sc (.int .u8 x3))] ++ List.replicate 30 (V.sc (.int .u8 (0 : Int))) ++ [(V.sc (.int .u8 x7))]) fun r8 =>
 chk (0 = 0 ∧ (List.length r8) = 32 ∧ 32 ≠ 0) (
 k_fin r8 v5 v6)))
theorem R_mill_Hash_ok {β : Type} (F_mill_Deck_Next : T_mill_Deck_Next) (L : Nat) (b0_0 : List (List V)) (b0_1 : Int) (k : V → Bor → Option β) : funC sh_mill_Hash (cb_mill_Hash F_mill_Deck_Next L) L cf_mill_Hash [(V.ptr 0 0)] [(.live false [(V.sl 1 b0_0), (V.sc (.int .i64 b0_1))])] k = R_mill_Hash F_mill_Deck_Next L b0_0 b0_1 (fun p0 b0_0 b0_1 => k (V.agg p0) [(.live false [(V.sl 1 b0_0), (V.sc (.int .i64 b0_1))])]) := by kernel_rfl
abbrev T_mill_Hash := ∀ (β : Type), Nat → List (List V) → Int → (List V → List (List V) → Int → Option β) → Option β
def F_mill_Hash (β : Type) (L : Nat) (b0_0 : List (List V)) (b0_1 : Int) (k_fin : List V → List (List V) → Int → Option β) : Option β := R_mill_Hash F_mill_Deck_Next L b0_0 b0_1 k_fin
def d_mill_Hash (F_mill_Hash : T_mill_Hash) (L : Nat) (β : Type) (args : List V) (bor : Bor) (k : V → Bor → Option β) : Option β := match args, bor with
  | [a0], [(.live false [w0_0, w0_1])] => aP 0 0 a0 (aL 1 w0_0 fun b0_0 => aI .i64 w0_1 fun b0_1 => F_mill_Hash β L b0_0 b0_1 (fun p0 b0_0 b0_1 => k (V.agg p0) [(.live false [(V.sl 1 b0_0), (V.sc (.int .i64 b0_1))])]))
  | _, _ => none
theorem d_mill_Hash_ok (L : Nat) (β : Type) (args : List V) (bor : Bor) (k : V → Bor → Option β) (r : β) (h : d_mill_Hash F_mill_Hash L β args bor k = some r) : funC sh_mill_Hash (cb_mill_Hash F_mill_Deck_Next L) L cf_mill_Hash args bor k = some r := by
  unfold d_mill_Hash at h
  split at h
  · have q := aP_inv h; clear h; obtain ⟨rfl, h⟩ := q
    have q := aL_inv h; clear h; obtain ⟨b0_0, rfl, h⟩ := q
    have q := aI_inv h; clear h; obtain ⟨b0_1, rfl, h⟩ := q
    exact (R_mill_Hash_ok F_mill_Deck_Next L b0_0 b0_1 k).trans h
  · cases h
/-! mill_Hashes : 233 -/
def cbbabaa_mill_Hashes : CC := (.seq (.seq (.reg [⟨(some 11), false, none, .move (.tmp 6) false⟩,
   ⟨(some 12), false, none, .bin .gtr (.tmp 11) (.const (.sc (.int .i64 0)))⟩])
 (.cond (.tmp 12)
 .skip
 (.seq (.mask (bl 32 21) (bl 1179583 21))
 (.exit 0))))
 (.seq (.block 1 (.reg [⟨(some 15), false, none, .move (.tmp 5) true⟩,
   ⟨(some 16), false, none, .move (.tmp 0) false⟩,
   ⟨(some 17), false, none, .call 236 [((.tmp 16), 0)] []⟩,
   ⟨(some 18), false, none, .buildSlice 32 1 (List.replicate 32 (.sc (.int .u8 0))) [(0, 32, (.tmp 17))]⟩,
   ⟨(some 19), false, none, .append 32 32 (.tmp 15) (.tmp 18)⟩,
   ⟨(some 5), false, none, .move (.tmp 19) true⟩]))
 (.reg [⟨(some 13), false, none, .move (.tmp 6) false⟩,
   ⟨(some 14), false, none, .bin .sub (.tmp 13) (.const (.sc (.int .i64 1)))⟩,
   ⟨(some 6), false, none, .move (.tmp 14) false⟩])))
def cbbb_mill_Hashes : CC := (.seq (.reg [⟨(some 20), false, none, .move (.tmp 5) true⟩,
   ⟨(some 4), false, none, .move (.tmp 20) true⟩])
 .ret)
def cf_mill_Hashes : CF := ⟨21, [.tmp 4],
 (.seq (.reg [⟨(some 4), false, none, .move (.const (.gs 32 [])) true⟩])
 (.seq (.reg [⟨(some 5), false, none, .move (.const (.gs 32 [])) true⟩])
 (.seq (.seq (.reg [⟨(some 7), false, none, .move (.tmp 0) false⟩,
   ⟨(some 8), false, none, .move (.tmp 1) false⟩,
   ⟨(some 9), false, none, .bin .add (.tmp 8) (.const (.sc (.int .i64 1)))⟩,
   ⟨(some 10), false, none, .call 231 [((.tmp 7), 0), ((.tmp 9), 0)] []⟩,
   ⟨(some 6), false, none, .move (.tmp 10) false⟩])
 (.block 0 (.loop (bl 97 21) (bl 1179647 21)
 cbbabaa_mill_Hashes)))
 cbbb_mill_Hashes)))⟩
def hint_mill_Hashes : Hint := ⟨[(0, 0), (1, 0), (5, 0), (5, 5), (6, 0), (6, 1)], [], [none, some ((bl 97 21), (bl 1179647 21)), none, some ((bl 32 21), (bl 1179583 21)), none, none], [], [], false⟩
def sh_mill_Hashes : Nat → Sh := shOf []
def cb_mill_Hashes (F_mill_Deck_Next : T_mill_Deck_Next) (F_mill_Hash : T_mill_Hash) (L : Nat) : CBC := (addC 236 (d_mill_Hash F_mill_Hash L) (addC 231 (d_mill_Deck_Next F_mill_Deck_Next L) noC))
def mbbaba_mill_Hashes : St → St := maskN 1 (bl 97 21) (bl 1179647 21)
def st_hbbaba_mill_Hashes (p5 : List (List V)) (p6 : Int) (b0_0 : List (List V)) (b0_1 : Int) : St := ⟨[(V.ptr 0 0), .junk, .junk, .junk, .junk, (V.gs 32 p5), (V.sc (.int .i64 p6)), .junk, .junk, .junk, .junk, .junk, .junk, .junk, .junk, .junk, .junk, .junk, .junk, .junk, .junk], [(.live false [(V.sl 1 b0_0), (V.sc (.int .i64 b0_1))]), .gone, .gone, .gone, .gone, .gone, .gone, .gone, .gone, .gone, .gone, .gone, .gone, .gone, .gone, .gone, .gone, .gone, .gone, .gone, .gone, .gone]⟩
def st_x0_mill_Hashes (p5 : List (List V)) (b0_0 : List (List V)) (b0_1 : Int) : St := ⟨[.junk, .junk, .junk, .junk, .junk, (V.gs 32 p5), .junk, .junk, .junk, .junk, .junk, .junk, .junk, .junk, .junk, .junk, .junk, .junk, .junk, .junk, .junk], [(.live false [(V.sl 1 b0_0), (V.sc (.int .i64 b0_1))]), .gone, .gone, .gone, .gone, .gone, .gone, .gone, .gone, .gone, .gone, .gone, .gone, .gone, .gone, .gone, .gone, .gone, .gone, .gone, .gone, .gone]⟩
def e_mill_Hashes {β : Type} (F_mill_Deck_Next : T_mill_Deck_Next) (F_mill_Hash : T_mill_Hash) (L : Nat) (p1 : Int) (b0_0 : List (List V)) (b0_1 : Int) (k_hbbaba : List (List V) → Int → List (List V) → Int → Option β) : Option β :=
 lt (IntKind.wrap .i64 ((p1 : Int) + (1 : Int))) fun x0 =>
 F_mill_Deck_Next β L x0 b0_0 b0_1 (fun v1 v2 v3 =>
 k_hbbaba ([] : List (List V)) v1 v2 v3)
theorem e_mill_Hashes_ok {β : Type} (F_mill_Deck_Next : T_mill_Deck_Next) (F_mill_Hash : T_mill_Hash) (L : Nat) (p1 : Int) (b0_0 : List (List V)) (b0_1 : Int) (k : V → Bor → Option β) : funC sh_mill_Hashes (cb_mill_Hashes F_mill_Deck_Next F_mill_Hash L) L cf_mill_Hashes [(V.ptr 0 0), (V.sc (.int .i64 p1))] [(.live false [(V.sl 1 b0_0), (V.sc (.int .i64 b0_1))])] k = e_mill_Hashes F_mill_Deck_Next F_mill_Hash L p1 b0_0 b0_1 (fun p5 p6 b0_0 b0_1 => loopM (runC sh_mill_Hashes (cb_mill_Hashes F_mill_Deck_Next F_mill_Hash L) 1 L cbbabaa_mill_Hashes) mbbaba_mill_Hashes L (st_hbbaba_mill_Hashes p5 p6 b0_0 b0_1) (blockK 0 (seqK (runC sh_mill_Hashes (cb_mill_Hashes F_mill_Deck_Next F_mill_Hash L) 1 L cbbb_mill_Hashes) (finK 1 (CF.res cf_mill_Hashes) k)))) := by kernel_rfl
def bbbaba_mill_Hashes {β : Type} (F_mill_Deck_Next : T_mill_Deck_Next) (F_mill_Hash : T_mill_Hash) (L : Nat) (p5 : List (List V)) (p6 : Int) (b0_0 : List (List V)) (b0_1 : Int) (k_hbbaba : List (List V) → Int → List (List V) → Int → Option β) (k_x0 : List (List V) → List (List V) → Int → Option β) : Option β :=
 ifb (decide (p6 > (0 : Int))) (
 F_mill_Hash β L b0_0 b0_1 (fun v4 v5 v6 =>
 chk ((List.length v4) = 32 ∧ 0 + 32 ≤ 32) (
 chk ((List.length p5 + List.length (chunks 32 1 (setAt (List.replicate 32 (V.sc (.int .u8 (0 : Int)))) 0 v4))) * 32 ≤ sizeCap ∧ List.length p5 + List.length (chunks 32 1 (setAt (List.replicate 32 (V.sc (.int .u8 (0 : Int)))) 0 v4)) ≤ sizeCap) (
 lt (p5 ++ (chunks 32 1 (setAt (List.replicate 32 (V.sc (.int .u8 (0 : Int)))) 0 v4))) fun l7 =>
 lt (IntKind.wrap .i64 ((p6 : Int) - (1 : Int))) fun x8 =>
 k_hbbaba l7 x8 v5 v6)))) (
 k_x0 p5 b0_0 b0_1)
theorem bbbaba_mill_Hashes_ok {β : Type} (F_mill_Deck_Next : T_mill_Deck_Next) (F_mill_Hash : T_mill_Hash) (L : Nat) (p5 : List (List V)) (p6 : Int) (b0_0 : List (List V)) (b0_1 : Int) (X : St → Option β) (K : KT β) : runC sh_mill_Hashes (cb_mill_Hashes F_mill_Deck_Next F_mill_Hash L) 1 L cbbabaa_mill_Hashes (st_hbbaba_mill_Hashes p5 p6 b0_0 b0_1) (loopK mbbaba_mill_Hashes X K) = bbbaba_mill_Hashes F_mill_Deck_Next F_mill_Hash L p5 p6 b0_0 b0_1 (fun p5 p6 b0_0 b0_1 => X (st_hbbaba_mill_Hashes p5 p6 b0_0 b0_1)) (fun p5 b0_0 b0_1 => K (.exit 0) (st_x0_mill_Hashes p5 b0_0 b0_1)) := by kernel_rfl
def rbbabax0_mill_Hashes {β : Type} (F_mill_Deck_Next : T_mill_Deck_Next) (F_mill_Hash : T_mill_Hash) (L : Nat) (p5 : List (List V)) (b0_0 : List (List V)) (b0_1 : Int) (k_fin : List (List V) → List (List V) → Int → Option β) : Option β :=
 k_fin p5 b0_0 b0_1
theorem rbbabax0_mill_Hashes_ok {β : Type} (F_mill_Deck_Next : T_mill_Deck_Next) (F_mill_Hash : T_mill_Hash) (L : Nat) (p5 : List (List V)) (b0_0 : List (List V)) (b0_1 : Int) (k : V → Bor → Option β) : (blockK 0 (seqK (runC sh_mill_Hashes (cb_mill_Hashes F_mill_Deck_Next F_mill_Hash L) 1 L cbbb_mill_Hashes) (finK 1 (CF.res cf_mill_Hashes) k))) (.exit 0) (st_x0_mill_Hashes p5 b0_0 b0_1) = rbbabax0_mill_Hashes F_mill_Deck_Next F_mill_Hash L p5 b0_0 b0_1 (fun p0 b0_0 b0_1 => k (V.gs 32 p0) [(.live false [(V.sl 1 b0_0), (V.sc (.int .i64 b0_1))])]) := by kernel_rfl
def lbbaba_mill_Hashes {β : Type} (F_mill_Deck_Next : T_mill_Deck_Next) (F_mill_Hash : T_mill_Hash) (L : Nat) (k_x0 : List (List V) → List (List V) → Int → Option β) : Nat → List (List V) → Int → List (List V) → Int → Option β
  | 0, _, _, _, _ => none
  | n + 1, p5, p6, b0_0, b0_1 => bbbaba_mill_Hashes F_mill_Deck_Next F_mill_Hash L p5 p6 b0_0 b0_1 (fun p5 p6 b0_0 b0_1 => lbbaba_mill_Hashes F_mill_Deck_Next F_mill_Hash L k_x0 n p5 p6 b0_0 b0_1) k_x0
theorem lbbaba_mill_Hashes_ok {β : Type} (F_mill_Deck_Next : T_mill_Deck_Next) (F_mill_Hash : T_mill_Hash) (L : Nat) (K : KT β) : ∀ (n : Nat) (p5 : List (List V)) (p6 : Int) (b0_0 : List (List V)) (b0_1 : Int), loopM (runC sh_mill_Hashes (cb_mill_Hashes F_mill_Deck_Next F_mill_Hash L) 1 L cbbabaa_mill_Hashes) mbbaba_mill_Hashes n (st_hbbaba_mill_Hashes p5 p6 b0_0 b0_1) K = lbbaba_mill_Hashes F_mill_Deck_Next F_mill_Hash L (fun p5 b0_0 b0_1 => K (.exit 0) (st_x0_mill_Hashes p5 b0_0 b0_1)) n p5 p6 b0_0 b0_1 := by
  intro n
  induction n with
  | zero => intros; rfl
  | succ n ih =>
    intro p5 p6 b0_0 b0_1
    refine (bbbaba_mill_Hashes_ok F_mill_Deck_Next F_mill_Hash L p5 p6 b0_0 b0_1 (fun σ => loopM (runC sh_mill_Hashes (cb_mill_Hashes F_mill_Deck_Next F_mill_Hash L) 1 L cbbabaa_mill_Hashes) mbbaba_mill_Hashes n σ K) K).trans ?_
    simp only [ih]
    rfl
def R_mill_Hashes {β : Type} (F_mill_Deck_Next : T_mill_Deck_Next) (F_mill_Hash : T_mill_Hash) (L : Nat) (p1 : Int) (b0_0 : List (List V)) (b0_1 : Int) (k_fin : List (List V) → List (List V) → Int → Option β) : Option β :=
 e_mill_Hashes F_mill_Deck_Next F_mill_Hash L p1 b0_0 b0_1 (fun p5 p6 b0_0 b0_1 => lbbaba_mill_Hashes F_mill_Deck_Next F_mill_Hash L (fun p5 b0_0 b0_1 => rbbabax0_mill_Hashes F_mill_Deck_Next F_mill_Hash L p5 b0_0 b0_1 k_fin) L p5 p6 b0_0 b0_1)
theorem R_mill_Hashes_ok {β : Type} (F_mill_Deck_Next : T_mill_Deck_Next) (F_mill_Hash : T_mill_Hash) (L : Nat) (p1 : Int) (b0_0 : List (List V)) (b0_1 : Int) (k : V → Bor → Option β) : funC sh_mill_Hashes (cb_mill_Hashes F_mill_Deck_Next F_mill_Hash L) L cf_mill_Hashes [(V.ptr 0 0), (V.sc (.int .i64 p1))] [(.live false [(V.sl 1 b0_0), (V.sc (.int .i64 b0_1))])] k = R_mill_Hashes F_mill_Deck_Next F_mill_Hash L p1 b0_0 b0_1 (fun p0 b0_0 b0_1 => k (V.gs 32 p0) [(.live false [(V.sl 1 b0_0), (V.sc (.int .i64 b0_1))])]) := by
  refine (e_mill_Hashes_ok F_mill_Deck_Next F_mill_Hash L p1 b0_0 b0_1 k).trans ?_
  unfold R_mill_Hashes
  simp only [lbbaba_mill_Hashes_ok, rbbabax0_mill_Hashes_ok]
abbrev T_mill_Hashes := ∀ (β : Type), Nat → Int → List (List V) → Int → (List (List V) → List (List V) → Int → Option β) → Option β
def F_mill_Hashes (β : Type) (L : Nat) (p1 : Int) (b0_0 : List (List V)) (b0_1 : Int) (k_fin : List (List V) → List (List V) → Int → Option β) : Option β := R_mill_Hashes F_mill_Deck_Next F_mill_Hash L p1 b0_0 b0_1 k_fin
def d_mill_Hashes (F_mill_Hashes : T_mill_Hashes) (L : Nat) (β : Type) (args : List V) (bor : Bor) (k : V → Bor → Option β) : Option β := match args, bor with
  | [a0, a1], [(.live false [w0_0, w0_1])] => aP 0 0 a0 (aI .i64 a1 fun p1 => aL 1 w0_0 fun b0_0 => aI .i64 w0_1 fun b0_1 => F_mill_Hashes β L p1 b0_0 b0_1 (fun p0 b0_0 b0_1 => k (V.gs 32 p0) [(.live false [(V.sl 1 b0_0), (V.sc (.int .i64 b0_1))])]))
  | _, _ => none
theorem d_mill_Hashes_ok (L : Nat) (β : Type) (args : List V) (bor : Bor) (k : V → Bor → Option β) (r : β) (h : d_mill_Hashes F_mill_Hashes L β args bor k = some r) : funC sh_mill_Hashes (cb_mill_Hashes F_mill_Deck_Next F_mill_Hash L) L cf_mill_Hashes args bor k = some r := by
  unfold d_mill_Hashes at h
  split at h
  · have q := aP_inv h; clear h; obtain ⟨rfl, h⟩ := q
    have q := aI_inv h; clear h; obtain ⟨p1, rfl, h⟩ := q
    have q := aL_inv h; clear h; obtain ⟨b0_0, rfl, h⟩ := q
    have q := aI_inv h; clear h; obtain ⟨b0_1, rfl, h⟩ := q
    exact (R_mill_Hashes_ok F_mill_Deck_Next F_mill_Hash L p1 b0_0 b0_1 k).trans h
  · cases h
/-! ref33_Confirm : 238 -/
def cbbabaabaabaa_ref33_Confirm : CC := (.seq (.seq (.reg [⟨(some 19), false, none, .move (.tmp 9) false⟩,
   ⟨(some 20), false, none, .move (.tmp 1) false⟩,
   ⟨(some 21), false, none, .lenS (.tmp 20)⟩,
   ⟨(some 22), false, none, .bin .lss (.tmp 19) (.tmp 21)⟩])
 (.cond (.tmp 22)
 .skip
 (.seq (.mask (bl 390 58) (bl 288230376149614079 58))
 (.exit 2))))
 (.seq (.block 3 (.seq (.dreg [] [(⟨(some 25), false, none, .move (.tmp 7) false⟩, q0),
   (⟨(some 26), false, none, .move (.tmp 8) false⟩, q0),
   (⟨(some 27), false, none, .indexAddrS 35 (.tmp 25) (.tmp 26)⟩, q0),
   (⟨(some 28), false, none, .fieldAddr 0 (.tmp 27)⟩, q0),
   (⟨(some 29), false, none, .load true 32 (.tmp 28) false⟩, q1),
   (⟨(some 30), false, none, .move (.tmp 1) false⟩, q0),
   (⟨(some 31), false, none, .move (.tmp 9) false⟩, q0),
   (⟨(some 32), false, none, .indexAddrS 32 (.tmp 30) (.tmp 31)⟩, q0),
   (⟨(some 33), false, none, .load true 32 (.tmp 32) false⟩, q1),
   (⟨(some 34), false, none, .eqAgg false 32 (.tmp 29) (.tmp 33)⟩, q0),
   (⟨(some 35), false, none, .move (.tmp 34) false⟩, q0),
   (⟨(some 36), false, (some (35, true)), .move (.tmp 7) false⟩, q0),
   (⟨(some 37), false, (some (35, true)), .move (.tmp 8) false⟩, q0),
   (⟨(some 38), false, (some (35, true)), .indexAddrS 35 (.tmp 36) (.tmp 37)⟩, q0),
   (⟨(some 39), false, (some (35, true)), .fieldAddr 34 (.tmp 38)⟩, q0),
   (⟨(some 40), false, (some (35, true)), .load false 1 (.tmp 39) false⟩, q0),
   (⟨(some 41), false, (some (35, true)), .bin .eql (.tmp 40) (.const (.sc (.int .i64 0)))⟩, q0),
   (⟨(some 42), false, none, .pick (.tmp 35) (.tmp 41) (.const (.sc (.bool false)))⟩, q0),
   (⟨(some 43), false, none, .move (.tmp 42) false⟩, q0),
   (⟨(some 44), false, (some (43, true)), .move (.tmp 7) false⟩, q0),
   (⟨(some 45), false, (some (43, true)), .move (.tmp 8) false⟩, q0),
   (⟨(some 46), false, (some (43, true)), .indexAddrS 35 (.tmp 44) (.tmp 45)⟩, q0),
   (⟨(some 47), false, (some (43, true)), .fieldAddr 33 (.tmp 46)⟩, q0),
   (⟨(some 48), false, (some (43, true)), .load false 1 (.tmp 47) false⟩, q0),
   (⟨(some 49), false, (some (43, true)), .move (.tmp 2) false⟩, q0),
   (⟨(some 50), false, (some (43, true)), .bin .lss (.tmp 48) (.tmp 49)⟩, q0),
   (⟨(some 51), false, none, .pick (.tmp 43) (.tmp 50) (.const (.sc (.bool false)))⟩, q0)])
 (.cond (.tmp 51)
 (.reg [⟨(some 52), false, none, .move (.tmp 7) false⟩,
   ⟨(some 53), false, none, .move (.tmp 8) false⟩,
   ⟨(some 54), false, none, .move (.tmp 2) false⟩,
   ⟨(some 55), false, none, .indexAddrS 35 (.tmp 52) (.tmp 53)⟩,
   ⟨(some 56), false, none, .fieldAddr 34 (.tmp 55)⟩,
   ⟨none, false, none, .store 1 (.tmp 56) (.tmp 54)⟩])
 .skip)))
 (.reg [⟨(some 23), false, none, .move (.tmp 9) false⟩,
   ⟨(some 24), false, none, .bin .add (.tmp 23) (.const (.sc (.int .i64 1)))⟩,
   ⟨(some 9), false, none, .move (.tmp 24) false⟩])))
def cbbabaabb_ref33_Confirm : CC := (.reg [⟨(some 17), false, none, .move (.tmp 8) false⟩,
   ⟨(some 18), false, none, .bin .add (.tmp 17) (.const (.sc (.int .i64 1)))⟩,
   ⟨(some 8), false, none, .move (.tmp 18) false⟩])
def cbbabaa_ref33_Confirm : CC := (.seq (.seq (.reg [⟨(some 13), false, none, .move (.tmp 8) false⟩,
   ⟨(some 14), false, none, .move (.tmp 7) false⟩,
   ⟨(some 15), false, none, .lenS (.tmp 14)⟩,
   ⟨(some 16), false, none, .bin .lss (.tmp 13) (.tmp 15)⟩])
 (.cond (.tmp 16)
 .skip
 (.seq (.mask (bl 128 58) (bl 288230376149581055 58))
 (.exit 0))))
 (.seq (.block 1 (.seq (.reg [⟨(some 9), false, none, .move (.const (.sc (.int .i64 0))) false⟩])
 (.block 2 (.loop (bl 902 58) (bl 288230376149614591 58)
 cbbabaabaabaa_ref33_Confirm))))
 cbbabaabb_ref33_Confirm))
def cbbb_ref33_Confirm : CC := (.seq (.reg [⟨(some 57), false, none, .move (.tmp 7) true⟩,
   ⟨(some 6), false, none, .move (.tmp 57) true⟩])
 .ret)
def cf_ref33_Confirm : CF := ⟨58, [.tmp 6],
 (.seq (.reg [⟨(some 6), false, none, .move (.const (.gs 35 [])) true⟩])
 (.seq (.reg [⟨(some 10), true, none, .buildSlice 35 0 [(.sc (.int .u8 0)), (.sc (.int .u8 0)), (.sc (.int .u8 0)), (.sc (.int .u8 0)), (.sc (.int .u8 0)), (.sc (.int .u8 0)), (.sc (.int .u8 0)), (.sc (.int .u8 0)), (.sc (.int .u8 0)), (.sc (.int .u8 0)), (.sc (.int .u8 0)), (.sc (.int .u8 0)), (.sc (.int .u8 0)), (.sc (.int .u8 0)), (.sc (.int .u8 0)), (.sc (.int .u8 0)), (.sc (.int .u8 0)), (.sc (.int .u8 0)), (.sc (.int .u8 0)), (.sc (.int .u8 0)), (.sc (.int .u8 0)), (.sc (.int .u8 0)), (.sc (.int .u8 0)), (.sc (.int .u8 0)), (.sc (.int .u8 0)), (.sc (.int .u8 0)), (.sc (.int .u8 0)), (.sc (.int .u8 0)), (.sc (.int .u8 0)), (.sc (.int .u8 0)), (.sc (.int .u8 0)), (.sc (.int .u8 0)), (.sc (.int .i64 0)), (.sc (.int .i64 0)), (.sc (.int .i64 0))] []⟩,
   ⟨(some 11), false, none, .move (.tmp 0) false⟩,
   ⟨(some 12), true, none, .append 35 56 (.tmp 10) (.tmp 11)⟩,
   ⟨(some 7), false, none, .move (.tmp 12) true⟩])
 (.seq (.seq (.reg [⟨(some 8), false, none, .move (.const (.sc (.int .i64 0))) false⟩])
 (.block 0 (.loop (bl 390 58) (bl 288230376149581311 58)
 cbbabaa_ref33_Confirm)))
 cbbb_ref33_Confirm)))⟩
def hint_ref33_Confirm : Hint := ⟨[(0, 0), (1, 3), (10, 0), (10, 1)], [(1, 0), (1, 2)], [none, some ((bl 390 58), (bl 288230376149581311 58)), none, some ((bl 128 58), (bl 288230376149581055 58)), none, none, some ((bl 902 58), (bl 288230376149614591 58)), none, some ((bl 390 58), (bl 288230376149614079 58)), none, none, none], [], [], false⟩
def sh_ref33_Confirm : Nat → Sh := shOf [(40, (.int .i64)), (48, (.int .i64))]
def cb_ref33_Confirm (L : Nat) : CBC := noC
def mbbaba_ref33_Confirm : St → St := maskN 0 (bl 390 58) (bl 288230376149581311 58)
def mbbabaabaaba_ref33_Confirm : St → St := maskN 0 (bl 902 58) (bl 288230376149614591 58)
def st_hbbaba_ref33_Confirm (p1 : List (List V)) (p2 : Int) (p7l : Nat) (p8 : Int) (b10 : Nat) (b12 : List V) : St := ⟨[.junk, (V.sl 32 p1), (V.sc (.int .i64 p2)), .junk, .junk, .junk, .junk, (V.own 12 0 p7l 35), (V.sc (.int .i64 p8)), .junk, .junk, .junk, .junk, .junk, .junk, .junk, .junk, .junk, .junk, .junk, .junk, .junk, .junk, .junk, .junk, .junk, .junk, .junk, .junk, .junk, .junk, .junk, .junk, .junk, .junk, .junk, .junk, .junk, .junk, .junk, .junk, .junk, .junk, .junk, .junk, .junk, .junk, .junk, .junk, .junk, .junk, .junk, .junk, .junk, .junk, .junk, .junk, .junk], [.gone, .gone, .gone, .gone, .gone, .gone, .gone, .gone, .gone, .gone, (.dead b10), .gone, (.live true b12), .gone, .gone, .gone, .gone, .gone, .gone, .gone, .gone, .gone, .gone, .gone, .gone, .gone, .gone, .gone, .gone, .gone, .gone, .gone, .gone, .gone, .gone, .gone, .gone, .gone, .gone, .gone, .gone, .gone, .gone, .gone, .gone, .gone, .gone, .gone, .gone, .gone, .gone, .gone, .gone, .gone, .gone, .gone, .gone, .gone]⟩
def st_hbbabaabaaba_ref33_Confirm (p1 : List (List V)) (p2 : Int) (p7l : Nat) (p8 : Int) (p9 : Int) (b10 : Nat) (b12 : List V) : St := ⟨[.junk, (V.sl 32 p1), (V.sc (.int .i64 p2)), .junk, .junk, .junk, .junk, (V.own 12 0 p7l 35), (V.sc (.int .i64 p8)), (V.sc (.int .i64 p9)), .junk, .junk, .junk, .junk, .junk, .junk, .junk, .junk, .junk, .junk, .junk, .junk, .junk, .junk, .junk, .junk, .junk, .junk, .junk, .junk, .junk, .junk, .junk, .junk, .junk, .junk, .junk, .junk, .junk, .junk, .junk, .junk, .junk, .junk, .junk, .junk, .junk, .junk, .junk, .junk, .junk, .junk, .junk, .junk, .junk, .junk, .junk, .junk], [.gone, .gone, .gone, .gone, .gone, .gone, .gone, .gone, .gone, .gone, (.dead b10), .gone, (.live true b12), .gone, .gone, .gone, .gone, .gone, .gone, .gone, .gone, .gone, .gone, .gone, .gone, .gone, .gone, .gone, .gone, .gone, .gone, .gone, .gone, .gone, .gone, .gone, .gone, .gone, .gone, .gone, .gone, .gone, .gone, .gone, .gone, .gone, .gone, .gone, .gone, .gone, .gone, .gone, .gone, .gone, .gone, .gone, .gone, .gone]⟩
def st_x0_ref33_Confirm (p7l : Nat) (b10 : Nat) (b12 : List V) : St := ⟨[.junk, .junk, .junk, .junk, .junk, .junk, .junk, (V.own 12 0 p7l 35), .junk, .junk, .junk, .junk, .junk, .junk, .junk, .junk, .junk, .junk, .junk, .junk, .junk, .junk, .junk, .junk, .junk, .junk, .junk, .junk, .junk, .junk, .junk, .junk, .junk, .junk, .junk, .junk, .junk, .junk, .junk, .junk, .junk, .junk, .junk, .junk, .junk, .junk, .junk, .junk, .junk, .junk, .junk, .junk, .junk, .junk, .junk, .junk, .junk, .junk], [.gone, .gone, .gone, .gone, .gone, .gone, .gone, .gone, .gone, .gone, (.dead b10), .gone, (.live true b12), .gone, .gone, .gone, .gone, .gone, .gone, .gone, .gone, .gone, .gone, .gone, .gone, .gone, .gone, .gone, .gone, .gone, .gone, .gone, .gone, .gone, .gone, .gone, .gone, .gone, .gone, .gone, .gone, .gone, .gone, .gone, .gone, .gone, .gone, .gone, .gone, .gone, .gone, .gone, .gone, .gone, .gone, .gone, .gone, .gone]⟩
def st_x2_ref33_Confirm (p1 : List (List V)) (p2 : Int) (p7l : Nat) (p8 : Int) (b10 : Nat) (b12 : List V) : St := ⟨[.junk, (V.sl 32 p1), (V.sc (.int .i64 p2)), .junk, .junk, .junk, .junk, (V.own 12 0 p7l 35), (V.sc (.int .i64 p8)), .junk, .junk, .junk, .junk, .junk, .junk, .junk, .junk, .junk, .junk, .junk, .junk, .junk, .junk, .junk, .junk, .junk, .junk, .junk, .junk, .junk, .junk, .junk, .junk, .junk, .junk, .junk, .junk, .junk, .junk, .junk, .junk, .junk, .junk, .junk, .junk, .junk, .junk, .junk, .junk, .junk, .junk, .junk, .junk, .junk, .junk, .junk, .junk, .junk], [.gone, .gone, .gone, .gone, .gone, .gone, .gone, .gone, .gone, .gone, (.dead b10), .gone, (.live true b12), .gone, .gone, .gone, .gone, .gone, .gone, .gone, .gone, .gone, .gone, .gone, .gone, .gone, .gone, .gone, .gone, .gone, .gone, .gone, .gone, .gone, .gone, .gone, .gone, .gone, .gone, .gone, .gone, .gone, .gone, .gone, .gone, .gone, .gone, .gone, .gone, .gone, .gone, .gone, .gone, .gone, .gone, .gone, .gone, .gone]⟩
def e_ref33_Confirm {β : Type} (L : Nat) (p0 : List (List V)) (p1 : List (List V)) (p2 : Int) (k_hbbaba : List (List V) → Int → Nat → Int → Nat → List V → Option β) : Option β :=
 chk ((0 + List.length p0) * 56 ≤ sizeCap ∧ (0 + List.length p0) ≤ sizeCap ∧ ((0 + List.length p0) ≠ 0 ∨ (List.length (List.flatten ([] : List (List V)))) = 0)) (
 lt (List.take (0 * 35) (List.flatten ([] : List (List V))) ++ List.flatten p0) fun r0 =>
 k_hbbaba p1 p2 (0 + List.length p0) (0 : Int) (List.length (List.flatten ([] : List (List V)))) r0)
theorem e_ref33_Confirm_ok {β : Type} (L : Nat) (p0 : List (List V)) (p1 : List (List V)) (p2 : Int) (k : V → Bor → Option β) : funC sh_ref33_Confirm (cb_ref33_Confirm L) L cf_ref33_Confirm [(V.sl 35 p0), (V.sl 32 p1), (V.sc (.int .i64 p2))] [] k = e_ref33_Confirm L p0 p1 p2 (fun p1 p2 p7l p8 b10 b12 => loopM (runC sh_ref33_Confirm (cb_ref33_Confirm L) 0 L cbbabaa_ref33_Confirm) mbbaba_ref33_Confirm L (st_hbbaba_ref33_Confirm p1 p2 p7l p8 b10 b12) (blockK 0 (seqK (runC sh_ref33_Confirm (cb_ref33_Confirm L) 0 L cbbb_ref33_Confirm) (finK 0 (CF.res cf_ref33_Confirm) k)))) := by kernel_rfl
def bbbaba_ref33_Confirm {β : Type} (L : Nat) (p1 : List (List V)) (p2 : Int) (p7l : Nat) (p8 : Int) (b10 : Nat) (b12 : List V) (k_hbbabaabaaba : List (List V) → Int → Nat → Int → Int → Nat → List V → Option β) (k_x0 : Nat → Nat → List V → Option β) : Option β :=
 ifb (decide (p8 < ((p7l : Nat) : Int))) (
 k_hbbabaabaaba p1 p2 p7l p8 (0 : Int) b10 b12) (
 k_x0 p7l b10 b12)
theorem bbbaba_ref33_Confirm_ok {β : Type} (L : Nat) (p1 : List (List V)) (p2 : Int) (p7l : Nat) (p8 : Int) (b10 : Nat) (b12 : List V) (X : St → Option β) (K : KT β) : runC sh_ref33_Confirm (cb_ref33_Confirm L) 0 L cbbabaa_ref33_Confirm (st_hbbaba_ref33_Confirm p1 p2 p7l p8 b10 b12) (loopK mbbaba_ref33_Confirm X K) = bbbaba_ref33_Confirm L p1 p2 p7l p8 b10 b12 (fun p1 p2 p7l p8 p9 b10 b12 => loopM (runC sh_ref33_Confirm (cb_ref33_Confirm L) 0 L cbbabaabaabaa_ref33_Confirm) mbbabaabaaba_ref33_Confirm L (st_hbbabaabaaba_ref33_Confirm p1 p2 p7l p8 p9 b10 b12) (blockK 2 (blockK 1 (seqK (runC sh_ref33_Confirm (cb_ref33_Confirm L) 0 L cbbabaabb_ref33_Confirm) (loopK mbbaba_ref33_Confirm X K))))) (fun p7l b10 b12 => K (.exit 0) (st_x0_ref33_Confirm p7l b10 b12)) := by kernel_rfl
def rbbabax0_ref33_Confirm {β : Type} (L : Nat) (p7l : Nat) (b10 : Nat) (b12 : List V) (k_fin : List (List V) → Option β) : Option β :=
 chk (p7l ≠ 0 ∨ (List.length b12) = 0) (
 k_fin (chunks 35 p7l b12))
theorem rbbabax0_ref33_Confirm_ok {β : Type} (L : Nat) (p7l : Nat) (b10 : Nat) (b12 : List V) (k : V → Bor → Option β) : (blockK 0 (seqK (runC sh_ref33_Confirm (cb_ref33_Confirm L) 0 L cbbb_ref33_Confirm) (finK 0 (CF.res cf_ref33_Confirm) k))) (.exit 0) (st_x0_ref33_Confirm p7l b10 b12) = rbbabax0_ref33_Confirm L p7l b10 b12 (fun p0 => k (V.fr 35 p0) []) := by kernel_rfl
def bbbabaabaaba_ref33_Confirm {β : Type} (L : Nat) (p1 : List (List V)) (p2 : Int) (p7l : Nat) (p8 : Int) (p9 : Int) (b10 : Nat) (b12 : List V) (k_hbbabaabaaba : List (List V) → Int → Nat → Int → Int → Nat → List V → Option β) (k_x2 : List (List V) → Int → Nat → Int → Nat → List V → Option β) : Option β :=
 ifb (decide (p9 < ((List.length p1 : Nat) : Int))) (
 chk (0 ≤ p8 ∧ p8 < ((p7l : Nat) : Int)) (
 chk (((0 + ((Int.toNat p8) * 35)) + 0) + 32 ≤ (List.length b12)) (
 idx p1 p9 fun c1 =>
 eqC 32 (List.take 32 (List.drop ((0 + ((Int.toNat p8) * 35)) + 0) b12)) (List.take 32 c1) fun v2 =>
 ifb v2 (
 chk (0 ≤ p8 ∧ p8 < ((p7l : Nat) : Int)) (
 cI .i64 b12 ((0 + ((Int.toNat p8) * 35)) + 34) fun v3 =>
 ifb ((v3 : Int) == (0 : Int)) (
 chk (0 ≤ p8 ∧ p8 < ((p7l : Nat) : Int)) (
 cI .i64 b12 ((0 + ((Int.toNat p8) * 35)) + 33) fun v4 =>
 ifb (decide (v4 < p2)) (
 chk (0 ≤ p8 ∧ p8 < ((p7l : Nat) : Int)) (
 chk (1 = 1 ∧ ((0 + ((Int.toNat p8) * 35)) + 34) + 1 ≤ (List.length b12)) (
 lt (setAt b12 ((0 + ((Int.toNat p8) * 35)) + 34) [(V.sc (.int .i64 p2))]) fun r5 =>
 lt (IntKind.wrap .i64 ((p9 : Int) + (1 : Int))) fun x6 =>
 k_hbbabaabaaba p1 p2 p7l p8 x6 b10 r5))) (
 lt (IntKind.wrap .i64 ((p9 : Int) + (1 : Int))) fun x7 =>
 k_hbbabaabaaba p1 p2 p7l p8 x7 b10 b12))) (
 lt (IntKind.wrap .i64 ((p9 : Int) + (1 : Int))) fun x8 =>
 k_hbbabaabaaba p1 p2 p7l p8 x8 b10 b12))) (
 lt (IntKind.wrap .i64 ((p9 : Int) + (1 : Int))) fun x9 =>
 k_hbbabaabaaba p1 p2 p7l p8 x9 b10 b12)))) (
 k_x2 p1 p2 p7l p8 b10 b12)
theorem bbbabaabaaba_ref33_Confirm_ok {β : Type} (L : Nat) (p1 : List (List V)) (p2 : Int) (p7l : Nat) (p8 : Int) (p9 : Int) (b10 : Nat) (b12 : List V) (X : St → Option β) (K : KT β) : runC sh_ref33_Confirm (cb_ref33_Confirm L) 0 L cbbabaabaabaa_ref33_Confirm (st_hbbabaabaaba_ref33_Confirm p1 p2 p7l p8 p9 b10 b12) (loopK mbbabaabaaba_ref33_Confirm X K) = bbbabaabaaba_ref33_Confirm L p1 p2 p7l p8 p9 b10 b12 (fun p1 p2 p7l p8 p9 b10 b12 => X (st_hbbabaabaaba_ref33_Confirm p1 p2 p7l p8 p9 b10 b12)) (fun p1 p2 p7l p8 b10 b12 => K (.exit 2) (st_x2_ref33_Confirm p1 p2 p7l p8 b10 b12)) := by kernel_rfl
def rbbabaabaabax2_ref33_Confirm {β : Type} (L : Nat) (p1 : List (List V)) (p2 : Int) (p7l : Nat) (p8 : Int) (b10 : Nat) (b12 : List V) (k_hbbaba : List (List V) → Int → Nat → Int → Nat → List V → Option β) : Option β :=
 lt (IntKind.wrap .i64 ((p8 : Int) + (1 : Int))) fun x10 =>
 k_hbbaba p1 p2 p7l x10 b10 b12
theorem rbbabaabaabax2_ref33_Confirm_ok {β : Type} (L : Nat) (p1 : List (List V)) (p2 : Int) (p7l : Nat) (p8 : Int) (b10 : Nat) (b12 : List V) (X : St → Option β) (K : KT β) : (blockK 2 (blockK 1 (seqK (runC sh_ref33_Confirm (cb_ref33_Confirm L) 0 L cbbabaabb_ref33_Confirm) (loopK mbbaba_ref33_Confirm X K)))) (.exit 2) (st_x2_ref33_Confirm p1 p2 p7l p8 b10 b12) = rbbabaabaabax2_ref33_Confirm L p1 p2 p7l p8 b10 b12 (fun p1 p2 p7l p8 b10 b12 => X (st_hbbaba_ref33_Confirm p1 p2 p7l p8 b10 b12)) := by kernel_rfl
def lbbabaabaaba_ref33_Confirm {β : Type} (L : Nat) (k_x2 : List (List V) → Int → Nat → Int → Nat → List V → Option β) : Nat → List (List V) → Int → Nat → Int → Int → Nat → List V → Option β
  | 0, _, _, _, _, _, _, _ => none
  | n + 1, p1, p2, p7l, p8, p9, b10, b12 => bbbabaabaaba_ref33_Confirm L p1 p2 p7l p8 p9 b10 b12 (fun p1 p2 p7l p8 p9 b10 b12 => lbbabaabaaba_ref33_Confirm L k_x2 n p1 p2 p7l p8 p9 b10 b12) k_x2
theorem lbbabaabaaba_ref33_Confirm_ok {β : Type} (L : Nat) (K : KT β) : ∀ (n : Nat) (p1 : List (List V)) (p2 : Int) (p7l : Nat) (p8 : Int) (p9 : Int) (b10 : Nat) (b12 : List V), loopM (runC sh_ref33_Confirm (cb_ref33_Confirm L) 0 L cbbabaabaabaa_ref33_Confirm) mbbabaabaaba_ref33_Confirm n (st_hbbabaabaaba_ref33_Confirm p1 p2 p7l p8 p9 b10 b12) K = lbbabaabaaba_ref33_Confirm L (fun p1 p2 p7l p8 b10 b12 => K (.exit 2) (st_x2_ref33_Confirm p1 p2 p7l p8 b10 b12)) n p1 p2 p7l p8 p9 b10 b12 := by
  intro n
  induction n with
  | zero => intros; rfl
  | succ n ih =>
    intro p1 p2 p7l p8 p9 b10 b12
    refine (bbbabaabaaba_ref33_Confirm_ok L p1 p2 p7l p8 p9 b10 b12 (fun σ => loopM (runC sh_ref33_Confirm (cb_ref33_Confirm L) 0 L cbbabaabaabaa_ref33_Confirm) mbbabaabaaba_ref33_Confirm n σ K) K).trans ?_
    simp only [ih]
    rfl
def Cbbbaba_ref33_Confirm {β : Type} (L : Nat) (p1 : List (List V)) (p2 : Int) (p7l : Nat) (p8 : Int) (b10 : Nat) (b12 : List V) (k_x0 : Nat → Nat → List V → Option β) (k_hbbaba : List (List V) → Int → Nat → Int → Nat → List V → Option β) : Option β :=
 bbbaba_ref33_Confirm L p1 p2 p7l p8 b10 b12 (fun p1 p2 p7l p8 p9 b10 b12 => lbbabaabaaba_ref33_Confirm L (fun p1 p2 p7l p8 b10 b12 => rbbabaabaabax2_ref33_Confirm L p1 p2 p7l p8 b10 b12 k_hbbaba) L p1 p2 p7l p8 p9 b10 b12) k_x0
theorem Cbbbaba_ref33_Confirm_ok {β : Type} (L : Nat) (p1 : List (List V)) (p2 : Int) (p7l : Nat) (p8 : Int) (b10 : Nat) (b12 : List V) (X : St → Option β) (K : KT β) : runC sh_ref33_Confirm (cb_ref33_Confirm L) 0 L cbbabaa_ref33_Confirm (st_hbbaba_ref33_Confirm p1 p2 p7l p8 b10 b12) (loopK mbbaba_ref33_Confirm X K) = Cbbbaba_ref33_Confirm L p1 p2 p7l p8 b10 b12 (fun p7l b10 b12 => K (.exit 0) (st_x0_ref33_Confirm p7l b10 b12)) (fun p1 p2 p7l p8 b10 b12 => X (st_hbbaba_ref33_Confirm p1 p2 p7l p8 b10 b12)) := by
  refine (bbbaba_ref33_Confirm_ok L p1 p2 p7l p8 b10 b12 X K).trans ?_
  unfold Cbbbaba_ref33_Confirm
  simp only [lbbabaabaaba_ref33_Confirm_ok, rbbabaabaabax2_ref33_Confirm_ok]
def lbbaba_ref33_Confirm {β : Type} (L : Nat) (k_x0 : Nat → Nat → List V → Option β) : Nat → List (List V) → Int → Nat → Int → Nat → List V → Option β
  | 0, _, _, _, _, _, _ => none
  | n + 1, p1, p2, p7l, p8, b10, b12 => Cbbbaba_ref33_Confirm L p1 p2 p7l p8 b10 b12 k_x0 (fun p1 p2 p7l p8 b10 b12 => lbbaba_ref33_Confirm L k_x0 n p1 p2 p7l p8 b10 b12)
theorem lbbaba_ref33_Confirm_ok {β : Type} (L : Nat) (K : KT β) : ∀ (n : Nat) (p1 : List (List V)) (p2 : Int) (p7l : Nat) (p8 : Int) (b10 : Nat) (b12 : List V), loopM (runC sh_ref33_Confirm (cb_ref33_Confirm L) 0 L cbbabaa_ref33_Confirm) mbbaba_ref33_Confirm n (st_hbbaba_ref33_Confirm p1 p2 p7l p8 b10 b12) K = lbbaba_ref33_Confirm L (fun p7l b10 b12 => K (.exit 0) (st_x0_ref33_Confirm p7l b10 b12)) n p1 p2 p7l p8 b10 b12 := by
  intro n
  induction n with
  | zero => intros; rfl
  | succ n ih =>
    intro p1 p2 p7l p8 b10 b12
    refine (Cbbbaba_ref33_Confirm_ok L p1 p2 p7l p8 b10 b12 (fun σ => loopM (runC sh_ref33_Confirm (cb_ref33_Confirm L) 0 L cbbabaa_ref33_Confirm) mbbaba_ref33_Confirm n σ K) K).trans ?_
    simp only [ih]
    rfl
def R_ref33_Confirm {β : Type} (L : Nat) (p0 : List (List V)) (p1 : List (List V)) (p2 : Int) (k_fin : List (List V) → Option β) : Option β :=
 e_ref33_Confirm L p0 p1 p2 (fun p1 p2 p7l p8 b10 b12 => lbbaba_ref33_Confirm L (fun p7l b10 b12 => rbbabax0_ref33_Confirm L p7l b10 b12 k_fin) L p1 p2 p7l p8 b10 b12)
theorem R_ref33_Confirm_ok {β : Type} (L : Nat) (p0 : List (List V)) (p1 : List (List V)) (p2 : Int) (k : V → Bor → Option β) : funC sh_ref33_Confirm (cb_ref33_Confirm L) L cf_ref33_Confirm [(V.sl 35 p0), (V.sl 32 p1), (V.sc (.int .i64 p2))] [] k = R_ref33_Confirm L p0 p1 p2 (fun p0 => k (V.fr 35 p0) []) := by
  refine (e_ref33_Confirm_ok L p0 p1 p2 k).trans ?_
  unfold R_ref33_Confirm
  simp only [lbbaba_ref33_Confirm_ok, rbbabax0_ref33_Confirm_ok]
abbrev T_ref33_Confirm := ∀ (β : Type), Nat → List (List V) → List (List V) → Int → (List (List V) → Option β) → Option β
def F_ref33_Confirm (β : Type) (L : Nat) (p0 : List (List V)) (p1 : List (List V)) (p2 : Int) (k_fin : List (List V) → Option β) : Option β := R_ref33_Confirm L p0 p1 p2 k_fin
def d_ref33_Confirm (F_ref33_Confirm : T_ref33_Confirm) (L : Nat) (β : Type) (args : List V) (bor : Bor) (k : V → Bor → Option β) : Option β := match args, bor with
  | [a0, a1, a2], [] => aL 35 a0 fun p0 => aL 32 a1 fun p1 => aI .i64 a2 fun p2 => F_ref33_Confirm β L p0 p1 p2 (fun p0 => k (V.fr 35 p0) [])
  | _, _ => none
theorem d_ref33_Confirm_ok (L : Nat) (β : Type) (args : List V) (bor : Bor) (k : V → Bor → Option β) (r : β) (h : d_ref33_Confirm F_ref33_Confirm L β args bor k = some r) : funC sh_ref33_Confirm (cb_ref33_Confirm L) L cf_ref33_Confirm args bor k = some r := by
  unfold d_ref33_Confirm at h
  split at h
  · have q := aL_inv h; clear h; obtain ⟨p0, rfl, h⟩ := q
    have q := aL_inv h; clear h; obtain ⟨p1, rfl, h⟩ := q
    have q := aI_inv h; clear h; obtain ⟨p2, rfl, h⟩ := q
    exact (R_ref33_Confirm_ok L p0 p1 p2 k).trans h
  · cases h
/-! ref33_in : 242 -/
def cf_ref33_in : CF := ⟨15, [.tmp 6],
 (.seq (.reg [⟨(some 6), false, none, .move (.const (.sc (.bool false))) false⟩])
 (.seq (.reg [⟨(some 7), false, none, .move (.tmp 0) false⟩,
   ⟨(some 8), false, none, .move (.tmp 1) false⟩,
   ⟨(some 9), false, none, .bin .geq (.tmp 7) (.tmp 8)⟩,
   ⟨(some 10), false, none, .move (.tmp 9) false⟩,
   ⟨(some 11), false, (some (10, true)), .move (.tmp 0) false⟩,
   ⟨(some 12), false, (some (10, true)), .move (.tmp 2) false⟩,
   ⟨(some 13), false, (some (10, true)), .bin .leq (.tmp 11) (.tmp 12)⟩,
   ⟨(some 14), false, none, .pick (.tmp 10) (.tmp 13) (.const (.sc (.bool false)))⟩,
   ⟨(some 6), false, none, .move (.tmp 14) false⟩])
 .ret))⟩
def hint_ref33_in : Hint := ⟨[], [], [none], [], [], false⟩
def sh_ref33_in : Nat → Sh := shOf []
def cb_ref33_in (L : Nat) : CBC := noC
def R_ref33_in {β : Type} (L : Nat) (p0 : Int) (p1 : Int) (p2 : Int) (k_fin : Bool → Option β) : Option β :=
 ifb (decide (p0 ≥ p1)) (
 k_fin (decide (p0 ≤ p2))) (
 k_fin false)
theorem R_ref33_in_ok {β : Type} (L : Nat) (p0 : Int) (p1 : Int) (p2 : Int) (k : V → Bor → Option β) : funC sh_ref33_in (cb_ref33_in L) L cf_ref33_in [(V.sc (.int .i64 p0)), (V.sc (.int .i64 p1)), (V.sc (.int .i64 p2))] [] k = R_ref33_in L p0 p1 p2 (fun p0 => k (V.sc (.bool p0)) []) := by kernel_rfl
abbrev T_ref33_in := ∀ (β : Type), Nat → Int → Int → Int → (Bool → Option β) → Option β
def F_ref33_in (β : Type) (L : Nat) (p0 : Int) (p1 : Int) (p2 : Int) (k_fin : Bool → Option β) : Option β := R_ref33_in L p0 p1 p2 k_fin
def d_ref33_in (F_ref33_in : T_ref33_in) (L : Nat) (β : Type) (args : List V) (bor : Bor) (k : V → Bor → Option β) : Option β := match args, bor with
  | [a0, a1, a2], [] => aI .i64 a0 fun p0 => aI .i64 a1 fun p1 => aI .i64 a2 fun p2 => F_ref33_in β L p0 p1 p2 (fun p0 => k (V.sc (.bool p0)) [])
  | _, _ => none
theorem d_ref33_in_ok (L : Nat) (β : Type) (args : List V) (bor : Bor) (k : V → Bor → Option β) (r : β) (h : d_ref33_in F_ref33_in L β args bor k = some r) : funC sh_ref33_in (cb_ref33_in L) L cf_ref33_in args bor k = some r := by
  unfold d_ref33_in at h
  split at h
  · have q := aI_inv h; clear h; obtain ⟨p0, rfl, h⟩ := q
    have q := aI_inv h; clear h; obtain ⟨p1, rfl, h⟩ := q
    have q := aI_inv h; clear h; obtain ⟨p2, rfl, h⟩ := q
    exact (R_ref33_in_ok L p0 p1 p2 k).trans h
  · cases h
/-! ref33_Bound : 221 -/
def cbbbabaa_ref33_Bound : CC := (.seq (.seq (.reg [⟨(some 8), false, none, .move (.tmp 4) false⟩,
   ⟨(some 9), false, none, .move (.tmp 0) false⟩,
   ⟨(some 10), false, none, .bin .lss (.tmp 8) (.tmp 9)⟩])
 (.cond (.tmp 10)
 .skip
 (.seq (.mask (bl 8 18) (bl 262127 18))
 (.exit 0))))
 (.seq (.block 1 (.reg [⟨(some 13), false, none, .move (.tmp 3) false⟩,
   ⟨(some 14), false, none, .move (.tmp 3) false⟩,
   ⟨(some 15), false, none, .bin .quo (.tmp 14) (.const (.sc (.int .i64 2)))⟩,
   ⟨(some 16), false, none, .bin .add (.tmp 13) (.tmp 15)⟩,
   ⟨(some 3), false, none, .move (.tmp 16) false⟩]))
 (.reg [⟨(some 11), false, none, .move (.tmp 4) false⟩,
   ⟨(some 12), false, none, .bin .add (.tmp 11) (.const (.sc (.int .i64 1)))⟩,
   ⟨(some 4), false, none, .move (.tmp 12) false⟩])))
def cbbbb_ref33_Bound : CC := (.seq (.reg [⟨(some 17), false, none, .move (.tmp 3) false⟩,
   ⟨(some 2), false, none, .move (.tmp 17) false⟩])
 .ret)
def cf_ref33_Bound : CF := ⟨18, [.tmp 2],
 (.seq (.reg [⟨(some 2), false, none, .move (.const (.sc (.int .i64 0))) false⟩])
 (.seq (.seq (.reg [⟨(some 5), false, none, .move (.tmp 0) false⟩,
   ⟨(some 6), false, none, .call 242 [((.tmp 5), 0), ((.const (.sc (.int .i64 0))), 0), ((.const (.sc (.int .i64 23))), 0)] []⟩,
   ⟨(some 7), false, none, .un .not (.tmp 6)⟩])
 (.cond (.tmp 7)
 (.seq (.reg [⟨(some 2), false, none, .move (.const (.sc (.int .i64 0))) false⟩])
 .ret)
 .skip))
 (.seq (.reg [⟨(some 3), false, none, .move (.const (.sc (.int .i64 10))) false⟩])
 (.seq (.seq (.reg [⟨(some 4), false, none, .move (.const (.sc (.int .i64 0))) false⟩])
 (.block 0 (.loop (bl 25 18) (bl 262143 18)
 cbbbabaa_ref33_Bound)))
 cbbbb_ref33_Bound))))⟩
def hint_ref33_Bound : Hint := ⟨[], [], [none, none, none, some ((bl 25 18), (bl 262143 18)), none, some ((bl 8 18), (bl 262127 18)), none, none], [], [], false⟩
def sh_ref33_Bound : Nat → Sh := shOf []
def cb_ref33_Bound (F_ref33_in : T_ref33_in) (L : Nat) : CBC := (addC 242 (d_ref33_in F_ref33_in L) noC)
def mbbbaba_ref33_Bound : St → St := maskN 0 (bl 25 18) (bl 262143 18)
def st_hbbbaba_ref33_Bound (p0 : Int) (p3 : Int) (p4 : Int) : St := ⟨[(V.sc (.int .i64 p0)), .junk, .junk, (V.sc (.int .i64 p3)), (V.sc (.int .i64 p4)), .junk, .junk, .junk, .junk, .junk, .junk, .junk, .junk, .junk, .junk, .junk, .junk, .junk], [.gone, .gone, .gone, .gone, .gone, .gone, .gone, .gone, .gone, .gone, .gone, .gone, .gone, .gone, .gone, .gone, .gone, .gone]⟩
def st_x0_ref33_Bound (p3 : Int) : St := ⟨[.junk, .junk, .junk, (V.sc (.int .i64 p3)), .junk, .junk, .junk, .junk, .junk, .junk, .junk, .junk, .junk, .junk, .junk, .junk, .junk, .junk], [.gone, .gone, .gone, .gone, .gone, .gone, .gone, .gone, .gone, .gone, .gone, .gone, .gone, .gone, .gone, .gone, .gone, .gone]⟩
def e_ref33_Bound {β : Type} (F_ref33_in : T_ref33_in) (L : Nat) (p0 : Int) (k_fin : Int → Option β) (k_hbbbaba : Int → Int → Int → Option β) : Option β :=
 F_ref33_in β L p0 (0 : Int) (23 : Int) (fun v0 =>
 ifb (!v0) (
 k_fin (0 : Int)) (
 k_hbbbaba p0 (10 : Int) (0 : Int)))
theorem e_ref33_Bound_ok {β : Type} (F_ref33_in : T_ref33_in) (L : Nat) (p0 : Int) (k : V → Bor → Option β) : funC sh_ref33_Bound (cb_ref33_Bound F_ref33_in L) L cf_ref33_Bound [(V.sc (.int .i64 p0))] [] k = e_ref33_Bound F_ref33_in L p0 (fun p0 => k (V.sc (.int .i64 p0)) []) (fun p0 p3 p4 => loopM (runC sh_ref33_Bound (cb_ref33_Bound F_ref33_in L) 0 L cbbbabaa_ref33_Bound) mbbbaba_ref33_Bound L (st_hbbbaba_ref33_Bound p0 p3 p4) (blockK 0 (seqK (runC sh_ref33_Bound (cb_ref33_Bound F_ref33_in L) 0 L cbbbb_ref33_Bound) (finK 0 (CF.res cf_ref33_Bound) k)))) := by kernel_rfl
def bbbbaba_ref33_Bound {β : Type} (F_ref33_in : T_ref33_in) (L : Nat) (p0 : Int) (p3 : Int) (p4 : Int) (k_hbbbaba : Int → Int → Int → Option β) (k_x0 : Int → Option β) : Option β :=
 ifb (decide (p4 < p0)) (
 lt (IntKind.wrap .i64 (Int.tdiv p3 (2 : Int))) fun x1 =>
 lt (IntKind.wrap .i64 ((p3 : Int) + x1)) fun x2 =>
 lt (IntKind.wrap .i64 ((p4 : Int) + (1 : Int))) fun x3 =>
 k_hbbbaba p0 x2 x3) (
 k_x0 p3)
theorem bbbbaba_ref33_Bound_ok {β : Type} (F_ref33_in : T_ref33_in) (L : Nat) (p0 : Int) (p3 : Int) (p4 : Int) (X : St → Option β) (K : KT β) : runC sh_ref33_Bound (cb_ref33_Bound F_ref33_in L) 0 L cbbbabaa_ref33_Bound (st_hbbbaba_ref33_Bound p0 p3 p4) (loopK mbbbaba_ref33_Bound X K) = bbbbaba_ref33_Bound F_ref33_in L p0 p3 p4 (fun p0 p3 p4 => X (st_hbbbaba_ref33_Bound p0 p3 p4)) (fun p3 => K (.exit 0) (st_x0_ref33_Bound p3)) := by kernel_rfl
def rbbbabax0_ref33_Bound {β : Type} (F_ref33_in : T_ref33_in) (L : Nat) (p3 : Int) (k_fin : Int → Option β) : Option β :=
 k_fin p3
theorem rbbbabax0_ref33_Bound_ok {β : Type} (F_ref33_in : T_ref33_in) (L : Nat) (p3 : Int) (k : V → Bor → Option β) : (blockK 0 (seqK (runC sh_ref33_Bound (cb_ref33_Bound F_ref33_in L) 0 L cbbbb_ref33_Bound) (finK 0 (CF.res cf_ref33_Bound) k))) (.exit 0) (st_x0_ref33_Bound p3) = rbbbabax0_ref33_Bound F_ref33_in L p3 (fun p0 => k (V.sc (.int .i64 p0)) []) := by kernel_rfl
def lbbbaba_ref33_Bound {β : Type} (F_ref33_in : T_ref33_in) (L : Nat) (k_x0 : Int → Option β) : Nat → Int → Int → Int → Option β
  | 0, _, _, _ => none
  | n + 1, p0, p3, p4 => bbbbaba_ref33_Bound F_ref33_in L p0 p3 p4 (fun p0 p3 p4 => lbbbaba_ref33_Bound F_ref33_in L k_x0 n p0 p3 p4) k_x0
theorem lbbbaba_ref33_Bound_ok {β : Type} (F_ref33_in : T_ref33_in) (L : Nat) (K : KT β) : ∀ (n : Nat) (p0 : Int) (p3 : Int) (p4 : Int), loopM (runC sh_ref33_Bound (cb_ref33_Bound F_ref33_in L) 0 L cbbbabaa_ref33_Bound) mbbbaba_ref33_Bound n (st_hbbbaba_ref33_Bound p0 p3 p4) K = lbbbaba_ref33_Bound F_ref33_in L (fun p3 => K (.exit 0) (st_x0_ref33_Bound p3)) n p0 p3 p4 := by
  intro n
  induction n with
  | zero => intros; rfl
  | succ n ih =>
    intro p0 p3 p4
    refine (bbbbaba_ref33_Bound_ok F_ref33_in L p0 p3 p4 (fun σ => loopM (runC sh_ref33_Bound (cb_ref33_Bound F_ref33_in L) 0 L cbbbabaa_ref33_Bound) mbbbaba_ref33_Bound n σ K) K).trans ?_
    simp only [ih]
    rfl
def R_ref33_Bound {β : Type} (F_ref33_in : T_ref33_in) (L : Nat) (p0 : Int) (k_fin : Int → Option β) : Option β :=
 e_ref33_Bound F_ref33_in L p0 k_fin (fun p0 p3 p4 => lbbbaba_ref33_Bound F_ref33_in L (fun p3 => rbbbabax0_ref33_Bound F_ref33_in L p3 k_fin) L p0 p3 p4)
theorem R_ref33_Bound_ok {β : Type} (F_ref33_in : T_ref33_in) (L : Nat) (p0 : Int) (k : V → Bor → Option β) : funC sh_ref33_Bound (cb_ref33_Bound F_ref33_in L) L cf_ref33_Bound [(V.sc (.int .i64 p0))] [] k = R_ref33_Bound F_ref33_in L p0 (fun p0 => k (V.sc (.int .i64 p0)) []) := by
  refine (e_ref33_Bound_ok F_ref33_in L p0 k).trans ?_
  unfold R_ref33_Bound
  simp only [lbbbaba_ref33_Bound_ok, rbbbabax0_ref33_Bound_ok]
abbrev T_ref33_Bound := ∀ (β : Type), Nat → Int → (Int → Option β) → Option β
def F_ref33_Bound (β : Type) (L : Nat) (p0 : Int) (k_fin : Int → Option β) : Option β := R_ref33_Bound F_ref33_in L p0 k_fin
def d_ref33_Bound (F_ref33_Bound : T_ref33_Bound) (L : Nat) (β : Type) (args : List V) (bor : Bor) (k : V → Bor → Option β) : Option β := match args, bor with
  | [a0], [] => aI .i64 a0 fun p0 => F_ref33_Bound β L p0 (fun p0 => k (V.sc (.int .i64 p0)) [])
  | _, _ => none
theorem d_ref33_Bound_ok (L : Nat) (β : Type) (args : List V) (bor : Bor) (k : V → Bor → Option β) (r : β) (h : d_ref33_Bound F_ref33_Bound L β args bor k = some r) : funC sh_ref33_Bound (cb_ref33_Bound F_ref33_in L) L cf_ref33_Bound args bor k = some r := by
  unfold d_ref33_Bound at h
  split at h
  · have q := aI_inv h; clear h; obtain ⟨p0, rfl, h⟩ := q
    exact (R_ref33_Bound_ok F_ref33_in L p0 k).trans h
  · cases h
/-! ref33_Class : 223 -/
def cbbabaa_ref33_Class : CC := (.seq (.seq (.reg [⟨(some 5), false, none, .move (.tmp 4) false⟩,
   ⟨(some 6), false, none, .bin .lss (.tmp 5) (.const (.sc (.int .i64 24)))⟩])
 (.cond (.tmp 6)
 .skip
 (.seq (.mask (bl 8 15) (bl 31727 15))
 (.exit 0))))
 (.seq (.block 1 (.seq (.reg [⟨(some 9), false, none, .move (.tmp 4) false⟩,
   ⟨(some 10), false, none, .call 221 [((.tmp 9), 0)] []⟩,
   ⟨(some 11), false, none, .move (.tmp 0) false⟩,
   ⟨(some 12), false, none, .bin .leq (.tmp 10) (.tmp 11)⟩])
 (.cond (.tmp 12)
 (.reg [⟨(some 13), false, none, .move (.tmp 4) false⟩,
   ⟨(some 3), false, none, .move (.tmp 13) false⟩])
 .skip)))
 (.reg [⟨(some 7), false, none, .move (.tmp 4) false⟩,
   ⟨(some 8), false, none, .bin .add (.tmp 7) (.const (.sc (.int .i64 1)))⟩,
   ⟨(some 4), false, none, .move (.tmp 8) false⟩])))
def cbbb_ref33_Class : CC := (.seq (.reg [⟨(some 14), false, none, .move (.tmp 3) false⟩,
   ⟨(some 2), false, none, .move (.tmp 14) false⟩])
 .ret)
def cf_ref33_Class : CF := ⟨15, [.tmp 2],
 (.seq (.reg [⟨(some 2), false, none, .move (.const (.sc (.int .i64 0))) false⟩])
 (.seq (.reg [⟨(some 3), false, none, .move (.const (.sc (.int .i64 (-1)))) false⟩])
 (.seq (.seq (.reg [⟨(some 4), false, none, .move (.const (.sc (.int .i64 0))) false⟩])
 (.block 0 (.loop (bl 25 15) (bl 31743 15)
 cbbabaa_ref33_Class)))
 cbbb_ref33_Class)))⟩
def hint_ref33_Class : Hint := ⟨[], [], [none, some ((bl 25 15), (bl 31743 15)), none, some ((bl 8 15), (bl 31727 15)), none, none, none], [], [], false⟩
def sh_ref33_Class : Nat → Sh := shOf []
def cb_ref33_Class (F_ref33_Bound : T_ref33_Bound) (L : Nat) : CBC := (addC 221 (d_ref33_Bound F_ref33_Bound L) noC)
def mbbaba_ref33_Class : St → St := maskN 0 (bl 25 15) (bl 31743 15)
def st_hbbaba_ref33_Class (p0 : Int) (p3 : Int) (p4 : Int) : St := ⟨[(V.sc (.int .i64 p0)), .junk, .junk, (V.sc (.int .i64 p3)), (V.sc (.int .i64 p4)), .junk, .junk, .junk, .junk, .junk, .junk, .junk, .junk, .junk, .junk], [.gone, .gone, .gone, .gone, .gone, .gone, .gone, .gone, .gone, .gone, .gone, .gone, .gone, .gone, .gone]⟩
def st_x0_ref33_Class (p3 : Int) : St := ⟨[.junk, .junk, .junk, (V.sc (.int .i64 p3)), .junk, .junk, .junk, .junk, .junk, .junk, .junk, .junk, .junk, .junk, .junk], [.gone, .gone, .gone, .gone, .gone, .gone, .gone, .gone, .gone, .gone, .gone, .gone, .gone, .gone, .gone]⟩
def e_ref33_Class {β : Type} (F_ref33_Bound : T_ref33_Bound) (L : Nat) (p0 : Int) (k_hbbaba : Int → Int → Int → Option β) : Option β :=
 k_hbbaba p0 (-1 : Int) (0 : Int)
theorem e_ref33_Class_ok {β : Type} (F_ref33_Bound : T_ref33_Bound) (L : Nat) (p0 : Int) (k : V → Bor → Option β) : funC sh_ref33_Class (cb_ref33_Class F_ref33_Bound L) L cf_ref33_Class [(V.sc (.int .i64 p0))] [] k = e_ref33_Class F_ref33_Bound L p0 (fun p0 p3 p4 => loopM (runC sh_ref33_Class (cb_ref33_Class F_ref33_Bound L) 0 L cbbabaa_ref33_Class) mbbaba_ref33_Class L (st_hbbaba_ref33_Class p0 p3 p4) (blockK 0 (seqK (runC sh_ref33_Class (cb_ref33_Class F_ref33_Bound L) 0 L cbbb_ref33_Class) (finK 0 (CF.res cf_ref33_Class) k)))) := by kernel_rfl
def bbbaba_ref33_Class {β : Type} (F_ref33_Bound : T_ref33_Bound) (L : Nat) (p0 : Int) (p3 : Int) (p4 : Int) (k_hbbaba : Int → Int → Int → Option β) (k_x0 : Int → Option β) : Option β :=
 ifb (decide (p4 < (24 : Int))) (
 F_ref33_Bound β L p4 (fun v0 =>
 ifb (decide (v0 ≤ p0)) (
 lt (IntKind.wrap .i64 ((p4 : Int) + (1 : Int))) fun x1 =>
 k_hbbaba p0 p4 x1) (
 lt (IntKind.wrap .i64 ((p4 : Int) + (1 : Int))) fun x2 =>
 k_hbbaba p0 p3 x2))) (
 k_x0 p3)
theorem bbbaba_ref33_Class_ok {β : Type} (F_ref33_Bound : T_ref33_Bound) (L : Nat) (p0 : Int) (p3 : Int) (p4 : Int) (X : St → Option β) (K : KT β) : runC sh_ref33_Class (cb_ref33_Class F_ref33_Bound L) 0 L cbbabaa_ref33_Class (st_hbbaba_ref33_Class p0 p3 p4) (loopK mbbaba_ref33_Class X K) = bbbaba_ref33_Class F_ref33_Bound L p0 p3 p4 (fun p0 p3 p4 => X (st_hbbaba_ref33_Class p0 p3 p4)) (fun p3 => K (.exit 0) (st_x0_ref33_Class p3)) := by kernel_rfl
def rbbabax0_ref33_Class {β : Type} (F_ref33_Bound : T_ref33_Bound) (L : Nat) (p3 : Int) (k_fin : Int → Option β) : Option β :=
 k_fin p3
theorem rbbabax0_ref33_Class_ok {β : Type} (F_ref33_Bound : T_ref33_Bound) (L : Nat) (p3 : Int) (k : V → Bor → Option β) : (blockK 0 (seqK (runC sh_ref33_Class (cb_ref33_Class F_ref33_Bound L) 0 L cbbb_ref33_Class) (finK 0 (CF.res cf_ref33_Class) k))) (.exit 0) (st_x0_ref33_Class p3) = rbbabax0_ref33_Class F_ref33_Bound L p3 (fun p0 => k (V.sc (.int .i64 p0)) []) := by kernel_rfl
def lbbaba_ref33_Class {β : Type} (F_ref33_Bound : T_ref33_Bound) (L : Nat) (k_x0 : Int → Option β) : Nat → Int → Int → Int → Option β
  | 0, _, _, _ => none
  | n + 1, p0, p3, p4 => bbbaba_ref33_Class F_ref33_Bound L p0 p3 p4 (fun p0 p3 p4 => lbbaba_ref33_Class F_ref33_Bound L k_x0 n p0 p3 p4) k_x0
theorem lbbaba_ref33_Class_ok {β : Type} (F_ref33_Bound : T_ref33_Bound) (L : Nat) (K : KT β) : ∀ (n : Nat) (p0 : Int) (p3 : Int) (p4 : Int), loopM (runC sh_ref33_Class (cb_ref33_Class F_ref33_Bound L) 0 L cbbabaa_ref33_Class) mbbaba_ref33_Class n (st_hbbaba_ref33_Class p0 p3 p4) K = lbbaba_ref33_Class F_ref33_Bound L (fun p3 => K (.exit 0) (st_x0_ref33_Class p3)) n p0 p3 p4 := by
  intro n
  induction n with
  | zero => intros; rfl
  | succ n ih =>
    intro p0 p3 p4
    refine (bbbaba_ref33_Class_ok F_ref33_Bound L p0 p3 p4 (fun σ => loopM (runC sh_ref33_Class (cb_ref33_Class F_ref33_Bound L) 0 L cbbabaa_ref33_Class) mbbaba_ref33_Class n σ K) K).trans ?_
    simp only [ih]
    rfl
def R_ref33_Class {β : Type} (F_ref33_Bound : T_ref33_Bound) (L : Nat) (p0 : Int) (k_fin : Int → Option β) : Option β :=
 e_ref33_Class F_ref33_Bound L p0 (fun p0 p3 p4 => lbbaba_ref33_Class F_ref33_Bound L (fun p3 => rbbabax0_ref33_Class F_ref33_Bound L p3 k_fin) L p0 p3 p4)
theorem R_ref33_Class_ok {β : Type} (F_ref33_Bound : T_ref33_Bound) (L : Nat) (p0 : Int) (k : V → Bor → Option β) : funC sh_ref33_Class (cb_ref33_Class F_ref33_Bound L) L cf_ref33_Class [(V.sc (.int .i64 p0))] [] k = R_ref33_Class F_ref33_Bound L p0 (fun p0 => k (V.sc (.int .i64 p0)) []) := by
  refine (e_ref33_Class_ok F_ref33_Bound L p0 k).trans ?_
  unfold R_ref33_Class
  simp only [lbbaba_ref33_Class_ok, rbbabax0_ref33_Class_ok]
abbrev T_ref33_Class := ∀ (β : Type), Nat → Int → (Int → Option β) → Option β
def F_ref33_Class (β : Type) (L : Nat) (p0 : Int) (k_fin : Int → Option β) : Option β := R_ref33_Class F_ref33_Bound L p0 k_fin
def d_ref33_Class (F_ref33_Class : T_ref33_Class) (L : Nat) (β : Type) (args : List V) (bor : Bor) (k : V → Bor → Option β) : Option β := match args, bor with
  | [a0], [] => aI .i64 a0 fun p0 => F_ref33_Class β L p0 (fun p0 => k (V.sc (.int .i64 p0)) [])
  | _, _ => none
theorem d_ref33_Class_ok (L : Nat) (β : Type) (args : List V) (bor : Bor) (k : V → Bor → Option β) (r : β) (h : d_ref33_Class F_ref33_Class L β args bor k = some r) : funC sh_ref33_Class (cb_ref33_Class F_ref33_Bound L) L cf_ref33_Class args bor k = some r := by
  unfold d_ref33_Class at h
  split at h
  · have q := aI_inv h; clear h; obtain ⟨p0, rfl, h⟩ := q
    exact (R_ref33_Class_ok F_ref33_Bound L p0 k).trans h
  · cases h
/-! ref33_find : 251 -/
def cbabaa_ref33_find : CC := (.seq (.seq (.reg [⟨(some 6), false, none, .move (.tmp 5) false⟩,
   ⟨(some 7), false, none, .move (.tmp 0) false⟩,
   ⟨(some 8), false, none, .lenS (.tmp 7)⟩,
   ⟨(some 9), false, none, .bin .lss (.tmp 6) (.tmp 8)⟩])
 (.cond (.tmp 9)
 .skip
 (.seq (.mask (bl 0 20) (bl 1048263 20))
 (.exit 0))))
 (.seq (.block 1 (.seq (.dreg [] [(⟨(some 12), false, none, .move (.tmp 0) false⟩, q0),
   (⟨(some 13), false, none, .move (.tmp 5) false⟩, q0),
   (⟨(some 14), false, none, .indexAddrS 35 (.tmp 12) (.tmp 13)⟩, q0),
   (⟨(some 15), false, none, .fieldAddr 0 (.tmp 14)⟩, q0),
   (⟨(some 16), false, none, .load true 32 (.tmp 15) false⟩, q1),
   (⟨(some 17), false, none, .load true 32 (.tmp 3) false⟩, ⟨true, some 3, [], false⟩),
   (⟨(some 18), false, none, .eqAgg false 32 (.tmp 16) (.tmp 17)⟩, q0)])
 (.cond (.tmp 18)
 (.seq (.reg [⟨(some 19), false, none, .move (.tmp 5) false⟩,
   ⟨(some 4), false, none, .move (.tmp 19) false⟩])
 (.seq (.mask (bl 16 20) (bl 1048279 20))
 .ret))
 .skip)))
 (.reg [⟨(some 10), false, none, .move (.tmp 5) false⟩,
   ⟨(some 11), false, none, .bin .add (.tmp 10) (.const (.sc (.int .i64 1)))⟩,
   ⟨(some 5), false, none, .move (.tmp 11) false⟩])))
def cbb_ref33_find : CC := (.seq (.reg [⟨(some 4), false, none, .move (.const (.sc (.int .i64 (-1)))) false⟩])
 .ret)
def cf_ref33_find : CF := ⟨20, [.tmp 4],
 (.seq (.reg [⟨(some 3), false, none, .box true (.tmp 1)⟩,
   ⟨(some 4), false, none, .move (.const (.sc (.int .i64 0))) false⟩])
 (.seq (.seq (.reg [⟨(some 5), false, none, .move (.const (.sc (.int .i64 0))) false⟩])
 (.block 0 (.loop (bl 41 20) (bl 1048303 20)
 cbabaa_ref33_find)))
 cbb_ref33_find))⟩
def hint_ref33_find : Hint := ⟨[], [], [none, some ((bl 41 20), (bl 1048303 20)), none, some ((bl 0 20), (bl 1048263 20)), none, none, some ((bl 16 20), (bl 1048279 20)), none], [], [], false⟩
def sh_ref33_find : Nat → Sh := shOf []
def cb_ref33_find (L : Nat) : CBC := noC
def mbaba_ref33_find : St → St := maskN 0 (bl 41 20) (bl 1048303 20)
def st_hbaba_ref33_find (p0 : List (List V)) (p5 : Int) (b3 : List V) : St := ⟨[(V.sl 35 p0), .junk, .junk, (V.ptr 3 0), .junk, (V.sc (.int .i64 p5)), .junk, .junk, .junk, .junk, .junk, .junk, .junk, .junk, .junk, .junk, .junk, .junk, .junk, .junk], [.gone, .gone, .gone, (.live true b3), .gone, .gone, .gone, .gone, .gone, .gone, .gone, .gone, .gone, .gone, .gone, .gone, .gone, .gone, .gone, .gone]⟩
def st_ret_ref33_find (p4 : Int) : St := ⟨[.junk, .junk, .junk, .junk, (V.sc (.int .i64 p4)), .junk, .junk, .junk, .junk, .junk, .junk, .junk, .junk, .junk, .junk, .junk, .junk, .junk, .junk, .junk], [.gone, .gone, .gone, .gone, .gone, .gone, .gone, .gone, .gone, .gone, .gone, .gone, .gone, .gone, .gone, .gone, .gone, .gone, .gone, .gone]⟩
def st_x0_ref33_find : St := ⟨[.junk, .junk, .junk, .junk, .junk, .junk, .junk, .junk, .junk, .junk, .junk, .junk, .junk, .junk, .junk, .junk, .junk, .junk, .junk, .junk], [.gone, .gone, .gone, .gone, .gone, .gone, .gone, .gone, .gone, .gone, .gone, .gone, .gone, .gone, .gone, .gone, .gone, .gone, .gone, .gone]⟩
def e_ref33_find {β : Type} (L : Nat) (p0 : List (List V)) (p1 : List V) (k_hbaba : List (List V) → Int → List V → Option β) : Option β :=
 k_hbaba p0 (0 : Int) p1
theorem e_ref33_find_ok {β : Type} (L : Nat) (p0 : List (List V)) (p1 : List V) (k : V → Bor → Option β) : funC sh_ref33_find (cb_ref33_find L) L cf_ref33_find [(V.sl 35 p0), (V.agg p1)] [] k = e_ref33_find L p0 p1 (fun p0 p5 b3 => loopM (runC sh_ref33_find (cb_ref33_find L) 0 L cbabaa_ref33_find) mbaba_ref33_find L (st_hbaba_ref33_find p0 p5 b3) (blockK 0 (seqK (runC sh_ref33_find (cb_ref33_find L) 0 L cbb_ref33_find) (finK 0 (CF.res cf_ref33_find) k)))) := by kernel_rfl
def bbaba_ref33_find {β : Type} (L : Nat) (p0 : List (List V)) (p5 : Int) (b3 : List V) (k_ret : Int → Option β) (k_hbaba : List (List V) → Int → List V → Option β) (k_x0 : Option β) : Option β :=
 ifb (decide (p5 < ((List.length p0 : Nat) : Int))) (
 idx p0 p5 fun c0 =>
 chk (0 + 32 ≤ (List.length b3)) (
 eqC 32 (List.take 32 c0) (List.take 32 b3) fun v1 =>
 ifb v1 (
 k_ret p5) (
 lt (IntKind.wrap .i64 ((p5 : Int) + (1 : Int))) fun x2 =>
 k_hbaba p0 x2 b3))) (
 k_x0)
theorem bbaba_ref33_find_ok {β : Type} (L : Nat) (p0 : List (List V)) (p5 : Int) (b3 : List V) (X : St → Option β) (K : KT β) : runC sh_ref33_find (cb_ref33_find L) 0 L cbabaa_ref33_find (st_hbaba_ref33_find p0 p5 b3) (loopK mbaba_ref33_find X K) = bbaba_ref33_find L p0 p5 b3 (fun p4 => K .ret (st_ret_ref33_find p4)) (fun p0 p5 b3 => X (st_hbaba_ref33_find p0 p5 b3)) (K (.exit 0) (st_x0_ref33_find)) := by kernel_rfl
def rbabaret_ref33_find {β : Type} (L : Nat) (p4 : Int) (k_fin : Int → Option β) : Option β :=
 k_fin p4
theorem rbabaret_ref33_find_ok {β : Type} (L : Nat) (p4 : Int) (k : V → Bor → Option β) : (blockK 0 (seqK (runC sh_ref33_find (cb_ref33_find L) 0 L cbb_ref33_find) (finK 0 (CF.res cf_ref33_find) k))) .ret (st_ret_ref33_find p4) = rbabaret_ref33_find L p4 (fun p0 => k (V.sc (.int .i64 p0)) []) := by kernel_rfl
def rbabax0_ref33_find {β : Type} (L : Nat) (k_fin : Int → Option β) : Option β :=
 k_fin (-1 : Int)
theorem rbabax0_ref33_find_ok {β : Type} (L : Nat) (k : V → Bor → Option β) : (blockK 0 (seqK (runC sh_ref33_find (cb_ref33_find L) 0 L cbb_ref33_find) (finK 0 (CF.res cf_ref33_find) k))) (.exit 0) (st_x0_ref33_find) = rbabax0_ref33_find L (fun p0 => k (V.sc (.int .i64 p0)) []) := by kernel_rfl
def lbaba_ref33_find {β : Type} (L : Nat) (k_ret : Int → Option β) (k_x0 : Option β) : Nat → List (List V) → Int → List V → Option β
  | 0, _, _, _ => none
  | n + 1, p0, p5, b3 => bbaba_ref33_find L p0 p5 b3 k_ret (fun p0 p5 b3 => lbaba_ref33_find L k_ret k_x0 n p0 p5 b3) k_x0
theorem lbaba_ref33_find_ok {β : Type} (L : Nat) (K : KT β) : ∀ (n : Nat) (p0 : List (List V)) (p5 : Int) (b3 : List V), loopM (runC sh_ref33_find (cb_ref33_find L) 0 L cbabaa_ref33_find) mbaba_ref33_find n (st_hbaba_ref33_find p0 p5 b3) K = lbaba_ref33_find L (fun p4 => K .ret (st_ret_ref33_find p4)) (K (.exit 0) (st_x0_ref33_find)) n p0 p5 b3 := by
  intro n
  induction n with
  | zero => intros; rfl
  | succ n ih =>
    intro p0 p5 b3
    refine (bbaba_ref33_find_ok L p0 p5 b3 (fun σ => loopM (runC sh_ref33_find (cb_ref33_find L) 0 L cbabaa_ref33_find) mbaba_ref33_find n σ K) K).trans ?_
    simp only [ih]
    rfl
def R_ref33_find {β : Type} (L : Nat) (p0 : List (List V)) (p1 : List V) (k_fin : Int → Option β) : Option β :=
 e_ref33_find L p0 p1 (fun p0 p5 b3 => lbaba_ref33_find L (fun p4 => rbabaret_ref33_find L p4 k_fin) (rbabax0_ref33_find L k_fin) L p0 p5 b3)
theorem R_ref33_find_ok {β : Type} (L : Nat) (p0 : List (List V)) (p1 : List V) (k : V → Bor → Option β) : funC sh_ref33_find (cb_ref33_find L) L cf_ref33_find [(V.sl 35 p0), (V.agg p1)] [] k = R_ref33_find L p0 p1 (fun p0 => k (V.sc (.int .i64 p0)) []) := by
  refine (e_ref33_find_ok L p0 p1 k).trans ?_
  unfold R_ref33_find
  simp only [lbaba_ref33_find_ok, rbabaret_ref33_find_ok, rbabax0_ref33_find_ok]
abbrev T_ref33_find := ∀ (β : Type), Nat → List (List V) → List V → (Int → Option β) → Option β
def F_ref33_find (β : Type) (L : Nat) (p0 : List (List V)) (p1 : List V) (k_fin : Int → Option β) : Option β := R_ref33_find L p0 p1 k_fin
def d_ref33_find (F_ref33_find : T_ref33_find) (L : Nat) (β : Type) (args : List V) (bor : Bor) (k : V → Bor → Option β) : Option β := match args, bor with
  | [a0, a1], [] => aL 35 a0 fun p0 => aG a1 fun p1 => F_ref33_find β L p0 p1 (fun p0 => k (V.sc (.int .i64 p0)) [])
  | _, _ => none
theorem d_ref33_find_ok (L : Nat) (β : Type) (args : List V) (bor : Bor) (k : V → Bor → Option β) (r : β) (h : d_ref33_find F_ref33_find L β args bor k = some r) : funC sh_ref33_find (cb_ref33_find L) L cf_ref33_find args bor k = some r := by
  unfold d_ref33_find at h
  split at h
  · have q := aL_inv h; clear h; obtain ⟨p0, rfl, h⟩ := q
    have q := aG_inv h; clear h; obtain ⟨p1, rfl, h⟩ := q
    exact (R_ref33_find_ok L p0 p1 k).trans h
  · cases h
/-! ref33_Observe : 237 -/
def cf_ref33_Observe : CF := ⟨38, [.tmp 8, .tmp 9],
 (.seq (.reg [⟨(some 5), false, none, .box true (.tmp 1)⟩,
   ⟨(some 8), false, none, .move (.const (.gs 35 [])) true⟩,
   ⟨(some 9), false, none, .move (.const (.sc (.int .i64 0))) false⟩])
 (.seq (.block 0 (.seq (.reg [⟨(some 11), false, none, .move (.tmp 2) false⟩,
   ⟨(some 12), false, none, .call 223 [((.tmp 11), 0)] []⟩,
   ⟨(some 13), false, none, .bin .lss (.tmp 12) (.const (.sc (.int .i64 0)))⟩,
   ⟨(some 14), false, none, .move (.tmp 13) false⟩,
   ⟨(some 15), false, (some (14, false)), .move (.tmp 3) false⟩,
   ⟨(some 16), false, (some (14, false)), .call 242 [((.tmp 15), 0), ((.const (.sc (.int .i64 1))), 0), ((.const (.sc (.int .i64 16777216))), 0)] []⟩,
   ⟨(some 17), false, (some (14, false)), .un .not (.tmp 16)⟩,
   ⟨(some 18), false, none, .pick (.tmp 14) (.const (.sc (.bool true))) (.tmp 17)⟩,
   ⟨(some 10), false, none, .move (.tmp 18) false⟩])
 (.cond (.tmp 10)
 (.seq (.reg [⟨(some 8), false, none, .move (.const (.gs 35 [])) true⟩,
   ⟨(some 9), false, none, .move (.const (.sc (.int .i64 5))) false⟩])
 .ret)
 (.seq (.reg [⟨(some 20), false, none, .move (.tmp 0) false⟩,
   ⟨(some 21), false, none, .load true 32 (.tmp 5) false⟩,
   ⟨(some 22), false, none, .call 251 [((.tmp 20), 0), ((.tmp 21), 0)] []⟩,
   ⟨(some 23), false, none, .bin .geq (.tmp 22) (.const (.sc (.int .i64 0)))⟩,
   ⟨(some 19), false, none, .move (.tmp 23) false⟩])
 (.cond (.tmp 19)
 (.seq (.reg [⟨(some 8), false, none, .move (.const (.gs 35 [])) true⟩,
   ⟨(some 9), false, none, .move (.const (.sc (.int .i64 150))) false⟩])
 .ret)
 (.seq (.reg [⟨(some 25), false, none, .move (.tmp 0) false⟩,
   ⟨(some 26), false, none, .lenS (.tmp 25)⟩,
   ⟨(some 27), false, none, .bin .geq (.tmp 26) (.const (.sc (.int .i64 2048)))⟩,
   ⟨(some 24), false, none, .move (.tmp 27) false⟩])
 (.cond (.tmp 24)
 (.seq (.reg [⟨(some 8), false, none, .move (.const (.gs 35 [])) true⟩,
   ⟨(some 9), false, none, .move (.const (.sc (.int .i64 380))) false⟩])
 .ret)
 .skip)))))))
 (.seq (.dreg [] [(⟨(some 28), false, none, .buildSlice 35 0 [(.sc (.int .u8 0)), (.sc (.int .u8 0)), (.sc (.int .u8 0)), (.sc (.int .u8 0)), (.sc (.int .u8 0)), (.sc (.int .u8 0)), (.sc (.int .u8 0)), (.sc (.int .u8 0)), (.sc (.int .u8 0)), (.sc (.int .u8 0)), (.sc (.int .u8 0)), (.sc (.int .u8 0)), (.sc (.int .u8 0)), (.sc (.int .u8 0)), (.sc (.int .u8 0)), (.sc (.int .u8 0)), (.sc (.int .u8 0)), (.sc (.int .u8 0)), (.sc (.int .u8 0)), (.sc (.int .u8 0)), (.sc (.int .u8 0)), (.sc (.int .u8 0)), (.sc (.int .u8 0)), (.sc (.int .u8 0)), (.sc (.int .u8 0)), (.sc (.int .u8 0)), (.sc (.int .u8 0)), (.sc (.int .u8 0)), (.sc (.int .u8 0)), (.sc (.int .u8 0)), (.sc (.int .u8 0)), (.sc (.int .u8 0)), (.sc (.int .i64 0)), (.sc (.int .i64 0)), (.sc (.int .i64 0))] []⟩, q1),
   (⟨(some 29), false, none, .move (.tmp 0) false⟩, q0),
   (⟨(some 30), false, none, .append 35 56 (.tmp 28) (.tmp 29)⟩, q1),
   (⟨(some 31), false, none, .load true 32 (.tmp 5) false⟩, ⟨true, some 5, [], false⟩),
   (⟨(some 32), false, none, .move (.tmp 2) false⟩, q0),
   (⟨(some 33), false, none, .call 223 [((.tmp 32), 0)] []⟩, ⟨false, none, [5], false⟩),
   (⟨(some 34), false, none, .move (.tmp 3) false⟩, q0),
   (⟨(some 35), false, none, .build [(.sc (.int .u8 0)), (.sc (.int .u8 0)), (.sc (.int .u8 0)), (.sc (.int .u8 0)), (.sc (.int .u8 0)), (.sc (.int .u8 0)), (.sc (.int .u8 0)), (.sc (.int .u8 0)), (.sc (.int .u8 0)), (.sc (.int .u8 0)), (.sc (.int .u8 0)), (.sc (.int .u8 0)), (.sc (.int .u8 0)), (.sc (.int .u8 0)), (.sc (.int .u8 0)), (.sc (.int .u8 0)), (.sc (.int .u8 0)), (.sc (.int .u8 0)), (.sc (.int .u8 0)), (.sc (.int .u8 0)), (.sc (.int .u8 0)), (.sc (.int .u8 0)), (.sc (.int .u8 0)), (.sc (.int .u8 0)), (.sc (.int .u8 0)), (.sc (.int .u8 0)), (.sc (.int .u8 0)), (.sc (.int .u8 0)), (.sc (.int .u8 0)), (.sc (.int .u8 0)), (.sc (.int .u8 0)), (.sc (.int .u8 0)), (.sc (.int .i64 0)), (.sc (.int .i64 0)), (.sc (.int .i64 0))] [(0, 32, (.tmp 31)), (32, 1, (.tmp 33)), (33, 1, (.tmp 34))]⟩, q0),
   (⟨(some 36), false, none, .buildSlice 35 1 [(.sc (.int .u8 0)), (.sc (.int .u8 0)), (.sc (.int .u8 0)), (.sc (.int .u8 0)), (.sc (.int .u8 0)), (.sc (.int .u8 0)), (.sc (.int .u8 0)), (.sc (.int .u8 0)), (.sc (.int .u8 0)), (.sc (.int .u8 0)), (.sc (.int .u8 0)), (.sc (.int .u8 0)), (.sc (.int .u8 0)), (.sc (.int .u8 0)), (.sc (.int .u8 0)), (.sc (.int .u8 0)), (.sc (.int .u8 0)), (.sc (.int .u8 0)), (.sc (.int .u8 0)), (.sc (.int .u8 0)), (.sc (.int .u8 0)), (.sc (.int .u8 0)), (.sc (.int .u8 0)), (.sc (.int .u8 0)), (.sc (.int .u8 0)), (.sc (.int .u8 0)), (.sc (.int .u8 0)), (.sc (.int .u8 0)), (.sc (.int .u8 0)), (.sc (.int .u8 0)), (.sc (.int .u8 0)), (.sc (.int .u8 0)), (.sc (.int .i64 0)), (.sc (.int .i64 0)), (.sc (.int .i64 0))] [(0, 35, (.tmp 35))]⟩, q0),
   (⟨(some 37), false, none, .append 35 56 (.tmp 30) (.tmp 36)⟩, q0),
   (⟨(some 8), false, none, .move (.tmp 37) true⟩, q0),
   (⟨(some 9), false, none, .move (.const (.sc (.int .i64 0))) false⟩, q0)])
 .ret)))⟩
def hint_ref33_Observe : Hint := ⟨[(0, 1), (2, 0), (4, 0), (6, 0), (7, 10)], [], [none, none, none, none, none, none, none, none], [], [], false⟩
def sh_ref33_Observe : Nat → Sh := shOf []
def cb_ref33_Observe (F_ref33_Class : T_ref33_Class) (F_ref33_in : T_ref33_in) (F_ref33_find : T_ref33_find) (L : Nat) : CBC := (addC 251 (d_ref33_find F_ref33_find L) (addC 242 (d_ref33_in F_ref33_in L) (addC 223 (d_ref33_Class F_ref33_Class L) noC)))
def R_ref33_Observe {β : Type} (F_ref33_Class : T_ref33_Class) (F_ref33_in : T_ref33_in) (F_ref33_find : T_ref33_find) (L : Nat) (p0 : List (List V)) (p1 : List V) (p2 : Int) (p3 : Int) (k_fin : List (List V) → Int → Option β) : Option β :=
 F_ref33_Class β L p2 (fun v0 =>
 ifb (decide (v0 < (0 : Int))) (
 k_fin ([] : List (List V)) (5 : Int)) (
 F_ref33_in β L p3 (1 : Int) (16777216 : Int) (fun v1 =>
 ifb (!v1) (
 k_fin ([] : List (List V)) (5 : Int)) (
 chk (0 + 32 ≤ (List.length p1)) (
 F_ref33_find β L p0 (List.take 32 p1) (fun v2 =>
 ifb (decide (v2 ≥ (0 : Int))) (
 k_fin ([] : List (List V)) (150 : Int)) (
 ifb (decide (((List.length p0 : Nat) : Int) ≥ (2048 : Int))) (
 k_fin ([] : List (List V)) (380 : Int)) (
 chk ((List.length ([] : List (List V)) + List.length p0) * 56 ≤ sizeCap ∧ List.length ([] : List (List V)) + List.length p0 ≤ sizeCap) (
 lt (([] : List (List V)) ++ p0) fun l3 =>
 chk (0 + 32 ≤ (List.length p1)) (
 F_ref33_Class β L p2 (fun v4 =>
 chk ((List.length (List.take 32 p1)) = 32 ∧ 0 + 32 ≤ 35) (
 chk (1 = 1 ∧ 32 + 1 ≤ (List.length (setAt (List.replicate 32 (V.sc (.int .u8 (0 : Int))) ++ [(V.sc (.int .i64 (0 : Int))), (V.sc (.int .i64 (0 : Int))), (V.sc (.int .i64 (0 : Int)))]) 0 (List.take 32 p1)))) (
 chk (1 = 1 ∧ 33 + 1 ≤ (List.length (setAt (setAt (List.replicate 32 (V.sc (.int .u8 (0 : Int))) ++ [(V.sc (.int .i64 (0 : Int))), (V.sc (.int .i64 (0 : Int))), (V.sc (.int .i64 (0 : Int)))]) 0 (List.take 32 p1)) 32 [(V.sc (.int .i64 v4))]))) (
 chk ((List.length (setAt (setAt (setAt (List.replicate 32 (V.sc (.int .u8 (0 : Int))) ++ [(V.sc (.int .i64 (0 : Int))), (V.sc (.int .i64 (0 : Int))), (V.sc (.int .i64 (0 : Int)))]) 0 (List.take 32 p1)) 32 [(V.sc (.int .i64 v4))]) 33 [(V.sc (.int .i64 p3))])) = 35 ∧ 0 + 35 ≤ 35) (
 chk ((List.length l3 + List.length (chunks 35 1 (setAt (List.replicate 32 (V.sc (.int .u8 (0 : Int))) ++ [(V.sc (.int .i64 (0 : Int))), (V.sc (.int .i64 (0 : Int))), (V.sc (.int .i64 (0 : Int)))]) 0 (setAt (setAt (setAt (List.replicate 32 (V.sc (.int .u8 (0 : Int))) ++ [(V.sc (.int .i64 (0 : Int))), (V.sc (.int .i64 (0 : Int))), (V.sc (.int .i64 (0 : Int)))]) 0 (List.take 32 p1)) 32 [(V.sc (.int .i64 v4))]) 33 [(V.sc (.int .i64 p3))])))) * 56 ≤ sizeCap ∧ List.length l3 + List.length (chunks 35 1 (setAt (List.replicate 32 (V.sc (.int .u8 (0 : Int))) ++ [(V.sc (.int .i64 (0 : Int))), (V.sc (.int .i64 (0 : Int))), (V.sc (.int .i64 (0 : Int)))]) 0 (setAt (setAt (setAt (List.replicate 32 (V.sc (.int .u8 (0 : Int))) ++ [(V.sc (.int .i64 (0 : Int))), (V.sc (.int .i64 (0 : Int))), (V.sc (.int .i64 (0 : Int)))]) 0 (List.take 32 p1)) 32 [(V.sc (.int .i64 v4))]) 33 [(V.sc (.int .i64 p3))]))) ≤ sizeCap) (
 lt (l3 ++ (chunks 35 1 (setAt (List.replicate 32 (V.sc (.int .u8 (0 : Int))) ++ [(V.sc (.int .i64 (0 : Int))), (V.sc (.int .i64 (0 : Int))), (V.sc (.int .i64 (0 : Int)))]) 0 (setAt (setAt (setAt (List.replicate 32 (V.sc (.int .u8 (0 : Int))) ++ [(V.sc (.int .i64 (0 : Int))), (V.sc (.int .i64 (0 : Int))), (V.sc (.int .i64 (0 : Int)))]) 0 (List.take 32 p1)) 32 [(V.sc (.int .i64 v4))]) 33 [(V.sc (.int .i64 p3))])))) fun l5 =>
 k_fin l5 (0 : Int)))))))))))))))))
theorem R_ref33_Observe_ok {β : Type} (F_ref33_Class : T_ref33_Class) (F_ref33_in : T_ref33_in) (F_ref33_find : T_ref33_find) (L : Nat) (p0 : List (List V)) (p1 : List V) (p2 : Int) (p3 : Int) (k : V → Bor → Option β) : funC sh_ref33_Observe (cb_ref33_Observe F_ref33_Class F_ref33_in F_ref33_find L) L cf_ref33_Observe [(V.sl 35 p0), (V.agg p1), (V.sc (.int .i64 p2)), (V.sc (.int .i64 p3))] [] k = R_ref33_Observe F_ref33_Class F_ref33_in F_ref33_find L p0 p1 p2 p3 (fun p0_0 p0_1 => k (V.tup [(V.gs 35 p0_0), (V.sc (.int .i64 p0_1))]) []) := by kernel_rfl
abbrev T_ref33_Observe := ∀ (β : Type), Nat → List (List V) → List V → Int → Int → (List (List V) → Int → Option β) → Option β
def F_ref33_Observe (β : Type) (L : Nat) (p0 : List (List V)) (p1 : List V) (p2 : Int) (p3 : Int) (k_fin : List (List V) → Int → Option β) : Option β := R_ref33_Observe F_ref33_Class F_ref33_in F_ref33_find L p0 p1 p2 p3 k_fin
def d_ref33_Observe (F_ref33_Observe : T_ref33_Observe) (L : Nat) (β : Type) (args : List V) (bor : Bor) (k : V → Bor → Option β) : Option β := match args, bor with
  | [a0, a1, a2, a3], [] => aL 35 a0 fun p0 => aG a1 fun p1 => aI .i64 a2 fun p2 => aI .i64 a3 fun p3 => F_ref33_Observe β L p0 p1 p2 p3 (fun p0_0 p0_1 => k (V.tup [(V.gs 35 p0_0), (V.sc (.int .i64 p0_1))]) [])
  | _, _ => none
theorem d_ref33_Observe_ok (L : Nat) (β : Type) (args : List V) (bor : Bor) (k : V → Bor → Option β) (r : β) (h : d_ref33_Observe F_ref33_Observe L β args bor k = some r) : funC sh_ref33_Observe (cb_ref33_Observe F_ref33_Class F_ref33_in F_ref33_find L) L cf_ref33_Observe args bor k = some r := by
  unfold d_ref33_Observe at h
  split at h
  · have q := aL_inv h; clear h; obtain ⟨p0, rfl, h⟩ := q
    have q := aG_inv h; clear h; obtain ⟨p1, rfl, h⟩ := q
    have q := aI_inv h; clear h; obtain ⟨p2, rfl, h⟩ := q
    have q := aI_inv h; clear h; obtain ⟨p3, rfl, h⟩ := q
    exact (R_ref33_Observe_ok F_ref33_Class F_ref33_in F_ref33_find L p0 p1 p2 p3 k).trans h
  · cases h
/-! law33_samples : 224 -/
def cbbabaa_law33_samples : CC := (.seq (.seq (.reg [⟨(some 9), false, none, .move (.tmp 4) false⟩,
   ⟨(some 10), false, none, .bin .gtr (.tmp 9) (.const (.sc (.int .i64 0)))⟩])
 (.cond (.tmp 10)
 .skip
 (.seq (.mask (bl 8 41) (bl 1475076669327 41))
 (.exit 0))))
 (.seq (.block 1 (.seq (.reg [⟨(some 13), false, none, .move (.tmp 0) false⟩,
   ⟨(some 14), false, none, .call 231 [((.tmp 13), 0), ((.const (.sc (.int .i64 4))), 0)] []⟩])
 (.block 2 (.seq (.reg [⟨(some 32), false, none, .bin .eql (.tmp 14) (.const (.sc (.int .i64 0)))⟩,
   ⟨(some 31), false, none, .move (.tmp 32) false⟩])
 (.cond (.tmp 31)
 (.reg [⟨(some 33), false, none, .move (.tmp 3) false⟩,
   ⟨(some 34), false, none, .move (.tmp 0) false⟩,
   ⟨(some 35), false, none, .call 233 [((.tmp 34), 0), ((.const (.sc (.int .i64 4))), 0)] []⟩,
   ⟨(some 36), false, none, .move (.tmp 0) false⟩,
   ⟨(some 37), false, none, .call 231 [((.tmp 36), 0), ((.const (.sc (.int .i64 20))), 0)] []⟩,
   ⟨(some 38), false, none, .bin .add (.const (.sc (.int .i64 1))) (.tmp 37)⟩,
   ⟨(some 39), false, none, .call 238 [((.tmp 33), 0), ((.tmp 35), 0), ((.tmp 38), 0)] []⟩,
   ⟨(some 3), false, none, .move (.tmp 39) true⟩])
 (.seq (.reg [⟨(some 16), false, none, .move (.tmp 3) false⟩,
   ⟨(some 17), false, none, .move (.tmp 0) false⟩,
   ⟨(some 18), false, none, .call 236 [((.tmp 17), 0)] []⟩,
   ⟨(some 19), false, none, .move (.tmp 0) false⟩,
   ⟨(some 20), false, none, .call 231 [((.tmp 19), 0), ((.const (.sc (.int .i64 60))), 0)] []⟩,
   ⟨(some 21), false, none, .bin .add (.const (.sc (.int .i64 10))) (.tmp 20)⟩,
   ⟨(some 22), false, none, .move (.tmp 0) false⟩,
   ⟨(some 23), false, none, .call 231 [((.tmp 22), 0), ((.const (.sc (.int .i64 15))), 0)] []⟩,
   ⟨(some 24), false, none, .bin .add (.const (.sc (.int .i64 1))) (.tmp 23)⟩,
   ⟨(some 25), false, none, .call 237 [((.tmp 16), 0), ((.tmp 18), 0), ((.tmp 21), 0), ((.tmp 24), 0)] []⟩,
   ⟨(some 15), false, none, .move (.tmp 25) true⟩,
   ⟨(some 26), false, none, .extract (.tmp 15) 0⟩,
   ⟨(some 27), false, none, .pull (.tmp 15) 1⟩,
   ⟨(some 5), false, none, .move (.tmp 26) true⟩,
   ⟨(some 6), false, none, .move (.tmp 27) false⟩])
 (.seq (.reg [⟨(some 28), false, none, .move (.tmp 6) false⟩,
   ⟨(some 29), false, none, .bin .eql (.tmp 28) (.const (.sc (.int .i64 0)))⟩])
 (.cond (.tmp 29)
 (.reg [⟨(some 30), false, none, .move (.tmp 5) true⟩,
   ⟨(some 3), false, none, .move (.tmp 30) true⟩])
 .skip))))))))
 (.reg [⟨(some 11), false, none, .move (.tmp 4) false⟩,
   ⟨(some 12), false, none, .bin .sub (.tmp 11) (.const (.sc (.int .i64 1)))⟩,
   ⟨(some 4), false, none, .move (.tmp 12) false⟩])))
def cbbb_law33_samples : CC := (.seq (.reg [⟨(some 40), false, none, .move (.tmp 3) true⟩,
   ⟨(some 2), false, none, .move (.tmp 40) true⟩])
 .ret)
def cf_law33_samples : CF := ⟨41, [.tmp 2],
 (.seq (.reg [⟨(some 2), false, none, .move (.const (.gs 35 [])) true⟩])
 (.seq (.reg [⟨(some 3), false, none, .move (.const (.gs 35 [])) true⟩])
 (.seq (.seq (.reg [⟨(some 7), false, none, .move (.tmp 0) false⟩,
   ⟨(some 8), false, none, .call 231 [((.tmp 7), 0), ((.const (.sc (.int .i64 20))), 0)] []⟩,
   ⟨(some 4), false, none, .move (.tmp 8) false⟩])
 (.block 0 (.loop (bl 25 41) (bl 1475076669343 41)
 cbbabaa_law33_samples)))
 cbbb_law33_samples)))⟩
def hint_law33_samples : Hint := ⟨[(0, 0), (1, 0), (10, 7), (6, 10), (6, 11), (6, 13), (8, 0), (8, 1), (11, 0), (11, 1)], [], [none, some ((bl 25 41), (bl 1475076669343 41)), none, some ((bl 8 41), (bl 1475076669327 41)), none, none, none, none, none], [], [], false⟩
def sh_law33_samples : Nat → Sh := shOf []
def cb_law33_samples (F_mill_Deck_Next : T_mill_Deck_Next) (F_mill_Hashes : T_mill_Hashes) (F_ref33_Confirm : T_ref33_Confirm) (F_mill_Hash : T_mill_Hash) (F_ref33_Observe : T_ref33_Observe) (L : Nat) : CBC := (addC 237 (d_ref33_Observe F_ref33_Observe L) (addC 236 (d_mill_Hash F_mill_Hash L) (addC 238 (d_ref33_Confirm F_ref33_Confirm L) (addC 233 (d_mill_Hashes F_mill_Hashes L) (addC 231 (d_mill_Deck_Next F_mill_Deck_Next L) noC)))))
def mbbaba_law33_samples : St → St := maskN 1 (bl 25 41) (bl 1475076669343 41)
def st_hbbaba_law33_samples (p3 : List (List V)) (p4 : Int) (b0_0 : List (List V)) (b0_1 : Int) : St := ⟨[(V.ptr 0 0), .junk, .junk, (V.gs 35 p3), (V.sc (.int .i64 p4)), .junk, .junk, .junk, .junk, .junk, .junk, .junk, .junk, .junk, .junk, .junk, .junk, .junk, .junk, .junk, .junk, .junk, .junk, .junk, .junk, .junk, .junk, .junk, .junk, .junk, .junk, .junk, .junk, .junk, .junk, .junk, .junk, .junk, .junk, .junk, .junk], [(.live false [(V.sl 1 b0_0), (V.sc (.int .i64 b0_1))]), .gone, .gone, .gone, .gone, .gone, .gone, .gone, .gone, .gone, .gone, .gone, .gone, .gone, .gone, .gone, .gone, .gone, .gone, .gone, .gone, .gone, .gone, .gone, .gone, .gone, .gone, .gone, .gone, .gone, .gone, .gone, .gone, .gone, .gone, .gone, .gone, .gone, .gone, .gone, .gone, .gone]⟩
def st_x0_law33_samples (p3 : List (List V)) (b0_0 : List (List V)) (b0_1 : Int) : St := ⟨[.junk, .junk, .junk, (V.gs 35 p3), .junk, .junk, .junk, .junk, .junk, .junk, .junk, .junk, .junk, .junk, .junk, .junk, .junk, .junk, .junk, .junk, .junk, .junk, .junk, .junk, .junk, .junk, .junk, .junk, .junk, .junk, .junk, .junk, .junk, .junk, .junk, .junk, .junk, .junk, .junk, .junk, .junk], [(.live false [(V.sl 1 b0_0), (V.sc (.int .i64 b0_1))]), .gone, .gone, .gone, .gone, .gone, .gone, .gone, .gone, .gone, .gone, .gone, .gone, .gone, .gone, .gone, .gone, .gone, .gone, .gone, .gone, .gone, .gone, .gone, .gone, .gone, .gone, .gone, .gone, .gone, .gone, .gone, .gone, .gone, .gone, .gone, .gone, .gone, .gone, .gone, .gone, .gone]⟩
def e_law33_samples {β : Type} (F_mill_Deck_Next : T_mill_Deck_Next) (F_mill_Hashes : T_mill_Hashes) (F_ref33_Confirm : T_ref33_Confirm) (F_mill_Hash : T_mill_Hash) (F_ref33_Observe : T_ref33_Observe) (L : Nat) (b0_0 : List (List V)) (b0_1 : Int) (k_hbbaba : List (List V) → Int → List (List V) → Int → Option β) : Option β :=
 F_mill_Deck_Next β L (20 : Int) b0_0 b0_1 (fun v0 v1 v2 =>
 k_hbbaba ([] : List (List V)) v0 v1 v2)
theorem e_law33_samples_ok {β : Type} (F_mill_Deck_Next : T_mill_Deck_Next) (F_mill_Hashes : T_mill_Hashes) (F_ref33_Confirm : T_ref33_Confirm) (F_mill_Hash : T_mill_Hash) (F_ref33_Observe : T_ref33_Observe) (L : Nat) (b0_0 : List (List V)) (b0_1 : Int) (k : V → Bor → Option β) : funC sh_law33_samples (cb_law33_samples F_mill_Deck_Next F_mill_Hashes F_ref33_Confirm F_mill_Hash F_ref33_Observe L) L cf_law33_samples [(V.ptr 0 0)] [(.live false [(V.sl 1 b0_0), (V.sc (.int .i64 b0_1))])] k = e_law33_samples F_mill_Deck_Next F_mill_Hashes F_ref33_Confirm F_mill_Hash F_ref33_Observe L b0_0 b0_1 (fun p3 p4 b0_0 b0_1 => loopM (runC sh_law33_samples (cb_law33_samples F_mill_Deck_Next F_mill_Hashes F_ref33_Confirm F_mill_Hash F_ref33_Observe L) 1 L cbbabaa_law33_samples) mbbaba_law33_samples L (st_hbbaba_law33_samples p3 p4 b0_0 b0_1) (blockK 0 (seqK (runC sh_law33_samples (cb_law33_samples F_mill_Deck_Next F_mill_Hashes F_ref33_Confirm F_mill_Hash F_ref33_Observe L) 1 L cbbb_law33_samples) (finK 1 (CF.res cf_law33_samples) k)))) := by kernel_rfl
def bbbaba_law33_samples {β : Type} (F_mill_Deck_Next : T_mill_Deck_Next) (F_mill_Hashes : T_mill_Hashes) (F_ref33_Confirm : T_ref33_Confirm) (F_mill_Hash : T_mill_Hash) (F_ref33_Observe : T_ref33_Observe) (L : Nat) (p3 : List (List V)) (p4 : Int) (b0_0 : List (List V)) (b0_1 : Int) (k_hbbaba : List (List V) → Int → List (List V) → Int → Option β) (k_x0 : List (List V) → List (List V) → Int → Option β) : Option β :=
 ifb (decide (p4 > (0 : Int))) (
 F_mill_Deck_Next β L (4 : Int) b0_0 b0_1 (fun v3 v4 v5 =>
 ifb ((v3 : Int) == (0 : Int)) (
 F_mill_Hashes β L (4 : Int) v4 v5 (fun v6 v7 v8 =>
 F_mill_Deck_Next β L (20 : Int) v7 v8 (fun v9 v10 v11 =>
 lt (IntKind.wrap .i64 (((1 : Int) : Int) + v9)) fun x12 =>
 F_ref33_Confirm β L p3 v6 x12 (fun v13 =>
 lt (IntKind.wrap .i64 ((p4 : Int) - (1 : Int))) fun x14 =>
 k_hbbaba v13 x14 v10 v11)))) (
 F_mill_Hash β L v4 v5 (fun v15 v16 v17 =>
 F_mill_Deck_Next β L (60 : Int) v16 v17 (fun v18 v19 v20 =>
 lt (IntKind.wrap .i64 (((10 : Int) : Int) + v18)) fun x21 =>
 F_mill_Deck_Next β L (15 : Int) v19 v20 (fun v22 v23 v24 =>
 lt (IntKind.wrap .i64 (((1 : Int) : Int) + v22)) fun x25 =>
 F_ref33_Observe β L p3 v15 x21 x25 (fun v26 v27 =>
 ifb ((v27 : Int) == (0 : Int)) (
 lt (IntKind.wrap .i64 ((p4 : Int) - (1 : Int))) fun x28 =>
 k_hbbaba v26 x28 v23 v24) (
 lt (IntKind.wrap .i64 ((p4 : Int) - (1 : Int))) fun x29 =>
 k_hbbaba p3 x29 v23 v24)))))))) (
 k_x0 p3 b0_0 b0_1)
theorem bbbaba_law33_samples_ok {β : Type} (F_mill_Deck_Next : T_mill_Deck_Next) (F_mill_Hashes : T_mill_Hashes) (F_ref33_Confirm : T_ref33_Confirm) (F_mill_Hash : T_mill_Hash) (F_ref33_Observe : T_ref33_Observe) (L : Nat) (p3 : List (List V)) (p4 : Int) (b0_0 : List (List V)) (b0_1 : Int) (X : St → Option β) (K : KT β) : runC sh_law33_samples (cb_law33_samples F_mill_Deck_Next F_mill_Hashes F_ref33_Confirm F_mill_Hash F_ref33_Observe L) 1 L cbbabaa_law33_samples (st_hbbaba_law33_samples p3 p4 b0_0 b0_1) (loopK mbbaba_law33_samples X K) = bbbaba_law33_samples F_mill_Deck_Next F_mill_Hashes F_ref33_Confirm F_mill_Hash F_ref33_Observe L p3 p4 b0_0 b0_1 (fun p3 p4 b0_0 b0_1 => X (st_hbbaba_law33_samples p3 p4 b0_0 b0_1)) (fun p3 b0_0 b0_1 => K (.exit 0) (st_x0_law33_samples p3 b0_0 b0_1)) := by kernel_rfl
def rbbabax0_law33_samples {β : Type} (F_mill_Deck_Next : T_mill_Deck_Next) (F_mill_Hashes : T_mill_Hashes) (F_ref33_Confirm : T_ref33_Confirm) (F_mill_Hash : T_mill_Hash) (F_ref33_Observe : T_ref33_Observe) (L : Nat) (p3 : List (List V)) (b0_0 : List (List V)) (b0_1 : Int) (k_fin : List (List V) → List (List V) → Int → Option β) : Option β :=
 k_fin p3 b0_0 b0_1
theorem rbbabax0_law33_samples_ok {β : Type} (F_mill_Deck_Next : T_mill_Deck_Next) (F_mill_Hashes : T_mill_Hashes) (F_ref33_Confirm : T_ref33_Confirm) (F_mill_Hash : T_mill_Hash) (F_ref33_Observe : T_ref33_Observe) (L : Nat) (p3 : List (List V)) (b0_0 : List (List V)) (b0_1 : Int) (k : V → Bor → Option β) : (blockK 0 (seqK (runC sh_law33_samples (cb_law33_samples F_mill_Deck_Next F_mill_Hashes F_ref33_Confirm F_mill_Hash F_ref33_Observe L) 1 L cbbb_law33_samples) (finK 1 (CF.res cf_law33_samples) k))) (.exit 0) (st_x0_law33_samples p3 b0_0 b0_1) = rbbabax0_law33_samples F_mill_Deck_Next F_mill_Hashes F_ref33_Confirm F_mill_Hash F_ref33_Observe L p3 b0_0 b0_1 (fun p0 b0_0 b0_1 => k (V.gs 35 p0) [(.live false [(V.sl 1 b0_0), (V.sc (.int .i64 b0_1))])]) := by kernel_rfl
def lbbaba_law33_samples {β : Type} (F_mill_Deck_Next : T_mill_Deck_Next) (F_mill_Hashes : T_mill_Hashes) (F_ref33_Confirm : T_ref33_Confirm) (F_mill_Hash : T_mill_Hash) (F_ref33_Observe : T_ref33_Observe) (L : Nat) (k_x0 : List (List V) → List (List V) → Int → Option β) : Nat → List (List V) → Int → List (List V) → Int → Option β
  | 0, _, _, _, _ => none
  | n + 1, p3, p4, b0_0, b0_1 => bbbaba_law33_samples F_mill_Deck_Next F_mill_Hashes F_ref33_Confirm F_mill_Hash F_ref33_Observe L p3 p4 b0_0 b0_1 (fun p3 p4 b0_0 b0_1 => lbbaba_law33_samples F_mill_Deck_Next F_mill_Hashes F_ref33_Confirm F_mill_Hash F_ref33_Observe L k_x0 n p3 p4 b0_0 b0_1) k_x0
theorem lbbaba_law33_samples_ok {β : Type} (F_mill_Deck_Next : T_mill_Deck_Next) (F_mill_Hashes : T_mill_Hashes) (F_ref33_Confirm : T_ref33_Confirm) (F_mill_Hash : T_mill_Hash) (F_ref33_Observe : T_ref33_Observe) (L : Nat) (K : KT β) : ∀ (n : Nat) (p3 : List (List V)) (p4 : Int) (b0_0 : List (List V)) (b0_1 : Int), loopM (runC sh_law33_samples (cb_law33_samples F_mill_Deck_Next F_mill_Hashes F_ref33_Confirm F_mill_Hash F_ref33_Observe L) 1 L cbbabaa_law33_samples) mbbaba_law33_samples n (st_hbbaba_law33_samples p3 p4 b0_0 b0_1) K = lbbaba_law33_samples F_mill_Deck_Next F_mill_Hashes F_ref33_Confirm F_mill_Hash F_ref33_Observe L (fun p3 b0_0 b0_1 => K (.exit 0) (st_x0_law33_samples p3 b0_0 b0_1)) n p3 p4 b0_0 b0_1 := by
  intro n
  induction n with
  | zero => intros; rfl
  | succ n ih =>
    intro p3 p4 b0_0 b0_1
    refine (bbbaba_law33_samples_ok F_mill_Deck_Next F_mill_Hashes F_ref33_Confirm F_mill_Hash F_ref33_Observe L p3 p4 b0_0 b0_1 (fun σ => loopM (runC sh_law33_samples (cb_law33_samples F_mill_Deck_Next F_mill_Hashes F_ref33_Confirm F_mill_Hash F_ref33_Observe L) 1 L cbbabaa_law33_samples) mbbaba_law33_samples n σ K) K).trans ?_
    simp only [ih]
    rfl
def R_law33_samples {β : Type} (F_mill_Deck_Next : T_mill_Deck_Next) (F_mill_Hashes : T_mill_Hashes) (F_ref33_Confirm : T_ref33_Confirm) (F_mill_Hash : T_mill_Hash) (F_ref33_Observe : T_ref33_Observe) (L : Nat) (b0_0 : List (List V)) (b0_1 : Int) (k_fin : List (List V) → List (List V) → Int → Option β) : Option β :=
 e_law33_samples F_mill_Deck_Next F_mill_Hashes F_ref33_Confirm F_mill_Hash F_ref33_Observe L b0_0 b0_1 (fun p3 p4 b0_0 b0_1 => lbbaba_law33_samples F_mill_Deck_Next F_mill_Hashes F_ref33_Confirm F_mill_Hash F_ref33_Observe L (fun p3 b0_0 b0_1 => rbbabax0_law33_samples F_mill_Deck_Next F_mill_Hashes F_ref33_Confirm F_mill_Hash F_ref33_Observe L p3 b0_0 b0_1 k_fin) L p3 p4 b0_0 b0_1)
theorem R_law33_samples_ok {β : Type} (F_mill_Deck_Next : T_mill_Deck_Next) (F_mill_Hashes : T_mill_Hashes) (F_ref33_Confirm : T_ref33_Confirm) (F_mill_Hash : T_mill_Hash) (F_ref33_Observe : T_ref33_Observe) (L : Nat) (b0_0 : List (List V)) (b0_1 : Int) (k : V → Bor → Option β) : funC sh_law33_samples (cb_law33_samples F_mill_Deck_Next F_mill_Hashes F_ref33_Confirm F_mill_Hash F_ref33_Observe L) L cf_law33_samples [(V.ptr 0 0)] [(.live false [(V.sl 1 b0_0), (V.sc (.int .i64 b0_1))])] k = R_law33_samples F_mill_Deck_Next F_mill_Hashes F_ref33_Confirm F_mill_Hash F_ref33_Observe L b0_0 b0_1 (fun p0 b0_0 b0_1 => k (V.gs 35 p0) [(.live false [(V.sl 1 b0_0), (V.sc (.int .i64 b0_1))])]) := by
  refine (e_law33_samples_ok F_mill_Deck_Next F_mill_Hashes F_ref33_Confirm F_mill_Hash F_ref33_Observe L b0_0 b0_1 k).trans ?_
  unfold R_law33_samples
  simp only [lbbaba_law33_samples_ok, rbbabax0_law33_samples_ok]
abbrev T_law33_samples := ∀ (β : Type), Nat → List (List V) → Int → (List (List V) → List (List V) → Int → Option β) → Option β
def F_law33_samples (β : Type) (L : Nat) (b0_0 : List (List V)) (b0_1 : Int) (k_fin : List (List V) → List (List V) → Int → Option β) : Option β := R_law33_samples F_mill_Deck_Next F_mill_Hashes F_ref33_Confirm F_mill_Hash F_ref33_Observe L b0_0 b0_1 k_fin
def d_law33_samples (F_law33_samples : T_law33_samples) (L : Nat) (β : Type) (args : List V) (bor : Bor) (k : V → Bor → Option β) : Option β := match args, bor with
  | [a0], [(.live false [w0_0, w0_1])] => aP 0 0 a0 (aL 1 w0_0 fun b0_0 => aI .i64 w0_1 fun b0_1 => F_law33_samples β L b0_0 b0_1 (fun p0 b0_0 b0_1 => k (V.gs 35 p0) [(.live false [(V.sl 1 b0_0), (V.sc (.int .i64 b0_1))])]))
  | _, _ => none
theorem d_law33_samples_ok (L : Nat) (β : Type) (args : List V) (bor : Bor) (k : V → Bor → Option β) (r : β) (h : d_law33_samples F_law33_samples L β args bor k = some r) : funC sh_law33_samples (cb_law33_samples F_mill_Deck_Next F_mill_Hashes F_ref33_Confirm F_mill_Hash F_ref33_Observe L) L cf_law33_samples args bor k = some r := by
  unfold d_law33_samples at h
  split at h
  · have q := aP_inv h; clear h; obtain ⟨rfl, h⟩ := q
    have q := aL_inv h; clear h; obtain ⟨b0_0, rfl, h⟩ := q
    have q := aI_inv h; clear h; obtain ⟨b0_1, rfl, h⟩ := q
    exact (R_law33_samples_ok F_mill_Deck_Next F_mill_Hashes F_ref33_Confirm F_mill_Hash F_ref33_Observe L b0_0 b0_1 k).trans h
  · cases h
/-! slices_Clone_Lapi_Sample_api_Sample : 245 -/
def cf_slices_Clone_Lapi_Sample_api_Sample : CF := ⟨8, [.tmp 2],
 (.seq (.reg [⟨(some 2), false, none, .move (.const (.gs 35 [])) true⟩])
 (.fork (.reg [⟨(some 3), false, none, .move (.tmp 0) false⟩,
   ⟨(some 4), false, none, .nilT false (.tmp 3)⟩])
 (.tmp 4)
 (.seq (.reg [⟨(some 2), false, none, .nilS 35 7⟩])
 (.seq (.mask (bl 4 8) (bl 128 8))
 .ret))
 (.seq (.reg [⟨(some 5), true, none, .buildSlice 35 0 [(.sc (.int .u8 0)), (.sc (.int .u8 0)), (.sc (.int .u8 0)), (.sc (.int .u8 0)), (.sc (.int .u8 0)), (.sc (.int .u8 0)), (.sc (.int .u8 0)), (.sc (.int .u8 0)), (.sc (.int .u8 0)), (.sc (.int .u8 0)), (.sc (.int .u8 0)), (.sc (.int .u8 0)), (.sc (.int .u8 0)), (.sc (.int .u8 0)), (.sc (.int .u8 0)), (.sc (.int .u8 0)), (.sc (.int .u8 0)), (.sc (.int .u8 0)), (.sc (.int .u8 0)), (.sc (.int .u8 0)), (.sc (.int .u8 0)), (.sc (.int .u8 0)), (.sc (.int .u8 0)), (.sc (.int .u8 0)), (.sc (.int .u8 0)), (.sc (.int .u8 0)), (.sc (.int .u8 0)), (.sc (.int .u8 0)), (.sc (.int .u8 0)), (.sc (.int .u8 0)), (.sc (.int .u8 0)), (.sc (.int .u8 0)), (.sc (.int .i64 0)), (.sc (.int .i64 0)), (.sc (.int .i64 0))] []⟩,
   ⟨(some 6), false, none, .move (.tmp 0) false⟩,
   ⟨(some 7), true, none, .append 35 56 (.tmp 5) (.tmp 6)⟩,
   ⟨(some 2), false, none, .move (.tmp 7) true⟩])
 (.seq (.mask (bl 4 8) (bl 128 8))
 .ret))))⟩
def hint_slices_Clone_Lapi_Sample_api_Sample : Hint := ⟨[(0, 0), (2, 0), (3, 3)], [(3, 0), (3, 2)], [none, some ((bl 4 8), (bl 128 8)), some ((bl 4 8), (bl 128 8))], [], [(2, 0, [7])], false⟩
def sh_slices_Clone_Lapi_Sample_api_Sample : Nat → Sh := shOf []
def cb_slices_Clone_Lapi_Sample_api_Sample (L : Nat) : CBC := noC
def R_slices_Clone_Lapi_Sample_api_Sample {β : Type} (L : Nat) (p0 : List (List V)) (k_fin : List (List V) → Option β) : Option β :=
 lc p0 (
 k_fin ([] : List (List V))) (fun h0 t0 =>
 chk ((0 + List.length (h0 :: t0)) * 56 ≤ sizeCap ∧ (0 + List.length (h0 :: t0)) ≤ sizeCap ∧ ((0 + List.length (h0 :: t0)) ≠ 0 ∨ (List.length (List.flatten ([] : List (List V)))) = 0)) (
 lt (List.take (0 * 35) (List.flatten ([] : List (List V))) ++ List.flatten (h0 :: t0)) fun r0 =>
 chk ((0 + List.length (h0 :: t0)) ≠ 0 ∨ (List.length r0) = 0) (
 k_fin (chunks 35 (0 + List.length (h0 :: t0)) r0))))
theorem R_slices_Clone_Lapi_Sample_api_Sample_ok {β : Type} (L : Nat) (p0 : List (List V)) (k : V → Bor → Option β) : funC sh_slices_Clone_Lapi_Sample_api_Sample (cb_slices_Clone_Lapi_Sample_api_Sample L) L cf_slices_Clone_Lapi_Sample_api_Sample [(V.sl 35 p0)] [] k = R_slices_Clone_Lapi_Sample_api_Sample L p0 (fun p0 => k (V.fr 35 p0) []) := by kernel_rfl
abbrev T_slices_Clone_Lapi_Sample_api_Sample := ∀ (β : Type), Nat → List (List V) → (List (List V) → Option β) → Option β
def F_slices_Clone_Lapi_Sample_api_Sample (β : Type) (L : Nat) (p0 : List (List V)) (k_fin : List (List V) → Option β) : Option β := R_slices_Clone_Lapi_Sample_api_Sample L p0 k_fin
def d_slices_Clone_Lapi_Sample_api_Sample (F_slices_Clone_Lapi_Sample_api_Sample : T_slices_Clone_Lapi_Sample_api_Sample) (L : Nat) (β : Type) (args : List V) (bor : Bor) (k : V → Bor → Option β) : Option β := match args, bor with
  | [a0], [] => aL 35 a0 fun p0 => F_slices_Clone_Lapi_Sample_api_Sample β L p0 (fun p0 => k (V.fr 35 p0) [])
  | _, _ => none
theorem d_slices_Clone_Lapi_Sample_api_Sample_ok (L : Nat) (β : Type) (args : List V) (bor : Bor) (k : V → Bor → Option β) (r : β) (h : d_slices_Clone_Lapi_Sample_api_Sample F_slices_Clone_Lapi_Sample_api_Sample L β args bor k = some r) : funC sh_slices_Clone_Lapi_Sample_api_Sample (cb_slices_Clone_Lapi_Sample_api_Sample L) L cf_slices_Clone_Lapi_Sample_api_Sample args bor k = some r := by
  unfold d_slices_Clone_Lapi_Sample_api_Sample at h
  split at h
  · have q := aL_inv h; clear h; obtain ⟨p0, rfl, h⟩ := q
    exact (R_slices_Clone_Lapi_Sample_api_Sample_ok L p0 k).trans h
  · cases h
/-! fees_Rewind_1 : 246 -/
def cf_fees_Rewind_1 : CF := ⟨8, [.tmp 3],
 (.seq (.reg [⟨(some 2), false, none, .box true (.tmp 0)⟩,
   ⟨(some 3), false, none, .move (.const (.sc (.bool false))) false⟩])
 (.seq (.reg [⟨(some 4), false, none, .fieldAddr 33 (.tmp 2)⟩,
   ⟨(some 5), false, none, .load false 1 (.tmp 4) false⟩,
   ⟨(some 6), false, none, .load false 1 (.tmp 1) false⟩,
   ⟨(some 7), false, none, .bin .gtr (.tmp 5) (.tmp 6)⟩,
   ⟨(some 3), false, none, .move (.tmp 7) false⟩])
 .ret))⟩
def hint_fees_Rewind_1 : Hint := ⟨[], [], [none], [], [], false⟩
def sh_fees_Rewind_1 : Nat → Sh := shOf [(5, (.int .i64))]
def cb_fees_Rewind_1 (L : Nat) : CBC := noC
def R_fees_Rewind_1 {β : Type} (L : Nat) (p0 : List V) (b0_0 : Int) (k_fin : Bool → Int → Option β) : Option β :=
 cI .i64 p0 33 fun v0 =>
 k_fin (decide (v0 > b0_0)) b0_0
theorem R_fees_Rewind_1_ok {β : Type} (L : Nat) (p0 : List V) (b0_0 : Int) (k : V → Bor → Option β) : funC sh_fees_Rewind_1 (cb_fees_Rewind_1 L) L cf_fees_Rewind_1 [(V.agg p0), (V.ptr 0 0)] [(.live true [(V.sc (.int .i64 b0_0))])] k = R_fees_Rewind_1 L p0 b0_0 (fun p0 b0_0 => k (V.sc (.bool p0)) [(.live true [(V.sc (.int .i64 b0_0))])]) := by kernel_rfl
abbrev T_fees_Rewind_1 := ∀ (β : Type), Nat → List V → Int → (Bool → Int → Option β) → Option β
def F_fees_Rewind_1 (β : Type) (L : Nat) (p0 : List V) (b0_0 : Int) (k_fin : Bool → Int → Option β) : Option β := R_fees_Rewind_1 L p0 b0_0 k_fin
def d_fees_Rewind_1 (F_fees_Rewind_1 : T_fees_Rewind_1) (L : Nat) (β : Type) (args : List V) (bor : Bor) (k : V → Bor → Option β) : Option β := match args, bor with
  | [a0, a1], [(.live true [w0_0])] => aG a0 fun p0 => aP 0 0 a1 (aI .i64 w0_0 fun b0_0 => F_fees_Rewind_1 β L p0 b0_0 (fun p0 b0_0 => k (V.sc (.bool p0)) [(.live true [(V.sc (.int .i64 b0_0))])]))
  | _, _ => none
theorem d_fees_Rewind_1_ok (L : Nat) (β : Type) (args : List V) (bor : Bor) (k : V → Bor → Option β) (r : β) (h : d_fees_Rewind_1 F_fees_Rewind_1 L β args bor k = some r) : funC sh_fees_Rewind_1 (cb_fees_Rewind_1 L) L cf_fees_Rewind_1 args bor k = some r := by
  unfold d_fees_Rewind_1 at h
  split at h
  · have q := aG_inv h; clear h; obtain ⟨p0, rfl, h⟩ := q
    have q := aP_inv h; clear h; obtain ⟨rfl, h⟩ := q
    have q := aI_inv h; clear h; obtain ⟨b0_0, rfl, h⟩ := q
    exact (R_fees_Rewind_1_ok L p0 b0_0 k).trans h
  · cases h
/-! slices_IndexFunc_Lapi_Sample_api_Sample : 253 -/
def cbabaa_slices_IndexFunc_Lapi_Sample_api_Sample : CC := (.seq (.reg [⟨(some 9), false, none, .bin .lss (.tmp 8) (.tmp 7)⟩])
 (.seq (.cond (.tmp 9)
 .skip
 (.seq (.mask (bl 0 19) (bl 458703 19))
 (.exit 0)))
 (.seq (.block 1 (.seq (.reg [⟨(some 10), false, none, .move (.tmp 8) false⟩,
   ⟨(some 5), false, none, .move (.tmp 10) false⟩])
 (.seq (.reg [⟨(some 11), false, none, .move (.tmp 1) false⟩,
   ⟨(some 12), false, none, .move (.tmp 0) false⟩,
   ⟨(some 13), false, none, .move (.tmp 5) false⟩,
   ⟨(some 14), false, none, .indexAddrS 35 (.tmp 12) (.tmp 13)⟩,
   ⟨(some 15), false, none, .load true 35 (.tmp 14) false⟩,
   ⟨(some 16), false, none, .callv (.tmp 11) [((.tmp 15), 0)] []⟩])
 (.cond (.tmp 16)
 (.seq (.reg [⟨(some 17), false, none, .move (.tmp 5) false⟩,
   ⟨(some 4), false, none, .move (.tmp 17) false⟩])
 (.seq (.mask (bl 16 19) (bl 458719 19))
 .ret))
 .skip))))
 (.reg [⟨(some 18), false, none, .bin .add (.tmp 8) (.const (.sc (.int .i64 1)))⟩,
   ⟨(some 8), false, none, .move (.tmp 18) false⟩]))))
def cbb_slices_IndexFunc_Lapi_Sample_api_Sample : CC := (.seq (.reg [⟨(some 4), false, none, .move (.const (.sc (.int .i64 (-1)))) false⟩])
 .ret)
def cf_slices_IndexFunc_Lapi_Sample_api_Sample : CF := ⟨19, [.tmp 4],
 (.seq (.reg [⟨(some 4), false, none, .move (.const (.sc (.int .i64 0))) false⟩])
 (.seq (.seq (.reg [⟨(some 6), false, none, .move (.tmp 0) false⟩,
   ⟨(some 7), false, none, .lenS (.tmp 6)⟩,
   ⟨(some 8), false, none, .move (.const (.sc (.int .i64 0))) false⟩])
 (.block 0 (.loop (bl 387 19) (bl 458703 19)
 cbabaa_slices_IndexFunc_Lapi_Sample_api_Sample)))
 cbb_slices_IndexFunc_Lapi_Sample_api_Sample))⟩
def hint_slices_IndexFunc_Lapi_Sample_api_Sample : Hint := ⟨[], [], [none, some ((bl 387 19), (bl 458703 19)), none, some ((bl 0 19), (bl 458703 19)), none, none, some ((bl 16 19), (bl 458719 19)), none], [], [], false⟩
def sh_slices_IndexFunc_Lapi_Sample_api_Sample : Nat → Sh := shOf []
def cb_slices_IndexFunc_Lapi_Sample_api_Sample (F_fees_Rewind_1 : T_fees_Rewind_1) (L : Nat) : CBC := (addC 246 (d_fees_Rewind_1 F_fees_Rewind_1 L) noC)
def mbaba_slices_IndexFunc_Lapi_Sample_api_Sample : St → St := maskN 2 (bl 387 19) (bl 458703 19)
def st_hbaba_slices_IndexFunc_Lapi_Sample_api_Sample (p0l : Nat) (p7 : Int) (p8 : Int) (b0 : List V) (b1_0 : Int) : St := ⟨[(V.own 0 0 p0l 35), (V.fn 246 [(V.ptr 1 0)]), .junk, .junk, .junk, .junk, .junk, (V.sc (.int .i64 p7)), (V.sc (.int .i64 p8)), .junk, .junk, .junk, .junk, .junk, .junk, .junk, .junk, .junk, .junk], [(.live true b0), (.live true [(V.sc (.int .i64 b1_0))]), .gone, .gone, .gone, .gone, .gone, .gone, .gone, .gone, .gone, .gone, .gone, .gone, .gone, .gone, .gone, .gone, .gone, .gone, .gone]⟩
def st_ret_slices_IndexFunc_Lapi_Sample_api_Sample (p4 : Int) (b0 : List V) (b1_0 : Int) : St := ⟨[.junk, .junk, .junk, .junk, (V.sc (.int .i64 p4)), .junk, .junk, .junk, .junk, .junk, .junk, .junk, .junk, .junk, .junk, .junk, .junk, .junk, .junk], [(.live true b0), (.live true [(V.sc (.int .i64 b1_0))]), .gone, .gone, .gone, .gone, .gone, .gone, .gone, .gone, .gone, .gone, .gone, .gone, .gone, .gone, .gone, .gone, .gone, .gone, .gone]⟩
def st_x0_slices_IndexFunc_Lapi_Sample_api_Sample (b0 : List V) (b1_0 : Int) : St := ⟨[.junk, .junk, .junk, .junk, .junk, .junk, .junk, .junk, .junk, .junk, .junk, .junk, .junk, .junk, .junk, .junk, .junk, .junk, .junk], [(.live true b0), (.live true [(V.sc (.int .i64 b1_0))]), .gone, .gone, .gone, .gone, .gone, .gone, .gone, .gone, .gone, .gone, .gone, .gone, .gone, .gone, .gone, .gone, .gone, .gone, .gone]⟩
def e_slices_IndexFunc_Lapi_Sample_api_Sample {β : Type} (F_fees_Rewind_1 : T_fees_Rewind_1) (L : Nat) (p0l : Nat) (b0 : List V) (b1_0 : Int) (k_hbaba : Nat → Int → Int → List V → Int → Option β) : Option β :=
 k_hbaba p0l ((p0l : Nat) : Int) (0 : Int) b0 b1_0
theorem e_slices_IndexFunc_Lapi_Sample_api_Sample_ok {β : Type} (F_fees_Rewind_1 : T_fees_Rewind_1) (L : Nat) (p0l : Nat) (b0 : List V) (b1_0 : Int) (k : V → Bor → Option β) : funC sh_slices_IndexFunc_Lapi_Sample_api_Sample (cb_slices_IndexFunc_Lapi_Sample_api_Sample F_fees_Rewind_1 L) L cf_slices_IndexFunc_Lapi_Sample_api_Sample [(V.own 0 0 p0l 35), (V.fn 246 [(V.ptr 1 0)])] [(.live true b0), (.live true [(V.sc (.int .i64 b1_0))])] k = e_slices_IndexFunc_Lapi_Sample_api_Sample F_fees_Rewind_1 L p0l b0 b1_0 (fun p0l p7 p8 b0 b1_0 => loopM (runC sh_slices_IndexFunc_Lapi_Sample_api_Sample (cb_slices_IndexFunc_Lapi_Sample_api_Sample F_fees_Rewind_1 L) 2 L cbabaa_slices_IndexFunc_Lapi_Sample_api_Sample) mbaba_slices_IndexFunc_Lapi_Sample_api_Sample L (st_hbaba_slices_IndexFunc_Lapi_Sample_api_Sample p0l p7 p8 b0 b1_0) (blockK 0 (seqK (runC sh_slices_IndexFunc_Lapi_Sample_api_Sample (cb_slices_IndexFunc_Lapi_Sample_api_Sample F_fees_Rewind_1 L) 2 L cbb_slices_IndexFunc_Lapi_Sample_api_Sample) (finK 2 (CF.res cf_slices_IndexFunc_Lapi_Sample_api_Sample) k)))) := by kernel_rfl
def bbaba_slices_IndexFunc_Lapi_Sample_api_Sample {β : Type} (F_fees_Rewind_1 : T_fees_Rewind_1) (L : Nat) (p0l : Nat) (p7 : Int) (p8 : Int) (b0 : List V) (b1_0 : Int) (k_ret : Int → List V → Int → Option β) (k_hbaba : Nat → Int → Int → List V → Int → Option β) (k_x0 : List V → Int → Option β) : Option β :=
 ifb (decide (p8 < p7)) (
 chk (0 ≤ p8 ∧ p8 < ((p0l : Nat) : Int)) (
 chk ((0 + ((Int.toNat p8) * 35)) + 35 ≤ (List.length b0)) (
 F_fees_Rewind_1 β L (List.take 35 (List.drop (0 + ((Int.toNat p8) * 35)) b0)) b1_0 (fun v0 v1 =>
 ifb v0 (
 k_ret p8 b0 v1) (
 lt (IntKind.wrap .i64 ((p8 : Int) + (1 : Int))) fun x2 =>
 k_hbaba p0l p7 x2 b0 v1))))) (
 k_x0 b0 b1_0)
theorem bbaba_slices_IndexFunc_Lapi_Sample_api_Sample_ok {β : Type} (F_fees_Rewind_1 : T_fees_Rewind_1) (L : Nat) (p0l : Nat) (p7 : Int) (p8 : Int) (b0 : List V) (b1_0 : Int) (X : St → Option β) (K : KT β) : runC sh_slices_IndexFunc_Lapi_Sample_api_Sample (cb_slices_IndexFunc_Lapi_Sample_api_Sample F_fees_Rewind_1 L) 2 L cbabaa_slices_IndexFunc_Lapi_Sample_api_Sample (st_hbaba_slices_IndexFunc_Lapi_Sample_api_Sample p0l p7 p8 b0 b1_0) (loopK mbaba_slices_IndexFunc_Lapi_Sample_api_Sample X K) = bbaba_slices_IndexFunc_Lapi_Sample_api_Sample F_fees_Rewind_1 L p0l p7 p8 b0 b1_0 (fun p4 b0 b1_0 => K .ret (st_ret_slices_IndexFunc_Lapi_Sample_api_Sample p4 b0 b1_0)) (fun p0l p7 p8 b0 b1_0 => X (st_hbaba_slices_IndexFunc_Lapi_Sample_api_Sample p0l p7 p8 b0 b1_0)) (fun b0 b1_0 => K (.exit 0) (st_x0_slices_IndexFunc_Lapi_Sample_api_Sample b0 b1_0)) := by kernel_rfl
def rbabaret_slices_IndexFunc_Lapi_Sample_api_Sample {β : Type} (F_fees_Rewind_1 : T_fees_Rewind_1) (L : Nat) (p4 : Int) (b0 : List V) (b1_0 : Int) (k_fin : Int → List V → Int → Option β) : Option β :=
 k_fin p4 b0 b1_0
theorem rbabaret_slices_IndexFunc_Lapi_Sample_api_Sample_ok {β : Type} (F_fees_Rewind_1 : T_fees_Rewind_1) (L : Nat) (p4 : Int) (b0 : List V) (b1_0 : Int) (k : V → Bor → Option β) : (blockK 0 (seqK (runC sh_slices_IndexFunc_Lapi_Sample_api_Sample (cb_slices_IndexFunc_Lapi_Sample_api_Sample F_fees_Rewind_1 L) 2 L cbb_slices_IndexFunc_Lapi_Sample_api_Sample) (finK 2 (CF.res cf_slices_IndexFunc_Lapi_Sample_api_Sample) k))) .ret (st_ret_slices_IndexFunc_Lapi_Sample_api_Sample p4 b0 b1_0) = rbabaret_slices_IndexFunc_Lapi_Sample_api_Sample F_fees_Rewind_1 L p4 b0 b1_0 (fun p0 b0 b1_0 => k (V.sc (.int .i64 p0)) [(.live true b0), (.live true [(V.sc (.int .i64 b1_0))])]) := by kernel_rfl
def rbabax0_slices_IndexFunc_Lapi_Sample_api_Sample {β : Type} (F_fees_Rewind_1 : T_fees_Rewind_1) (L : Nat) (b0 : List V) (b1_0 : Int) (k_fin : Int → List V → Int → Option β) : Option β :=
 k_fin (-1 : Int) b0 b1_0
theorem rbabax0_slices_IndexFunc_Lapi_Sample_api_Sample_ok {β : Type} (F_fees_Rewind_1 : T_fees_Rewind_1) (L : Nat) (b0 : List V) (b1_0 : Int) (k : V → Bor → Option β) : (blockK 0 (seqK (runC sh_slices_IndexFunc_Lapi_Sample_api_Sample (cb_slices_IndexFunc_Lapi_Sample_api_Sample F_fees_Rewind_1 L) 2 L cbb_slices_IndexFunc_Lapi_Sample_api_Sample) (finK 2 (CF.res cf_slices_IndexFunc_Lapi_Sample_api_Sample) k))) (.exit 0) (st_x0_slices_IndexFunc_Lapi_Sample_api_Sample b0 b1_0) = rbabax0_slices_IndexFunc_Lapi_Sample_api_Sample F_fees_Rewind_1 L b0 b1_0 (fun p0 b0 b1_0 => k (V.sc (.int .i64 p0)) [(.live true b0), (.live true [(V.sc (.int .i64 b1_0))])]) := by kernel_rfl
def lbaba_slices_IndexFunc_Lapi_Sample_api_Sample {β : Type} (F_fees_Rewind_1 : T_fees_Rewind_1) (L : Nat) (k_ret : Int → List V → Int → Option β) (k_x0 : List V → Int → Option β) : Nat → Nat → Int → Int → List V → Int → Option β
  | 0, _, _, _, _, _ => none
  | n + 1, p0l, p7, p8, b0, b1_0 => bbaba_slices_IndexFunc_Lapi_Sample_api_Sample F_fees_Rewind_1 L p0l p7 p8 b0 b1_0 k_ret (fun p0l p7 p8 b0 b1_0 => lbaba_slices_IndexFunc_Lapi_Sample_api_Sample F_fees_Rewind_1 L k_ret k_x0 n p0l p7 p8 b0 b1_0) k_x0
theorem lbaba_slices_IndexFunc_Lapi_Sample_api_Sample_ok {β : Type} (F_fees_Rewind_1 : T_fees_Rewind_1) (L : Nat) (K : KT β) : ∀ (n : Nat) (p0l : Nat) (p7 : Int) (p8 : Int) (b0 : List V) (b1_0 : Int), loopM (runC sh_slices_IndexFunc_Lapi_Sample_api_Sample (cb_slices_IndexFunc_Lapi_Sample_api_Sample F_fees_Rewind_1 L) 2 L cbabaa_slices_IndexFunc_Lapi_Sample_api_Sample) mbaba_slices_IndexFunc_Lapi_Sample_api_Sample n (st_hbaba_slices_IndexFunc_Lapi_Sample_api_Sample p0l p7 p8 b0 b1_0) K = lbaba_slices_IndexFunc_Lapi_Sample_api_Sample F_fees_Rewind_1 L (fun p4 b0 b1_0 => K .ret (st_ret_slices_IndexFunc_Lapi_Sample_api_Sample p4 b0 b1_0)) (fun b0 b1_0 => K (.exit 0) (st_x0_slices_IndexFunc_Lapi_Sample_api_Sample b0 b1_0)) n p0l p7 p8 b0 b1_0 := by
  intro n
  induction n with
  | zero => intros; rfl
  | succ n ih =>
    intro p0l p7 p8 b0 b1_0
    refine (bbaba_slices_IndexFunc_Lapi_Sample_api_Sample_ok F_fees_Rewind_1 L p0l p7 p8 b0 b1_0 (fun σ => loopM (runC sh_slices_IndexFunc_Lapi_Sample_api_Sample (cb_slices_IndexFunc_Lapi_Sample_api_Sample F_fees_Rewind_1 L) 2 L cbabaa_slices_IndexFunc_Lapi_Sample_api_Sample) mbaba_slices_IndexFunc_Lapi_Sample_api_Sample n σ K) K).trans ?_
    simp only [ih]
    rfl
def R_slices_IndexFunc_Lapi_Sample_api_Sample {β : Type} (F_fees_Rewind_1 : T_fees_Rewind_1) (L : Nat) (p0l : Nat) (b0 : List V) (b1_0 : Int) (k_fin : Int → List V → Int → Option β) : Option β :=
 e_slices_IndexFunc_Lapi_Sample_api_Sample F_fees_Rewind_1 L p0l b0 b1_0 (fun p0l p7 p8 b0 b1_0 => lbaba_slices_IndexFunc_Lapi_Sample_api_Sample F_fees_Rewind_1 L (fun p4 b0 b1_0 => rbabaret_slices_IndexFunc_Lapi_Sample_api_Sample F_fees_Rewind_1 L p4 b0 b1_0 k_fin) (fun b0 b1_0 => rbabax0_slices_IndexFunc_Lapi_Sample_api_Sample F_fees_Rewind_1 L b0 b1_0 k_fin) L p0l p7 p8 b0 b1_0)
theorem R_slices_IndexFunc_Lapi_Sample_api_Sample_ok {β : Type} (F_fees_Rewind_1 : T_fees_Rewind_1) (L : Nat) (p0l : Nat) (b0 : List V) (b1_0 : Int) (k : V → Bor → Option β) : funC sh_slices_IndexFunc_Lapi_Sample_api_Sample (cb_slices_IndexFunc_Lapi_Sample_api_Sample F_fees_Rewind_1 L) L cf_slices_IndexFunc_Lapi_Sample_api_Sample [(V.own 0 0 p0l 35), (V.fn 246 [(V.ptr 1 0)])] [(.live true b0), (.live true [(V.sc (.int .i64 b1_0))])] k = R_slices_IndexFunc_Lapi_Sample_api_Sample F_fees_Rewind_1 L p0l b0 b1_0 (fun p0 b0 b1_0 => k (V.sc (.int .i64 p0)) [(.live true b0), (.live true [(V.sc (.int .i64 b1_0))])]) := by
  refine (e_slices_IndexFunc_Lapi_Sample_api_Sample_ok F_fees_Rewind_1 L p0l b0 b1_0 k).trans ?_
  unfold R_slices_IndexFunc_Lapi_Sample_api_Sample
  simp only [lbaba_slices_IndexFunc_Lapi_Sample_api_Sample_ok, rbabaret_slices_IndexFunc_Lapi_Sample_api_Sample_ok, rbabax0_slices_IndexFunc_Lapi_Sample_api_Sample_ok]
abbrev T_slices_IndexFunc_Lapi_Sample_api_Sample := ∀ (β : Type), Nat → Nat → List V → Int → (Int → List V → Int → Option β) → Option β
def F_slices_IndexFunc_Lapi_Sample_api_Sample (β : Type) (L : Nat) (p0l : Nat) (b0 : List V) (b1_0 : Int) (k_fin : Int → List V → Int → Option β) : Option β := R_slices_IndexFunc_Lapi_Sample_api_Sample F_fees_Rewind_1 L p0l b0 b1_0 k_fin
def d_slices_IndexFunc_Lapi_Sample_api_Sample (F_slices_IndexFunc_Lapi_Sample_api_Sample : T_slices_IndexFunc_Lapi_Sample_api_Sample) (L : Nat) (β : Type) (args : List V) (bor : Bor) (k : V → Bor → Option β) : Option β := match args, bor with
  | [a0, a1], [(.live true b0), (.live true [w1_0])] => aO0 0 35 a0 fun p0l => aF 246 [(1, 0)] a1 (aI .i64 w1_0 fun b1_0 => F_slices_IndexFunc_Lapi_Sample_api_Sample β L p0l b0 b1_0 (fun p0 b0 b1_0 => k (V.sc (.int .i64 p0)) [(.live true b0), (.live true [(V.sc (.int .i64 b1_0))])]))
  | _, _ => none
theorem d_slices_IndexFunc_Lapi_Sample_api_Sample_ok (L : Nat) (β : Type) (args : List V) (bor : Bor) (k : V → Bor → Option β) (r : β) (h : d_slices_IndexFunc_Lapi_Sample_api_Sample F_slices_IndexFunc_Lapi_Sample_api_Sample L β args bor k = some r) : funC sh_slices_IndexFunc_Lapi_Sample_api_Sample (cb_slices_IndexFunc_Lapi_Sample_api_Sample F_fees_Rewind_1 L) L cf_slices_IndexFunc_Lapi_Sample_api_Sample args bor k = some r := by
  unfold d_slices_IndexFunc_Lapi_Sample_api_Sample at h
  split at h
  · have q := aO0_inv h; clear h; obtain ⟨p0l, rfl, h⟩ := q
    have q := aF_inv h; clear h; obtain ⟨rfl, h⟩ := q
    have q := aI_inv h; clear h; obtain ⟨b1_0, rfl, h⟩ := q
    exact (R_slices_IndexFunc_Lapi_Sample_api_Sample_ok F_fees_Rewind_1 L p0l _ b1_0 k).trans h
  · cases h
/-! slices_DeleteFunc_Lapi_Sample_api_Sample : 244 -/
def cbbbabaa_slices_DeleteFunc_Lapi_Sample_api_Sample : CC := (.seq (.seq (.reg [⟨(some 16), false, none, .move (.tmp 6) false⟩,
   ⟨(some 17), false, none, .move (.tmp 0) false⟩,
   ⟨(some 18), false, none, .lenS (.tmp 17)⟩,
   ⟨(some 19), false, none, .bin .lss (.tmp 16) (.tmp 18)⟩])
 (.cond (.tmp 19)
 .skip
 (.seq (.mask (bl 33 42) (bl 4397777813311 42))
 (.exit 0))))
 (.seq (.block 1 (.seq (.reg [⟨(some 22), false, none, .move (.tmp 0) false⟩,
   ⟨(some 23), false, none, .move (.tmp 6) false⟩,
   ⟨(some 24), false, none, .indexAddrS 35 (.tmp 22) (.tmp 23)⟩,
   ⟨(some 25), false, none, .load true 35 (.tmp 24) false⟩,
   ⟨(some 7), false, none, .alloc true [(.sc (.int .u8 0)), (.sc (.int .u8 0)), (.sc (.int .u8 0)), (.sc (.int .u8 0)), (.sc (.int .u8 0)), (.sc (.int .u8 0)), (.sc (.int .u8 0)), (.sc (.int .u8 0)), (.sc (.int .u8 0)), (.sc (.int .u8 0)), (.sc (.int .u8 0)), (.sc (.int .u8 0)), (.sc (.int .u8 0)), (.sc (.int .u8 0)), (.sc (.int .u8 0)), (.sc (.int .u8 0)), (.sc (.int .u8 0)), (.sc (.int .u8 0)), (.sc (.int .u8 0)), (.sc (.int .u8 0)), (.sc (.int .u8 0)), (.sc (.int .u8 0)), (.sc (.int .u8 0)), (.sc (.int .u8 0)), (.sc (.int .u8 0)), (.sc (.int .u8 0)), (.sc (.int .u8 0)), (.sc (.int .u8 0)), (.sc (.int .u8 0)), (.sc (.int .u8 0)), (.sc (.int .u8 0)), (.sc (.int .u8 0)), (.sc (.int .i64 0)), (.sc (.int .i64 0)), (.sc (.int .i64 0))]⟩,
   ⟨none, false, none, .store 35 (.tmp 7) (.tmp 25)⟩])
 (.seq (.reg [⟨(some 26), false, none, .move (.tmp 1) false⟩,
   ⟨(some 27), false, none, .load true 35 (.tmp 7) false⟩,
   ⟨(some 28), false, none, .callv (.tmp 26) [((.tmp 27), 0)] []⟩,
   ⟨(some 29), false, none, .un .not (.tmp 28)⟩])
 (.cond (.tmp 29)
 (.seq (.reg [⟨(some 30), false, none, .move (.tmp 0) false⟩,
   ⟨(some 31), false, none, .move (.tmp 5) false⟩,
   ⟨(some 32), false, none, .load true 35 (.tmp 7) false⟩,
   ⟨(some 33), false, none, .indexAddrS 35 (.tmp 30) (.tmp 31)⟩,
   ⟨none, false, none, .store 35 (.tmp 33) (.tmp 32)⟩])
 (.reg [⟨(some 34), false, none, .move (.tmp 5) false⟩,
   ⟨(some 35), false, none, .bin .add (.tmp 34) (.const (.sc (.int .i64 1)))⟩,
   ⟨(some 5), false, none, .move (.tmp 35) false⟩]))
 .skip))))
 (.reg [⟨(some 20), false, none, .move (.tmp 6) false⟩,
   ⟨(some 21), false, none, .bin .add (.tmp 20) (.const (.sc (.int .i64 1)))⟩,
   ⟨(some 6), false, none, .move (.tmp 21) false⟩])))
def cbbbb_slices_DeleteFunc_Lapi_Sample_api_Sample : CC := (.seq (.reg [⟨(some 36), false, none, .move (.tmp 0) false⟩,
   ⟨(some 37), false, none, .move (.tmp 5) false⟩,
   ⟨(some 38), false, none, .sliceS 35 (.tmp 36) (some (.tmp 37)) none none⟩,
   ⟨none, false, none, .clear 35 [(.sc (.int .u8 0)), (.sc (.int .u8 0)), (.sc (.int .u8 0)), (.sc (.int .u8 0)), (.sc (.int .u8 0)), (.sc (.int .u8 0)), (.sc (.int .u8 0)), (.sc (.int .u8 0)), (.sc (.int .u8 0)), (.sc (.int .u8 0)), (.sc (.int .u8 0)), (.sc (.int .u8 0)), (.sc (.int .u8 0)), (.sc (.int .u8 0)), (.sc (.int .u8 0)), (.sc (.int .u8 0)), (.sc (.int .u8 0)), (.sc (.int .u8 0)), (.sc (.int .u8 0)), (.sc (.int .u8 0)), (.sc (.int .u8 0)), (.sc (.int .u8 0)), (.sc (.int .u8 0)), (.sc (.int .u8 0)), (.sc (.int .u8 0)), (.sc (.int .u8 0)), (.sc (.int .u8 0)), (.sc (.int .u8 0)), (.sc (.int .u8 0)), (.sc (.int .u8 0)), (.sc (.int .u8 0)), (.sc (.int .u8 0)), (.sc (.int .i64 0)), (.sc (.int .i64 0)), (.sc (.int .i64 0))] (.tmp 38)⟩])
 (.seq (.reg [⟨(some 39), false, none, .move (.tmp 0) true⟩,
   ⟨(some 40), false, none, .move (.tmp 5) false⟩,
   ⟨(some 41), false, none, .sliceS 35 (.tmp 39) none (some (.tmp 40)) none⟩,
   ⟨(some 4), false, none, .move (.tmp 41) true⟩])
 .ret))
def cf_slices_DeleteFunc_Lapi_Sample_api_Sample : CF := ⟨42, [.tmp 4],
 (.seq (.reg [⟨(some 4), false, none, .move (.const (.gs 35 [])) true⟩])
 (.seq (.reg [⟨(some 8), false, none, .move (.tmp 0) false⟩,
   ⟨(some 9), false, none, .move (.tmp 1) false⟩,
   ⟨(some 10), false, none, .call 253 [((.tmp 8), 2), ((.tmp 9), 2)] []⟩,
   ⟨(some 5), false, none, .move (.tmp 10) false⟩])
 (.seq (.seq (.reg [⟨(some 11), false, none, .move (.tmp 5) false⟩,
   ⟨(some 12), false, none, .bin .eql (.tmp 11) (.const (.sc (.int .i64 (-1))))⟩])
 (.cond (.tmp 12)
 (.seq (.reg [⟨(some 13), false, none, .move (.tmp 0) true⟩,
   ⟨(some 4), false, none, .move (.tmp 13) true⟩])
 .ret)
 .skip))
 (.seq (.seq (.reg [⟨(some 14), false, none, .move (.tmp 5) false⟩,
   ⟨(some 15), false, none, .bin .add (.tmp 14) (.const (.sc (.int .i64 1)))⟩,
   ⟨(some 6), false, none, .move (.tmp 15) false⟩])
 (.block 0 (.loop (bl 99 42) (bl 4397777813375 42)
 cbbbabaa_slices_DeleteFunc_Lapi_Sample_api_Sample)))
 cbbbb_slices_DeleteFunc_Lapi_Sample_api_Sample))))⟩
def hint_slices_DeleteFunc_Lapi_Sample_api_Sample : Hint := ⟨[(0, 0), (1, 2), (3, 0), (3, 1), (12, 0), (12, 3)], [], [none, none, none, some ((bl 99 42), (bl 4397777813375 42)), none, some ((bl 33 42), (bl 4397777813311 42)), none, none, none], [], [], false⟩
def sh_slices_DeleteFunc_Lapi_Sample_api_Sample : Nat → Sh := shOf []
def cb_slices_DeleteFunc_Lapi_Sample_api_Sample (F_slices_IndexFunc_Lapi_Sample_api_Sample : T_slices_IndexFunc_Lapi_Sample_api_Sample) (F_fees_Rewind_1 : T_fees_Rewind_1) (L : Nat) : CBC := (addC 246 (d_fees_Rewind_1 F_fees_Rewind_1 L) (addC 253 (d_slices_IndexFunc_Lapi_Sample_api_Sample F_slices_IndexFunc_Lapi_Sample_api_Sample L) noC))
def mbbbaba_slices_DeleteFunc_Lapi_Sample_api_Sample : St → St := maskN 2 (bl 99 42) (bl 4397777813375 42)
def st_hbbbaba_slices_DeleteFunc_Lapi_Sample_api_Sample (p0l : Nat) (p5 : Int) (p6 : Int) (b0 : List V) (b1_0 : Int) : St := ⟨[(V.own 0 0 p0l 35), (V.fn 246 [(V.ptr 1 0)]), .junk, .junk, .junk, (V.sc (.int .i64 p5)), (V.sc (.int .i64 p6)), .junk, .junk, .junk, .junk, .junk, .junk, .junk, .junk, .junk, .junk, .junk, .junk, .junk, .junk, .junk, .junk, .junk, .junk, .junk, .junk, .junk, .junk, .junk, .junk, .junk, .junk, .junk, .junk, .junk, .junk, .junk, .junk, .junk, .junk, .junk], [(.live true b0), (.live true [(V.sc (.int .i64 b1_0))]), .gone, .gone, .gone, .gone, .gone, .gone, .gone, .gone, .gone, .gone, .gone, .gone, .gone, .gone, .gone, .gone, .gone, .gone, .gone, .gone, .gone, .gone, .gone, .gone, .gone, .gone, .gone, .gone, .gone, .gone, .gone, .gone, .gone, .gone, .gone, .gone, .gone, .gone, .gone, .gone, .gone, .gone]⟩
def st_x0_slices_DeleteFunc_Lapi_Sample_api_Sample (p0l : Nat) (p5 : Int) (b0 : List V) (b1_0 : Int) : St := ⟨[(V.own 0 0 p0l 35), .junk, .junk, .junk, .junk, (V.sc (.int .i64 p5)), .junk, .junk, .junk, .junk, .junk, .junk, .junk, .junk, .junk, .junk, .junk, .junk, .junk, .junk, .junk, .junk, .junk, .junk, .junk, .junk, .junk, .junk, .junk, .junk, .junk, .junk, .junk, .junk, .junk, .junk, .junk, .junk, .junk, .junk, .junk, .junk], [(.live true b0), (.live true [(V.sc (.int .i64 b1_0))]), .gone, .gone, .gone, .gone, .gone, .gone, .gone, .gone, .gone, .gone, .gone, .gone, .gone, .gone, .gone, .gone, .gone, .gone, .gone, .gone, .gone, .gone, .gone, .gone, .gone, .gone, .gone, .gone, .gone, .gone, .gone, .gone, .gone, .gone, .gone, .gone, .gone, .gone, .gone, .gone, .gone, .gone]⟩
def e_slices_DeleteFunc_Lapi_Sample_api_Sample {β : Type} (F_slices_IndexFunc_Lapi_Sample_api_Sample : T_slices_IndexFunc_Lapi_Sample_api_Sample) (F_fees_Rewind_1 : T_fees_Rewind_1) (L : Nat) (p0l : Nat) (b0 : List V) (b1_0 : Int) (k_fin : Nat → List V → Int → Option β) (k_hbbbaba : Nat → Int → Int → List V → Int → Option β) : Option β :=
 F_slices_IndexFunc_Lapi_Sample_api_Sample β L p0l b0 b1_0 (fun v0 v1 v2 =>
 chk ([(List.length v1), 1] = [(List.length b0), 1]) (
 ifb ((v0 : Int) == (-1 : Int)) (
 k_fin p0l v1 v2) (
 lt (IntKind.wrap .i64 ((v0 : Int) + (1 : Int))) fun x3 =>
 k_hbbbaba p0l v0 x3 v1 v2)))
theorem e_slices_DeleteFunc_Lapi_Sample_api_Sample_ok {β : Type} (F_slices_IndexFunc_Lapi_Sample_api_Sample : T_slices_IndexFunc_Lapi_Sample_api_Sample) (F_fees_Rewind_1 : T_fees_Rewind_1) (L : Nat) (p0l : Nat) (b0 : List V) (b1_0 : Int) (k : V → Bor → Option β) : funC sh_slices_DeleteFunc_Lapi_Sample_api_Sample (cb_slices_DeleteFunc_Lapi_Sample_api_Sample F_slices_IndexFunc_Lapi_Sample_api_Sample F_fees_Rewind_1 L) L cf_slices_DeleteFunc_Lapi_Sample_api_Sample [(V.own 0 0 p0l 35), (V.fn 246 [(V.ptr 1 0)])] [(.live true b0), (.live true [(V.sc (.int .i64 b1_0))])] k = e_slices_DeleteFunc_Lapi_Sample_api_Sample F_slices_IndexFunc_Lapi_Sample_api_Sample F_fees_Rewind_1 L p0l b0 b1_0 (fun p0l b0 b1_0 => k (V.own 0 0 p0l 35) [(.live true b0), (.live true [(V.sc (.int .i64 b1_0))])]) (fun p0l p5 p6 b0 b1_0 => loopM (runC sh_slices_DeleteFunc_Lapi_Sample_api_Sample (cb_slices_DeleteFunc_Lapi_Sample_api_Sample F_slices_IndexFunc_Lapi_Sample_api_Sample F_fees_Rewind_1 L) 2 L cbbbabaa_slices_DeleteFunc_Lapi_Sample_api_Sample) mbbbaba_slices_DeleteFunc_Lapi_Sample_api_Sample L (st_hbbbaba_slices_DeleteFunc_Lapi_Sample_api_Sample p0l p5 p6 b0 b1_0) (blockK 0 (seqK (runC sh_slices_DeleteFunc_Lapi_Sample_api_Sample (cb_slices_DeleteFunc_Lapi_Sample_api_Sample F_slices_IndexFunc_Lapi_Sample_api_Sample F_fees_Rewind_1 L) 2 L cbbbb_slices_DeleteFunc_Lapi_Sample_api_Sample) (finK 2 (CF.res cf_slices_DeleteFunc_Lapi_Sample_api_Sample) k)))) := by kernel_rfl
def bbbbaba_slices_DeleteFunc_Lapi_Sample_api_Sample {β : Type} (F_slices_IndexFunc_Lapi_Sample_api_Sample : T_slices_IndexFunc_Lapi_Sample_api_Sample) (F_fees_Rewind_1 : T_fees_Rewind_1) (L : Nat) (p0l : Nat) (p5 : Int) (p6 : Int) (b0 : List V) (b1_0 : Int) (k_hbbbaba : Nat → Int → Int → List V → Int → Option β) (k_x0 : Nat → Int → List V → Int → Option β) : Option β :=
 ifb (decide (p6 < ((p0l : Nat) : Int))) (
 chk (0 ≤ p6 ∧ p6 < ((p0l : Nat) : Int)) (
 chk ((0 + ((Int.toNat p6) * 35)) + 35 ≤ (List.length b0)) (
 chk ((List.length (List.take 35 (List.drop (0 + ((Int.toNat p6) * 35)) b0))) = 35 ∧ 0 + 35 ≤ 35) (
 lt (setAt (List.replicate 32 (V.sc (.int .u8 (0 : Int))) ++ [(V.sc (.int .i64 (0 : Int))), (V.sc (.int .i64 (0 : Int))), (V.sc (.int .i64 (0 : Int)))]) 0 (List.take 35 (List.drop (0 + ((Int.toNat p6) * 35)) b0))) fun r4 =>
 chk (0 + 35 ≤ (List.length r4)) (
 F_fees_Rewind_1 β L (List.take 35 r4) b1_0 (fun v5 v6 =>
 ifb (!v5) (
 chk (0 + 35 ≤ (List.length r4)) (
 chk (0 ≤ p5 ∧ p5 < ((p0l : Nat) : Int)) (
 chk ((List.length (List.take 35 r4)) = 35 ∧ (0 + ((Int.toNat p5) * 35)) + 35 ≤ (List.length b0)) (
 lt (setAt b0 (0 + ((Int.toNat p5) * 35)) (List.take 35 r4)) fun r7 =>
 lt (IntKind.wrap .i64 ((p5 : Int) + (1 : Int))) fun x8 =>
 lt (IntKind.wrap .i64 ((p6 : Int) + (1 : Int))) fun x9 =>
 k_hbbbaba p0l x8 x9 r7 v6)))) (
 lt (IntKind.wrap .i64 ((p6 : Int) + (1 : Int))) fun x10 =>
 k_hbbbaba p0l p5 x10 b0 v6))))))) (
 k_x0 p0l p5 b0 b1_0)
theorem bbbbaba_slices_DeleteFunc_Lapi_Sample_api_Sample_ok {β : Type} (F_slices_IndexFunc_Lapi_Sample_api_Sample : T_slices_IndexFunc_Lapi_Sample_api_Sample) (F_fees_Rewind_1 : T_fees_Rewind_1) (L : Nat) (p0l : Nat) (p5 : Int) (p6 : Int) (b0 : List V) (b1_0 : Int) (X : St → Option β) (K : KT β) : runC sh_slices_DeleteFunc_Lapi_Sample_api_Sample (cb_slices_DeleteFunc_Lapi_Sample_api_Sample F_slices_IndexFunc_Lapi_Sample_api_Sample F_fees_Rewind_1 L) 2 L cbbbabaa_slices_DeleteFunc_Lapi_Sample_api_Sample (st_hbbbaba_slices_DeleteFunc_Lapi_Sample_api_Sample p0l p5 p6 b0 b1_0) (loopK mbbbaba_slices_DeleteFunc_Lapi_Sample_api_Sample X K) = bbbbaba_slices_DeleteFunc_Lapi_Sample_api_Sample F_slices_IndexFunc_Lapi_Sample_api_Sample F_fees_Rewind_1 L p0l p5 p6 b0 b1_0 (fun p0l p5 p6 b0 b1_0 => X (st_hbbbaba_slices_DeleteFunc_Lapi_Sample_api_Sample p0l p5 p6 b0 b1_0)) (fun p0l p5 b0 b1_0 => K (.exit 0) (st_x0_slices_DeleteFunc_Lapi_Sample_api_Sample p0l p5 b0 b1_0)) := by kernel_rfl
def rbbbabax0_slices_DeleteFunc_Lapi_Sample_api_Sample {β : Type} (F_slices_IndexFunc_Lapi_Sample_api_Sample : T_slices_IndexFunc_Lapi_Sample_api_Sample) (F_fees_Rewind_1 : T_fees_Rewind_1) (L : Nat) (p0l : Nat) (p5 : Int) (b0 : List V) (b1_0 : Int) (k_fin : Nat → List V → Int → Option β) : Option β :=
 chk (0 ≤ p5 ∧ p5 ≤ ((p0l : Nat) : Int)) (
 lt (setAt b0 (0 + ((Int.toNat p5) * 35)) (List.flatten (List.replicate (p0l - (Int.toNat p5)) (List.replicate 32 (V.sc (.int .u8 (0 : Int))) ++ [(V.sc (.int .i64 (0 : Int))), (V.sc (.int .i64 (0 : Int))), (V.sc (.int .i64 (0 : Int)))])))) fun r11 =>
 chk (0 ≤ p5 ∧ p5 ≤ ((p0l : Nat) : Int)) (
 k_fin ((Int.toNat p5) - 0) r11 b1_0))
theorem rbbbabax0_slices_DeleteFunc_Lapi_Sample_api_Sample_ok {β : Type} (F_slices_IndexFunc_Lapi_Sample_api_Sample : T_slices_IndexFunc_Lapi_Sample_api_Sample) (F_fees_Rewind_1 : T_fees_Rewind_1) (L : Nat) (p0l : Nat) (p5 : Int) (b0 : List V) (b1_0 : Int) (k : V → Bor → Option β) : (blockK 0 (seqK (runC sh_slices_DeleteFunc_Lapi_Sample_api_Sample (cb_slices_DeleteFunc_Lapi_Sample_api_Sample F_slices_IndexFunc_Lapi_Sample_api_Sample F_fees_Rewind_1 L) 2 L cbbbb_slices_DeleteFunc_Lapi_Sample_api_Sample) (finK 2 (CF.res cf_slices_DeleteFunc_Lapi_Sample_api_Sample) k))) (.exit 0) (st_x0_slices_DeleteFunc_Lapi_Sample_api_Sample p0l p5 b0 b1_0) = rbbbabax0_slices_DeleteFunc_Lapi_Sample_api_Sample F_slices_IndexFunc_Lapi_Sample_api_Sample F_fees_Rewind_1 L p0l p5 b0 b1_0 (fun p0l b0 b1_0 => k (V.own 0 0 p0l 35) [(.live true b0), (.live true [(V.sc (.int .i64 b1_0))])]) := by kernel_rfl
def lbbbaba_slices_DeleteFunc_Lapi_Sample_api_Sample {β : Type} (F_slices_IndexFunc_Lapi_Sample_api_Sample : T_slices_IndexFunc_Lapi_Sample_api_Sample) (F_fees_Rewind_1 : T_fees_Rewind_1) (L : Nat) (k_x0 : Nat → Int → List V → Int → Option β) : Nat → Nat → Int → Int → List V → Int → Option β
  | 0, _, _, _, _, _ => none
  | n + 1, p0l, p5, p6, b0, b1_0 => bbbbaba_slices_DeleteFunc_Lapi_Sample_api_Sample F_slices_IndexFunc_Lapi_Sample_api_Sample F_fees_Rewind_1 L p0l p5 p6 b0 b1_0 (fun p0l p5 p6 b0 b1_0 => lbbbaba_slices_DeleteFunc_Lapi_Sample_api_Sample F_slices_IndexFunc_Lapi_Sample_api_Sample F_fees_Rewind_1 L k_x0 n p0l p5 p6 b0 b1_0) k_x0
theorem lbbbaba_slices_DeleteFunc_Lapi_Sample_api_Sample_ok {β : Type} (F_slices_IndexFunc_Lapi_Sample_api_Sample : T_slices_IndexFunc_Lapi_Sample_api_Sample) (F_fees_Rewind_1 : T_fees_Rewind_1) (L : Nat) (K : KT β) : ∀ (n : Nat) (p0l : Nat) (p5 : Int) (p6 : Int) (b0 : List V) (b1_0 : Int), loopM (runC sh_slices_DeleteFunc_Lapi_Sample_api_Sample (cb_slices_DeleteFunc_Lapi_Sample_api_Sample F_slices_IndexFunc_Lapi_Sample_api_Sample F_fees_Rewind_1 L) 2 L cbbbabaa_slices_DeleteFunc_Lapi_Sample_api_Sample) mbbbaba_slices_DeleteFunc_Lapi_Sample_api_Sample n (st_hbbbaba_slices_DeleteFunc_Lapi_Sample_api_Sample p0l p5 p6 b0 b1_0) K = lbbbaba_slices_DeleteFunc_Lapi_Sample_api_Sample F_slices_IndexFunc_Lapi_Sample_api_Sample F_fees_Rewind_1 L (fun p0l p5 b0 b1_0 => K (.exit 0) (st_x0_slices_DeleteFunc_Lapi_Sample_api_Sample p0l p5 b0 b1_0)) n p0l p5 p6 b0 b1_0 := by
  intro n
  induction n with
  | zero => intros; rfl
  | succ n ih =>
    intro p0l p5 p6 b0 b1_0
    refine (bbbbaba_slices_DeleteFunc_Lapi_Sample_api_Sample_ok F_slices_IndexFunc_Lapi_Sample_api_Sample F_fees_Rewind_1 L p0l p5 p6 b0 b1_0 (fun σ => loopM (runC sh_slices_DeleteFunc_Lapi_Sample_api_Sample (cb_slices_DeleteFunc_Lapi_Sample_api_Sample F_slices_IndexFunc_Lapi_Sample_api_Sample F_fees_Rewind_1 L) 2 L cbbbabaa_slices_DeleteFunc_Lapi_Sample_api_Sample) mbbbaba_slices_DeleteFunc_Lapi_Sample_api_Sample n σ K) K).trans ?_
    simp only [ih]
    rfl
def R_slices_DeleteFunc_Lapi_Sample_api_Sample {β : Type} (F_slices_IndexFunc_Lapi_Sample_api_Sample : T_slices_IndexFunc_Lapi_Sample_api_Sample) (F_fees_Rewind_1 : T_fees_Rewind_1) (L : Nat) (p0l : Nat) (b0 : List V) (b1_0 : Int) (k_fin : Nat → List V → Int → Option β) : Option β :=
 e_slices_DeleteFunc_Lapi_Sample_api_Sample F_slices_IndexFunc_Lapi_Sample_api_Sample F_fees_Rewind_1 L p0l b0 b1_0 k_fin (fun p0l p5 p6 b0 b1_0 => lbbbaba_slices_DeleteFunc_Lapi_Sample_api_Sample F_slices_IndexFunc_Lapi_Sample_api_Sample F_fees_Rewind_1 L (fun p0l p5 b0 b1_0 => rbbbabax0_slices_DeleteFunc_Lapi_Sample_api_Sample F_slices_IndexFunc_Lapi_Sample_api_Sample F_fees_Rewind_1 L p0l p5 b0 b1_0 k_fin) L p0l p5 p6 b0 b1_0)
theorem R_slices_DeleteFunc_Lapi_Sample_api_Sample_ok {β : Type} (F_slices_IndexFunc_Lapi_Sample_api_Sample : T_slices_IndexFunc_Lapi_Sample_api_Sample) (F_fees_Rewind_1 : T_fees_Rewind_1) (L : Nat) (p0l : Nat) (b0 : List V) (b1_0 : Int) (k : V → Bor → Option β) : funC sh_slices_DeleteFunc_Lapi_Sample_api_Sample (cb_slices_DeleteFunc_Lapi_Sample_api_Sample F_slices_IndexFunc_Lapi_Sample_api_Sample F_fees_Rewind_1 L) L cf_slices_DeleteFunc_Lapi_Sample_api_Sample [(V.own 0 0 p0l 35), (V.fn 246 [(V.ptr 1 0)])] [(.live true b0), (.live true [(V.sc (.int .i64 b1_0))])] k = R_slices_DeleteFunc_Lapi_Sample_api_Sample F_slices_IndexFunc_Lapi_Sample_api_Sample F_fees_Rewind_1 L p0l b0 b1_0 (fun p0l b0 b1_0 => k (V.own 0 0 p0l 35) [(.live true b0), (.live true [(V.sc (.int .i64 b1_0))])]) := by
  refine (e_slices_DeleteFunc_Lapi_Sample_api_Sample_ok F_slices_IndexFunc_Lapi_Sample_api_Sample F_fees_Rewind_1 L p0l b0 b1_0 k).trans ?_
  unfold R_slices_DeleteFunc_Lapi_Sample_api_Sample
  simp only [lbbbaba_slices_DeleteFunc_Lapi_Sample_api_Sample_ok, rbbbabax0_slices_DeleteFunc_Lapi_Sample_api_Sample_ok]
abbrev T_slices_DeleteFunc_Lapi_Sample_api_Sample := ∀ (β : Type), Nat → Nat → List V → Int → (Nat → List V → Int → Option β) → Option β
def F_slices_DeleteFunc_Lapi_Sample_api_Sample (β : Type) (L : Nat) (p0l : Nat) (b0 : List V) (b1_0 : Int) (k_fin : Nat → List V → Int → Option β) : Option β := R_slices_DeleteFunc_Lapi_Sample_api_Sample F_slices_IndexFunc_Lapi_Sample_api_Sample F_fees_Rewind_1 L p0l b0 b1_0 k_fin
def d_slices_DeleteFunc_Lapi_Sample_api_Sample (F_slices_DeleteFunc_Lapi_Sample_api_Sample : T_slices_DeleteFunc_Lapi_Sample_api_Sample) (L : Nat) (β : Type) (args : List V) (bor : Bor) (k : V → Bor → Option β) : Option β := match args, bor with
  | [a0, a1], [(.live true b0), (.live true [w1_0])] => aO0 0 35 a0 fun p0l => aF 246 [(1, 0)] a1 (aI .i64 w1_0 fun b1_0 => F_slices_DeleteFunc_Lapi_Sample_api_Sample β L p0l b0 b1_0 (fun p0l b0 b1_0 => k (V.own 0 0 p0l 35) [(.live true b0), (.live true [(V.sc (.int .i64 b1_0))])]))
  | _, _ => none
theorem d_slices_DeleteFunc_Lapi_Sample_api_Sample_ok (L : Nat) (β : Type) (args : List V) (bor : Bor) (k : V → Bor → Option β) (r : β) (h : d_slices_DeleteFunc_Lapi_Sample_api_Sample F_slices_DeleteFunc_Lapi_Sample_api_Sample L β args bor k = some r) : funC sh_slices_DeleteFunc_Lapi_Sample_api_Sample (cb_slices_DeleteFunc_Lapi_Sample_api_Sample F_slices_IndexFunc_Lapi_Sample_api_Sample F_fees_Rewind_1 L) L cf_slices_DeleteFunc_Lapi_Sample_api_Sample args bor k = some r := by
  unfold d_slices_DeleteFunc_Lapi_Sample_api_Sample at h
  split at h
  · have q := aO0_inv h; clear h; obtain ⟨p0l, rfl, h⟩ := q
    have q := aF_inv h; clear h; obtain ⟨rfl, h⟩ := q
    have q := aI_inv h; clear h; obtain ⟨b1_0, rfl, h⟩ := q
    exact (R_slices_DeleteFunc_Lapi_Sample_api_Sample_ok F_slices_IndexFunc_Lapi_Sample_api_Sample F_fees_Rewind_1 L p0l _ b1_0 k).trans h
  · cases h
/-! fees_Rewind : 230 -/
def cbbabaa_fees_Rewind : CC := (.seq (.reg [⟨(some 14), false, none, .bin .lss (.tmp 13) (.tmp 12)⟩])
 (.seq (.cond (.tmp 14)
 .skip
 (.seq (.mask (bl 1 28) (bl 268435359 28))
 (.exit 0)))
 (.seq (.block 1 (.seq (.reg [⟨(some 15), false, none, .move (.tmp 13) false⟩,
   ⟨(some 16), false, none, .indexAddrS 35 (.tmp 11) (.tmp 13)⟩,
   ⟨(some 17), false, none, .load true 35 (.tmp 16) false⟩,
   ⟨(some 6), false, none, .alloc true [(.sc (.int .u8 0)), (.sc (.int .u8 0)), (.sc (.int .u8 0)), (.sc (.int .u8 0)), (.sc (.int .u8 0)), (.sc (.int .u8 0)), (.sc (.int .u8 0)), (.sc (.int .u8 0)), (.sc (.int .u8 0)), (.sc (.int .u8 0)), (.sc (.int .u8 0)), (.sc (.int .u8 0)), (.sc (.int .u8 0)), (.sc (.int .u8 0)), (.sc (.int .u8 0)), (.sc (.int .u8 0)), (.sc (.int .u8 0)), (.sc (.int .u8 0)), (.sc (.int .u8 0)), (.sc (.int .u8 0)), (.sc (.int .u8 0)), (.sc (.int .u8 0)), (.sc (.int .u8 0)), (.sc (.int .u8 0)), (.sc (.int .u8 0)), (.sc (.int .u8 0)), (.sc (.int .u8 0)), (.sc (.int .u8 0)), (.sc (.int .u8 0)), (.sc (.int .u8 0)), (.sc (.int .u8 0)), (.sc (.int .u8 0)), (.sc (.int .i64 0)), (.sc (.int .i64 0)), (.sc (.int .i64 0))]⟩,
   ⟨(some 5), false, none, .move (.tmp 15) false⟩,
   ⟨none, false, none, .store 35 (.tmp 6) (.tmp 17)⟩])
 (.seq (.reg [⟨(some 18), false, none, .fieldAddr 34 (.tmp 6)⟩,
   ⟨(some 19), false, none, .load false 1 (.tmp 18) false⟩,
   ⟨(some 20), false, none, .load false 1 (.tmp 3) false⟩,
   ⟨(some 21), false, none, .bin .gtr (.tmp 19) (.tmp 20)⟩])
 (.cond (.tmp 21)
 (.reg [⟨(some 22), false, none, .move (.tmp 0) false⟩,
   ⟨(some 23), false, none, .move (.tmp 5) false⟩,
   ⟨(some 24), false, none, .indexAddrS 35 (.tmp 22) (.tmp 23)⟩,
   ⟨(some 25), false, none, .fieldAddr 34 (.tmp 24)⟩,
   ⟨none, false, none, .store 1 (.tmp 25) (.const (.sc (.int .i64 0)))⟩])
 .skip))))
 (.reg [⟨(some 26), false, none, .bin .add (.tmp 13) (.const (.sc (.int .i64 1)))⟩,
   ⟨(some 13), false, none, .move (.tmp 26) false⟩]))))
def cbbb_fees_Rewind : CC := (.seq (.reg [⟨(some 27), false, none, .move (.tmp 0) true⟩,
   ⟨(some 4), false, none, .move (.tmp 27) true⟩])
 .ret)
def cf_fees_Rewind : CF := ⟨28, [.tmpP 4],
 (.seq (.reg [⟨(some 3), false, none, .box true (.tmp 1)⟩,
   ⟨(some 4), false, none, .move (.const (.gs 35 [])) true⟩])
 (.seq (.reg [⟨(some 7), false, none, .move (.tmp 0) false⟩,
   ⟨(some 8), true, none, .call 245 [((.tmp 7), 0)] []⟩,
   ⟨(some 9), false, none, .makeFunc 246 [(.tmp 3)]⟩,
   ⟨(some 10), true, none, .call 244 [((.tmp 8), 2), ((.tmp 9), 2)] []⟩,
   ⟨(some 0), false, none, .move (.tmp 10) true⟩])
 (.seq (.seq (.reg [⟨(some 11), false, none, .move (.tmp 0) false⟩,
   ⟨(some 12), false, none, .lenS (.tmp 11)⟩,
   ⟨(some 13), false, none, .move (.const (.sc (.int .i64 0))) false⟩])
 (.block 0 (.loop (bl 14345 28) (bl 268435359 28)
 cbbabaa_fees_Rewind)))
 cbbb_fees_Rewind)))⟩
def hint_fees_Rewind : Hint := ⟨[(0, 1), (1, 3), (1, 4), (8, 0), (8, 1)], [(1, 1), (1, 3)], [none, some ((bl 14345 28), (bl 268435359 28)), none, some ((bl 1 28), (bl 268435359 28)), none, none, none], [], [], true⟩
def sh_fees_Rewind : Nat → Sh := shOf [(19, (.int .i64))]
def cb_fees_Rewind (F_slices_Clone_Lapi_Sample_api_Sample : T_slices_Clone_Lapi_Sample_api_Sample) (F_slices_DeleteFunc_Lapi_Sample_api_Sample : T_slices_DeleteFunc_Lapi_Sample_api_Sample) (L : Nat) : CBC := (addC 244 (d_slices_DeleteFunc_Lapi_Sample_api_Sample F_slices_DeleteFunc_Lapi_Sample_api_Sample L) (addC 245 (d_slices_Clone_Lapi_Sample_api_Sample F_slices_Clone_Lapi_Sample_api_Sample L) noC))
def mbbaba_fees_Rewind : St → St := maskN 0 (bl 14345 28) (bl 268435359 28)
def st_hbbaba_fees_Rewind (p0l : Nat) (p11l : Nat) (p12 : Int) (p13 : Int) (b3_0 : Int) (b8 : List V) : St := ⟨[(V.own 8 0 p0l 35), .junk, .junk, (V.ptr 3 0), .junk, .junk, .junk, .junk, .junk, .junk, .junk, (V.own 8 0 p11l 35), (V.sc (.int .i64 p12)), (V.sc (.int .i64 p13)), .junk, .junk, .junk, .junk, .junk, .junk, .junk, .junk, .junk, .junk, .junk, .junk, .junk, .junk], [.gone, .gone, .gone, (.live true [(V.sc (.int .i64 b3_0))]), .gone, .gone, .gone, .gone, (.live true b8), .gone, .gone, .gone, .gone, .gone, .gone, .gone, .gone, .gone, .gone, .gone, .gone, .gone, .gone, .gone, .gone, .gone, .gone, .gone]⟩
def st_x0_fees_Rewind (p0l : Nat) (b3_0 : Int) (b8 : List V) : St := ⟨[(V.own 8 0 p0l 35), .junk, .junk, .junk, .junk, .junk, .junk, .junk, .junk, .junk, .junk, .junk, .junk, .junk, .junk, .junk, .junk, .junk, .junk, .junk, .junk, .junk, .junk, .junk, .junk, .junk, .junk, .junk], [.gone, .gone, .gone, (.live true [(V.sc (.int .i64 b3_0))]), .gone, .gone, .gone, .gone, (.live true b8), .gone, .gone, .gone, .gone, .gone, .gone, .gone, .gone, .gone, .gone, .gone, .gone, .gone, .gone, .gone, .gone, .gone, .gone, .gone]⟩
def e_fees_Rewind {β : Type} (F_slices_Clone_Lapi_Sample_api_Sample : T_slices_Clone_Lapi_Sample_api_Sample) (F_slices_DeleteFunc_Lapi_Sample_api_Sample : T_slices_DeleteFunc_Lapi_Sample_api_Sample) (L : Nat) (p0 : List (List V)) (p1 : Int) (k_hbbaba : Nat → Nat → Int → Int → Int → List V → Option β) : Option β :=
 F_slices_Clone_Lapi_Sample_api_Sample β L p0 (fun v0 =>
 F_slices_DeleteFunc_Lapi_Sample_api_Sample β L (List.length v0) (List.flatten v0) p1 (fun v1 v2 v3 =>
 chk ([(List.length v2), 1] = [(List.length (List.flatten v0)), 1]) (
 k_hbbaba v1 v1 ((v1 : Nat) : Int) (0 : Int) v3 v2)))
theorem e_fees_Rewind_ok {β : Type} (F_slices_Clone_Lapi_Sample_api_Sample : T_slices_Clone_Lapi_Sample_api_Sample) (F_slices_DeleteFunc_Lapi_Sample_api_Sample : T_slices_DeleteFunc_Lapi_Sample_api_Sample) (L : Nat) (p0 : List (List V)) (p1 : Int) (k : V → Bor → Option β) : funC sh_fees_Rewind (cb_fees_Rewind F_slices_Clone_Lapi_Sample_api_Sample F_slices_DeleteFunc_Lapi_Sample_api_Sample L) L cf_fees_Rewind [(V.sl 35 p0), (V.sc (.int .i64 p1))] [] k = e_fees_Rewind F_slices_Clone_Lapi_Sample_api_Sample F_slices_DeleteFunc_Lapi_Sample_api_Sample L p0 p1 (fun p0l p11l p12 p13 b3_0 b8 => loopM (runC sh_fees_Rewind (cb_fees_Rewind F_slices_Clone_Lapi_Sample_api_Sample F_slices_DeleteFunc_Lapi_Sample_api_Sample L) 0 L cbbabaa_fees_Rewind) mbbaba_fees_Rewind L (st_hbbaba_fees_Rewind p0l p11l p12 p13 b3_0 b8) (blockK 0 (seqK (runC sh_fees_Rewind (cb_fees_Rewind F_slices_Clone_Lapi_Sample_api_Sample F_slices_DeleteFunc_Lapi_Sample_api_Sample L) 0 L cbbb_fees_Rewind) (finK 0 (CF.res cf_fees_Rewind) k)))) := by kernel_rfl
def bbbaba_fees_Rewind {β : Type} (F_slices_Clone_Lapi_Sample_api_Sample : T_slices_Clone_Lapi_Sample_api_Sample) (F_slices_DeleteFunc_Lapi_Sample_api_Sample : T_slices_DeleteFunc_Lapi_Sample_api_Sample) (L : Nat) (p0l : Nat) (p11l : Nat) (p12 : Int) (p13 : Int) (b3_0 : Int) (b8 : List V) (k_hbbaba : Nat → Nat → Int → Int → Int → List V → Option β) (k_x0 : Nat → Int → List V → Option β) : Option β :=
 ifb (decide (p13 < p12)) (
 chk (0 ≤ p13 ∧ p13 < ((p11l : Nat) : Int)) (
 chk ((0 + ((Int.toNat p13) * 35)) + 35 ≤ (List.length b8)) (
 chk ((List.length (List.take 35 (List.drop (0 + ((Int.toNat p13) * 35)) b8))) = 35 ∧ 0 + 35 ≤ 35) (
 lt (setAt (List.replicate 32 (V.sc (.int .u8 (0 : Int))) ++ [(V.sc (.int .i64 (0 : Int))), (V.sc (.int .i64 (0 : Int))), (V.sc (.int .i64 (0 : Int)))]) 0 (List.take 35 (List.drop (0 + ((Int.toNat p13) * 35)) b8))) fun r4 =>
 cI .i64 r4 34 fun v5 =>
 ifb (decide (v5 > b3_0)) (
 chk (0 ≤ p13 ∧ p13 < ((p0l : Nat) : Int)) (
 chk (1 = 1 ∧ ((0 + ((Int.toNat p13) * 35)) + 34) + 1 ≤ (List.length b8)) (
 lt (setAt b8 ((0 + ((Int.toNat p13) * 35)) + 34) [(V.sc (.int .i64 (0 : Int)))]) fun r6 =>
 lt (IntKind.wrap .i64 ((p13 : Int) + (1 : Int))) fun x7 =>
 k_hbbaba p0l p11l p12 x7 b3_0 r6))) (
 lt (IntKind.wrap .i64 ((p13 : Int) + (1 : Int))) fun x8 =>
 k_hbbaba p0l p11l p12 x8 b3_0 b8))))) (
 k_x0 p0l b3_0 b8)
theorem bbbaba_fees_Rewind_ok {β : Type} (F_slices_Clone_Lapi_Sample_api_Sample : T_slices_Clone_Lapi_Sample_api_Sample) (F_slices_DeleteFunc_Lapi_Sample_api_Sample : T_slices_DeleteFunc_Lapi_Sample_api_Sample) (L : Nat) (p0l : Nat) (p11l : Nat) (p12 : Int) (p13 : Int) (b3_0 : Int) (b8 : List V) (X : St → Option β) (K : KT β) : runC sh_fees_Rewind (cb_fees_Rewind F_slices_Clone_Lapi_Sample_api_Sample F_slices_DeleteFunc_Lapi_Sample_api_Sample L) 0 L cbbabaa_fees_Rewind (st_hbbaba_fees_Rewind p0l p11l p12 p13 b3_0 b8) (loopK mbbaba_fees_Rewind X K) = bbbaba_fees_Rewind F_slices_Clone_Lapi_Sample_api_Sample F_slices_DeleteFunc_Lapi_Sample_api_Sample L p0l p11l p12 p13 b3_0 b8 (fun p0l p11l p12 p13 b3_0 b8 => X (st_hbbaba_fees_Rewind p0l p11l p12 p13 b3_0 b8)) (fun p0l b3_0 b8 => K (.exit 0) (st_x0_fees_Rewind p0l b3_0 b8)) := by kernel_rfl
def rbbabax0_fees_Rewind {β : Type} (F_slices_Clone_Lapi_Sample_api_Sample : T_slices_Clone_Lapi_Sample_api_Sample) (F_slices_DeleteFunc_Lapi_Sample_api_Sample : T_slices_DeleteFunc_Lapi_Sample_api_Sample) (L : Nat) (p0l : Nat) (b3_0 : Int) (b8 : List V) (k_fin : List (List V) → Option β) : Option β :=
 k_fin (chunks 35 p0l b8)
theorem rbbabax0_fees_Rewind_ok {β : Type} (F_slices_Clone_Lapi_Sample_api_Sample : T_slices_Clone_Lapi_Sample_api_Sample) (F_slices_DeleteFunc_Lapi_Sample_api_Sample : T_slices_DeleteFunc_Lapi_Sample_api_Sample) (L : Nat) (p0l : Nat) (b3_0 : Int) (b8 : List V) (k : V → Bor → Option β) : (blockK 0 (seqK (runC sh_fees_Rewind (cb_fees_Rewind F_slices_Clone_Lapi_Sample_api_Sample F_slices_DeleteFunc_Lapi_Sample_api_Sample L) 0 L cbbb_fees_Rewind) (finK 0 (CF.res cf_fees_Rewind) k))) (.exit 0) (st_x0_fees_Rewind p0l b3_0 b8) = rbbabax0_fees_Rewind F_slices_Clone_Lapi_Sample_api_Sample F_slices_DeleteFunc_Lapi_Sample_api_Sample L p0l b3_0 b8 (fun p0 => k (V.gs 35 p0) []) := by kernel_rfl
def lbbaba_fees_Rewind {β : Type} (F_slices_Clone_Lapi_Sample_api_Sample : T_slices_Clone_Lapi_Sample_api_Sample) (F_slices_DeleteFunc_Lapi_Sample_api_Sample : T_slices_DeleteFunc_Lapi_Sample_api_Sample) (L : Nat) (k_x0 : Nat → Int → List V → Option β) : Nat → Nat → Nat → Int → Int → Int → List V → Option β
  | 0, _, _, _, _, _, _ => none
  | n + 1, p0l, p11l, p12, p13, b3_0, b8 => bbbaba_fees_Rewind F_slices_Clone_Lapi_Sample_api_Sample F_slices_DeleteFunc_Lapi_Sample_api_Sample L p0l p11l p12 p13 b3_0 b8 (fun p0l p11l p12 p13 b3_0 b8 => lbbaba_fees_Rewind F_slices_Clone_Lapi_Sample_api_Sample F_slices_DeleteFunc_Lapi_Sample_api_Sample L k_x0 n p0l p11l p12 p13 b3_0 b8) k_x0
theorem lbbaba_fees_Rewind_ok {β : Type} (F_slices_Clone_Lapi_Sample_api_Sample : T_slices_Clone_Lapi_Sample_api_Sample) (F_slices_DeleteFunc_Lapi_Sample_api_Sample : T_slices_DeleteFunc_Lapi_Sample_api_Sample) (L : Nat) (K : KT β) : ∀ (n : Nat) (p0l : Nat) (p11l : Nat) (p12 : Int) (p13 : Int) (b3_0 : Int) (b8 : List V), loopM (runC sh_fees_Rewind (cb_fees_Rewind F_slices_Clone_Lapi_Sample_api_Sample F_slices_DeleteFunc_Lapi_Sample_api_Sample L) 0 L cbbabaa_fees_Rewind) mbbaba_fees_Rewind n (st_hbbaba_fees_Rewind p0l p11l p12 p13 b3_0 b8) K = lbbaba_fees_Rewind F_slices_Clone_Lapi_Sample_api_Sample F_slices_DeleteFunc_Lapi_Sample_api_Sample L (fun p0l b3_0 b8 => K (.exit 0) (st_x0_fees_Rewind p0l b3_0 b8)) n p0l p11l p12 p13 b3_0 b8 := by
  intro n
  induction n with
  | zero => intros; rfl
  | succ n ih =>
    intro p0l p11l p12 p13 b3_0 b8
    refine (bbbaba_fees_Rewind_ok F_slices_Clone_Lapi_Sample_api_Sample F_slices_DeleteFunc_Lapi_Sample_api_Sample L p0l p11l p12 p13 b3_0 b8 (fun σ => loopM (runC sh_fees_Rewind (cb_fees_Rewind F_slices_Clone_Lapi_Sample_api_Sample F_slices_DeleteFunc_Lapi_Sample_api_Sample L) 0 L cbbabaa_fees_Rewind) mbbaba_fees_Rewind n σ K) K).trans ?_
    simp only [ih]
    rfl
def R_fees_Rewind {β : Type} (F_slices_Clone_Lapi_Sample_api_Sample : T_slices_Clone_Lapi_Sample_api_Sample) (F_slices_DeleteFunc_Lapi_Sample_api_Sample : T_slices_DeleteFunc_Lapi_Sample_api_Sample) (L : Nat) (p0 : List (List V)) (p1 : Int) (k_fin : List (List V) → Option β) : Option β :=
 e_fees_Rewind F_slices_Clone_Lapi_Sample_api_Sample F_slices_DeleteFunc_Lapi_Sample_api_Sample L p0 p1 (fun p0l p11l p12 p13 b3_0 b8 => lbbaba_fees_Rewind F_slices_Clone_Lapi_Sample_api_Sample F_slices_DeleteFunc_Lapi_Sample_api_Sample L (fun p0l b3_0 b8 => rbbabax0_fees_Rewind F_slices_Clone_Lapi_Sample_api_Sample F_slices_DeleteFunc_Lapi_Sample_api_Sample L p0l b3_0 b8 k_fin) L p0l p11l p12 p13 b3_0 b8)
theorem R_fees_Rewind_ok {β : Type} (F_slices_Clone_Lapi_Sample_api_Sample : T_slices_Clone_Lapi_Sample_api_Sample) (F_slices_DeleteFunc_Lapi_Sample_api_Sample : T_slices_DeleteFunc_Lapi_Sample_api_Sample) (L : Nat) (p0 : List (List V)) (p1 : Int) (k : V → Bor → Option β) : funC sh_fees_Rewind (cb_fees_Rewind F_slices_Clone_Lapi_Sample_api_Sample F_slices_DeleteFunc_Lapi_Sample_api_Sample L) L cf_fees_Rewind [(V.sl 35 p0), (V.sc (.int .i64 p1))] [] k = R_fees_Rewind F_slices_Clone_Lapi_Sample_api_Sample F_slices_DeleteFunc_Lapi_Sample_api_Sample L p0 p1 (fun p0 => k (V.gs 35 p0) []) := by
  refine (e_fees_Rewind_ok F_slices_Clone_Lapi_Sample_api_Sample F_slices_DeleteFunc_Lapi_Sample_api_Sample L p0 p1 k).trans ?_
  unfold R_fees_Rewind
  simp only [lbbaba_fees_Rewind_ok, rbbabax0_fees_Rewind_ok]
abbrev T_fees_Rewind := ∀ (β : Type), Nat → List (List V) → Int → (List (List V) → Option β) → Option β
def F_fees_Rewind (β : Type) (L : Nat) (p0 : List (List V)) (p1 : Int) (k_fin : List (List V) → Option β) : Option β := R_fees_Rewind F_slices_Clone_Lapi_Sample_api_Sample F_slices_DeleteFunc_Lapi_Sample_api_Sample L p0 p1 k_fin
def d_fees_Rewind (F_fees_Rewind : T_fees_Rewind) (L : Nat) (β : Type) (args : List V) (bor : Bor) (k : V → Bor → Option β) : Option β := match args, bor with
  | [a0, a1], [] => aL 35 a0 fun p0 => aI .i64 a1 fun p1 => F_fees_Rewind β L p0 p1 (fun p0 => k (V.gs 35 p0) [])
  | _, _ => none
theorem d_fees_Rewind_ok (L : Nat) (β : Type) (args : List V) (bor : Bor) (k : V → Bor → Option β) (r : β) (h : d_fees_Rewind F_fees_Rewind L β args bor k = some r) : funC sh_fees_Rewind (cb_fees_Rewind F_slices_Clone_Lapi_Sample_api_Sample F_slices_DeleteFunc_Lapi_Sample_api_Sample L) L cf_fees_Rewind args bor k = some r := by
  unfold d_fees_Rewind at h
  split at h
  · have q := aL_inv h; clear h; obtain ⟨p0, rfl, h⟩ := q
    have q := aI_inv h; clear h; obtain ⟨p1, rfl, h⟩ := q
    exact (R_fees_Rewind_ok F_slices_Clone_Lapi_Sample_api_Sample F_slices_DeleteFunc_Lapi_Sample_api_Sample L p0 p1 k).trans h
  · cases h
/-! slices_Index_Lapi_Hash_api_Hash : 254 -/
def cbabaa_slices_Index_Lapi_Hash_api_Hash : CC := (.seq (.reg [⟨(some 9), false, none, .bin .lss (.tmp 8) (.tmp 7)⟩])
 (.seq (.cond (.tmp 9)
 .skip
 (.seq (.mask (bl 0 19) (bl 524231 19))
 (.exit 0)))
 (.seq (.block 1 (.seq (.reg [⟨(some 10), false, none, .move (.tmp 8) false⟩,
   ⟨(some 5), false, none, .move (.tmp 10) false⟩])
 (.seq (.dreg [] [(⟨(some 11), false, none, .load true 32 (.tmp 3) false⟩, ⟨true, some 3, [], false⟩),
   (⟨(some 12), false, none, .move (.tmp 0) false⟩, q0),
   (⟨(some 13), false, none, .move (.tmp 5) false⟩, q0),
   (⟨(some 14), false, none, .indexAddrS 32 (.tmp 12) (.tmp 13)⟩, q0),
   (⟨(some 15), false, none, .load true 32 (.tmp 14) false⟩, q1),
   (⟨(some 16), false, none, .eqAgg false 32 (.tmp 11) (.tmp 15)⟩, q0)])
 (.cond (.tmp 16)
 (.seq (.reg [⟨(some 17), false, none, .move (.tmp 5) false⟩,
   ⟨(some 4), false, none, .move (.tmp 17) false⟩])
 (.seq (.mask (bl 16 19) (bl 524247 19))
 .ret))
 .skip))))
 (.reg [⟨(some 18), false, none, .bin .add (.tmp 8) (.const (.sc (.int .i64 1)))⟩,
   ⟨(some 8), false, none, .move (.tmp 18) false⟩]))))
def cbb_slices_Index_Lapi_Hash_api_Hash : CC := (.seq (.reg [⟨(some 4), false, none, .move (.const (.sc (.int .i64 (-1)))) false⟩])
 .ret)
def cf_slices_Index_Lapi_Hash_api_Hash : CF := ⟨19, [.tmp 4],
 (.seq (.reg [⟨(some 3), false, none, .box true (.tmp 1)⟩,
   ⟨(some 4), false, none, .move (.const (.sc (.int .i64 0))) false⟩])
 (.seq (.seq (.reg [⟨(some 6), false, none, .move (.tmp 0) false⟩,
   ⟨(some 7), false, none, .lenS (.tmp 6)⟩,
   ⟨(some 8), false, none, .move (.const (.sc (.int .i64 0))) false⟩])
 (.block 0 (.loop (bl 393 19) (bl 524239 19)
 cbabaa_slices_Index_Lapi_Hash_api_Hash)))
 cbb_slices_Index_Lapi_Hash_api_Hash))⟩
def hint_slices_Index_Lapi_Hash_api_Hash : Hint := ⟨[], [], [none, some ((bl 393 19), (bl 524239 19)), none, some ((bl 0 19), (bl 524231 19)), none, none, some ((bl 16 19), (bl 524247 19)), none], [], [], false⟩
def sh_slices_Index_Lapi_Hash_api_Hash : Nat → Sh := shOf []
def cb_slices_Index_Lapi_Hash_api_Hash (L : Nat) : CBC := noC
def mbaba_slices_Index_Lapi_Hash_api_Hash : St → St := maskN 0 (bl 393 19) (bl 524239 19)
def st_hbaba_slices_Index_Lapi_Hash_api_Hash (p0 : List (List V)) (p7 : Int) (p8 : Int) (b3 : List V) : St := ⟨[(V.sl 32 p0), .junk, .junk, (V.ptr 3 0), .junk, .junk, .junk, (V.sc (.int .i64 p7)), (V.sc (.int .i64 p8)), .junk, .junk, .junk, .junk, .junk, .junk, .junk, .junk, .junk, .junk], [.gone, .gone, .gone, (.live true b3), .gone, .gone, .gone, .gone, .gone, .gone, .gone, .gone, .gone, .gone, .gone, .gone, .gone, .gone, .gone]⟩
def st_ret_slices_Index_Lapi_Hash_api_Hash (p4 : Int) : St := ⟨[.junk, .junk, .junk, .junk, (V.sc (.int .i64 p4)), .junk, .junk, .junk, .junk, .junk, .junk, .junk, .junk, .junk, .junk, .junk, .junk, .junk, .junk], [.gone, .gone, .gone, .gone, .gone, .gone, .gone, .gone, .gone, .gone, .gone, .gone, .gone, .gone, .gone, .gone, .gone, .gone, .gone]⟩
def st_x0_slices_Index_Lapi_Hash_api_Hash : St := ⟨[.junk, .junk, .junk, .junk, .junk, .junk, .junk, .junk, .junk, .junk, .junk, .junk, .junk, .junk, .junk, .junk, .junk, .junk, .junk], [.gone, .gone, .gone, .gone, .gone, .gone, .gone, .gone, .gone, .gone, .gone, .gone, .gone, .gone, .gone, .gone, .gone, .gone, .gone]⟩
def e_slices_Index_Lapi_Hash_api_Hash {β : Type} (L : Nat) (p0 : List (List V)) (p1 : List V) (k_hbaba : List (List V) → Int → Int → List V → Option β) : Option β :=
 k_hbaba p0 ((List.length p0 : Nat) : Int) (0 : Int) p1
theorem e_slices_Index_Lapi_Hash_api_Hash_ok {β : Type} (L : Nat) (p0 : List (List V)) (p1 : List V) (k : V → Bor → Option β) : funC sh_slices_Index_Lapi_Hash_api_Hash (cb_slices_Index_Lapi_Hash_api_Hash L) L cf_slices_Index_Lapi_Hash_api_Hash [(V.sl 32 p0), (V.agg p1)] [] k = e_slices_Index_Lapi_Hash_api_Hash L p0 p1 (fun p0 p7 p8 b3 => loopM (runC sh_slices_Index_Lapi_Hash_api_Hash (cb_slices_Index_Lapi_Hash_api_Hash L) 0 L cbabaa_slices_Index_Lapi_Hash_api_Hash) mbaba_slices_Index_Lapi_Hash_api_Hash L (st_hbaba_slices_Index_Lapi_Hash_api_Hash p0 p7 p8 b3) (blockK 0 (seqK (runC sh_slices_Index_Lapi_Hash_api_Hash (cb_slices_Index_Lapi_Hash_api_Hash L) 0 L cbb_slices_Index_Lapi_Hash_api_Hash) (finK 0 (CF.res cf_slices_Index_Lapi_Hash_api_Hash) k)))) := by kernel_rfl
def bbaba_slices_Index_Lapi_Hash_api_Hash {β : Type} (L : Nat) (p0 : List (List V)) (p7 : Int) (p8 : Int) (b3 : List V) (k_ret : Int → Option β) (k_hbaba : List (List V) → Int → Int → List V → Option β) (k_x0 : Option β) : Option β :=
 ifb (decide (p8 < p7)) (
 chk (0 + 32 ≤ (List.length b3)) (
 idx p0 p8 fun c0 =>
 eqC 32 (List.take 32 b3) (List.take 32 c0) fun v1 =>
 ifb v1 (
 k_ret p8) (
 lt (IntKind.wrap .i64 ((p8 : Int) + (1 : Int))) fun x2 =>
 k_hbaba p0 p7 x2 b3))) (
 k_x0)
theorem bbaba_slices_Index_Lapi_Hash_api_Hash_ok {β : Type} (L : Nat) (p0 : List (List V)) (p7 : Int) (p8 : Int) (b3 : List V) (X : St → Option β) (K : KT β) : runC sh_slices_Index_Lapi_Hash_api_Hash (cb_slices_Index_Lapi_Hash_api_Hash L) 0 L cbabaa_slices_Index_Lapi_Hash_api_Hash (st_hbaba_slices_Index_Lapi_Hash_api_Hash p0 p7 p8 b3) (loopK mbaba_slices_Index_Lapi_Hash_api_Hash X K) = bbaba_slices_Index_Lapi_Hash_api_Hash L p0 p7 p8 b3 (fun p4 => K .ret (st_ret_slices_Index_Lapi_Hash_api_Hash p4)) (fun p0 p7 p8 b3 => X (st_hbaba_slices_Index_Lapi_Hash_api_Hash p0 p7 p8 b3)) (K (.exit 0) (st_x0_slices_Index_Lapi_Hash_api_Hash)) := by kernel_rfl
def rbabaret_slices_Index_Lapi_Hash_api_Hash {β : Type} (L : Nat) (p4 : Int) (k_fin : Int → Option β) : Option β :=
 k_fin p4
theorem rbabaret_slices_Index_Lapi_Hash_api_Hash_ok {β : Type} (L : Nat) (p4 : Int) (k : V → Bor → Option β) : (blockK 0 (seqK (runC sh_slices_Index_Lapi_Hash_api_Hash (cb_slices_Index_Lapi_Hash_api_Hash L) 0 L cbb_slices_Index_Lapi_Hash_api_Hash) (finK 0 (CF.res cf_slices_Index_Lapi_Hash_api_Hash) k))) .ret (st_ret_slices_Index_Lapi_Hash_api_Hash p4) = rbabaret_slices_Index_Lapi_Hash_api_Hash L p4 (fun p0 => k (V.sc (.int .i64 p0)) []) := by kernel_rfl
def rbabax0_slices_Index_Lapi_Hash_api_Hash {β : Type} (L : Nat) (k_fin : Int → Option β) : Option β :=
 k_fin (-1 : Int)
theorem rbabax0_slices_Index_Lapi_Hash_api_Hash_ok {β : Type} (L : Nat) (k : V → Bor → Option β) : (blockK 0 (seqK (runC sh_slices_Index_Lapi_Hash_api_Hash (cb_slices_Index_Lapi_Hash_api_Hash L) 0 L cbb_slices_Index_Lapi_Hash_api_Hash) (finK 0 (CF.res cf_slices_Index_Lapi_Hash_api_Hash) k))) (.exit 0) (st_x0_slices_Index_Lapi_Hash_api_Hash) = rbabax0_slices_Index_Lapi_Hash_api_Hash L (fun p0 => k (V.sc (.int .i64 p0)) []) := by kernel_rfl
def lbaba_slices_Index_Lapi_Hash_api_Hash {β : Type} (L : Nat) (k_ret : Int → Option β) (k_x0 : Option β) : Nat → List (List V) → Int → Int → List V → Option β
  | 0, _, _, _, _ => none
  | n + 1, p0, p7, p8, b3 => bbaba_slices_Index_Lapi_Hash_api_Hash L p0 p7 p8 b3 k_ret (fun p0 p7 p8 b3 => lbaba_slices_Index_Lapi_Hash_api_Hash L k_ret k_x0 n p0 p7 p8 b3) k_x0
theorem lbaba_slices_Index_Lapi_Hash_api_Hash_ok {β : Type} (L : Nat) (K : KT β) : ∀ (n : Nat) (p0 : List (List V)) (p7 : Int) (p8 : Int) (b3 : List V), loopM (runC sh_slices_Index_Lapi_Hash_api_Hash (cb_slices_Index_Lapi_Hash_api_Hash L) 0 L cbabaa_slices_Index_Lapi_Hash_api_Hash) mbaba_slices_Index_Lapi_Hash_api_Hash n (st_hbaba_slices_Index_Lapi_Hash_api_Hash p0 p7 p8 b3) K = lbaba_slices_Index_Lapi_Hash_api_Hash L (fun p4 => K .ret (st_ret_slices_Index_Lapi_Hash_api_Hash p4)) (K (.exit 0) (st_x0_slices_Index_Lapi_Hash_api_Hash)) n p0 p7 p8 b3 := by
  intro n
  induction n with
  | zero => intros; rfl
  | succ n ih =>
    intro p0 p7 p8 b3
    refine (bbaba_slices_Index_Lapi_Hash_api_Hash_ok L p0 p7 p8 b3 (fun σ => loopM (runC sh_slices_Index_Lapi_Hash_api_Hash (cb_slices_Index_Lapi_Hash_api_Hash L) 0 L cbabaa_slices_Index_Lapi_Hash_api_Hash) mbaba_slices_Index_Lapi_Hash_api_Hash n σ K) K).trans ?_
    simp only [ih]
    rfl
def R_slices_Index_Lapi_Hash_api_Hash {β : Type} (L : Nat) (p0 : List (List V)) (p1 : List V) (k_fin : Int → Option β) : Option β :=
 e_slices_Index_Lapi_Hash_api_Hash L p0 p1 (fun p0 p7 p8 b3 => lbaba_slices_Index_Lapi_Hash_api_Hash L (fun p4 => rbabaret_slices_Index_Lapi_Hash_api_Hash L p4 k_fin) (rbabax0_slices_Index_Lapi_Hash_api_Hash L k_fin) L p0 p7 p8 b3)
theorem R_slices_Index_Lapi_Hash_api_Hash_ok {β : Type} (L : Nat) (p0 : List (List V)) (p1 : List V) (k : V → Bor → Option β) : funC sh_slices_Index_Lapi_Hash_api_Hash (cb_slices_Index_Lapi_Hash_api_Hash L) L cf_slices_Index_Lapi_Hash_api_Hash [(V.sl 32 p0), (V.agg p1)] [] k = R_slices_Index_Lapi_Hash_api_Hash L p0 p1 (fun p0 => k (V.sc (.int .i64 p0)) []) := by
  refine (e_slices_Index_Lapi_Hash_api_Hash_ok L p0 p1 k).trans ?_
  unfold R_slices_Index_Lapi_Hash_api_Hash
  simp only [lbaba_slices_Index_Lapi_Hash_api_Hash_ok, rbabaret_slices_Index_Lapi_Hash_api_Hash_ok, rbabax0_slices_Index_Lapi_Hash_api_Hash_ok]
abbrev T_slices_Index_Lapi_Hash_api_Hash := ∀ (β : Type), Nat → List (List V) → List V → (Int → Option β) → Option β
def F_slices_Index_Lapi_Hash_api_Hash (β : Type) (L : Nat) (p0 : List (List V)) (p1 : List V) (k_fin : Int → Option β) : Option β := R_slices_Index_Lapi_Hash_api_Hash L p0 p1 k_fin
def d_slices_Index_Lapi_Hash_api_Hash (F_slices_Index_Lapi_Hash_api_Hash : T_slices_Index_Lapi_Hash_api_Hash) (L : Nat) (β : Type) (args : List V) (bor : Bor) (k : V → Bor → Option β) : Option β := match args, bor with
  | [a0, a1], [] => aL 32 a0 fun p0 => aG a1 fun p1 => F_slices_Index_Lapi_Hash_api_Hash β L p0 p1 (fun p0 => k (V.sc (.int .i64 p0)) [])
  | _, _ => none
theorem d_slices_Index_Lapi_Hash_api_Hash_ok (L : Nat) (β : Type) (args : List V) (bor : Bor) (k : V → Bor → Option β) (r : β) (h : d_slices_Index_Lapi_Hash_api_Hash F_slices_Index_Lapi_Hash_api_Hash L β args bor k = some r) : funC sh_slices_Index_Lapi_Hash_api_Hash (cb_slices_Index_Lapi_Hash_api_Hash L) L cf_slices_Index_Lapi_Hash_api_Hash args bor k = some r := by
  unfold d_slices_Index_Lapi_Hash_api_Hash at h
  split at h
  · have q := aL_inv h; clear h; obtain ⟨p0, rfl, h⟩ := q
    have q := aG_inv h; clear h; obtain ⟨p1, rfl, h⟩ := q
    exact (R_slices_Index_Lapi_Hash_api_Hash_ok L p0 p1 k).trans h
  · cases h
/-! slices_Contains_Lapi_Hash_api_Hash : 248 -/
def cf_slices_Contains_Lapi_Hash_api_Hash : CF := ⟨9, [.tmp 4],
 (.seq (.reg [⟨(some 3), false, none, .box true (.tmp 1)⟩,
   ⟨(some 4), false, none, .move (.const (.sc (.bool false))) false⟩])
 (.seq (.reg [⟨(some 5), false, none, .move (.tmp 0) false⟩,
   ⟨(some 6), false, none, .load true 32 (.tmp 3) false⟩,
   ⟨(some 7), false, none, .call 254 [((.tmp 5), 2), ((.tmp 6), 2)] []⟩,
   ⟨(some 8), false, none, .bin .geq (.tmp 7) (.const (.sc (.int .i64 0)))⟩,
   ⟨(some 4), false, none, .move (.tmp 8) false⟩])
 .ret))⟩
def hint_slices_Contains_Lapi_Hash_api_Hash : Hint := ⟨[(1, 2)], [], [none], [], [], false⟩
def sh_slices_Contains_Lapi_Hash_api_Hash : Nat → Sh := shOf []
def cb_slices_Contains_Lapi_Hash_api_Hash (F_slices_Index_Lapi_Hash_api_Hash : T_slices_Index_Lapi_Hash_api_Hash) (L : Nat) : CBC := (addC 254 (d_slices_Index_Lapi_Hash_api_Hash F_slices_Index_Lapi_Hash_api_Hash L) noC)
def R_slices_Contains_Lapi_Hash_api_Hash {β : Type} (F_slices_Index_Lapi_Hash_api_Hash : T_slices_Index_Lapi_Hash_api_Hash) (L : Nat) (p0 : List (List V)) (p1 : List V) (k_fin : Bool → Option β) : Option β :=
 chk (0 + 32 ≤ (List.length p1)) (
 F_slices_Index_Lapi_Hash_api_Hash β L p0 (List.take 32 p1) (fun v0 =>
 k_fin (decide (v0 ≥ (0 : Int)))))
theorem R_slices_Contains_Lapi_Hash_api_Hash_ok {β : Type} (F_slices_Index_Lapi_Hash_api_Hash : T_slices_Index_Lapi_Hash_api_Hash) (L : Nat) (p0 : List (List V)) (p1 : List V) (k : V → Bor → Option β) : funC sh_slices_Contains_Lapi_Hash_api_Hash (cb_slices_Contains_Lapi_Hash_api_Hash F_slices_Index_Lapi_Hash_api_Hash L) L cf_slices_Contains_Lapi_Hash_api_Hash [(V.sl 32 p0), (V.agg p1)] [] k = R_slices_Contains_Lapi_Hash_api_Hash F_slices_Index_Lapi_Hash_api_Hash L p0 p1 (fun p0 => k (V.sc (.bool p0)) []) := by kernel_rfl
abbrev T_slices_Contains_Lapi_Hash_api_Hash := ∀ (β : Type), Nat → List (List V) → List V → (Bool → Option β) → Option β
def F_slices_Contains_Lapi_Hash_api_Hash (β : Type) (L : Nat) (p0 : List (List V)) (p1 : List V) (k_fin : Bool → Option β) : Option β := R_slices_Contains_Lapi_Hash_api_Hash F_slices_Index_Lapi_Hash_api_Hash L p0 p1 k_fin
def d_slices_Contains_Lapi_Hash_api_Hash (F_slices_Contains_Lapi_Hash_api_Hash : T_slices_Contains_Lapi_Hash_api_Hash) (L : Nat) (β : Type) (args : List V) (bor : Bor) (k : V → Bor → Option β) : Option β := match args, bor with
  | [a0, a1], [] => aL 32 a0 fun p0 => aG a1 fun p1 => F_slices_Contains_Lapi_Hash_api_Hash β L p0 p1 (fun p0 => k (V.sc (.bool p0)) [])
  | _, _ => none
theorem d_slices_Contains_Lapi_Hash_api_Hash_ok (L : Nat) (β : Type) (args : List V) (bor : Bor) (k : V → Bor → Option β) (r : β) (h : d_slices_Contains_Lapi_Hash_api_Hash F_slices_Contains_Lapi_Hash_api_Hash L β args bor k = some r) : funC sh_slices_Contains_Lapi_Hash_api_Hash (cb_slices_Contains_Lapi_Hash_api_Hash F_slices_Index_Lapi_Hash_api_Hash L) L cf_slices_Contains_Lapi_Hash_api_Hash args bor k = some r := by
  unfold d_slices_Contains_Lapi_Hash_api_Hash at h
  split at h
  · have q := aL_inv h; clear h; obtain ⟨p0, rfl, h⟩ := q
    have q := aG_inv h; clear h; obtain ⟨p1, rfl, h⟩ := q
    exact (R_slices_Contains_Lapi_Hash_api_Hash_ok F_slices_Index_Lapi_Hash_api_Hash L p0 p1 k).trans h
  · cases h

end Go.Proofs.Ythplooifbkopgaa
