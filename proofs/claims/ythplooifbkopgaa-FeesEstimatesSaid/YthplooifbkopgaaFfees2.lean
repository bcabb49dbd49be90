/- The functions of this seat, as they compute on plain values. Printed by lift2.py. -/
import Derived.Test.YthplooifbkopgaaFfees1
namespace Go.Proofs.Ythplooifbkopgaa
set_option maxRecDepth 100000
set_option linter.unusedVariables false
/-! ref33_find : 251 -/
def cbabaa_ref33_find : CC := (.seq (.seq (.reg [⟨(some 6), false, none, .move (.tmp 5) false⟩,
   ⟨(some 7), false, none, .move (.tmp 0) false⟩,
   ⟨(some 8), false, none, .lenS (.tmp 7)⟩,
   ⟨(some 9), false, none, .bin .lss (.tmp 6) (.tmp 8)⟩])
 (.cond (.tmp 9)
 .skip
 (.seq (.mask [false, false, false, false, false, false, false, false, false, false, false, false, false, false, false, false, false, false, false, false] [true, true, true, true, false, false, true, true, false, true, true, true, true, true, true, true, true, true, true, true])
 (.exit 0))))
 (.seq (.block 1 (.seq (.dreg [] [(⟨(some 12), false, none, .move (.tmp 0) false⟩, false),
   (⟨(some 13), false, none, .move (.tmp 5) false⟩, false),
   (⟨(some 14), false, none, .indexAddrS 35 (.tmp 12) (.tmp 13)⟩, false),
   (⟨(some 15), false, none, .fieldAddr 0 (.tmp 14)⟩, false),
   (⟨(some 16), false, none, .load true 32 (.tmp 15) false⟩, true),
   (⟨(some 17), false, none, .load true 32 (.tmp 3) false⟩, true),
   (⟨(some 18), false, none, .eqAgg false 32 (.tmp 16) (.tmp 17)⟩, false)])
 (.cond (.tmp 18)
 (.seq (.reg [⟨(some 19), false, none, .move (.tmp 5) false⟩,
   ⟨(some 4), false, none, .move (.tmp 19) false⟩])
 (.seq (.mask [false, false, false, false, true, false, false, false, false, false, false, false, false, false, false, false, false, false, false, false] [true, true, true, true, true, false, true, true, false, true, true, true, true, true, true, true, true, true, true, true])
 .ret))
 .skip)))
 (.reg [⟨(some 10), false, none, .move (.tmp 5) false⟩,
   ⟨(some 11), false, none, .bin .add (.tmp 10) (.const (.sc (.int .i64 1)))⟩,
   ⟨(some 5), false, none, .move (.tmp 11) false⟩])))
def cbb_ref33_find : CC := (.seq (.reg [⟨(some 4), false, none, .move (.const (.sc (.int .i64 (-1)))) false⟩])
 .ret)
def cf_ref33_find : CF := ⟨20, [.tmp 4],
 (.seq (.reg [⟨(some 3), false, none, .box true (.tmp 1)⟩,
   ⟨(some 4), false, none, .move (.const (.sc (.int .i64 0))) false⟩])
 (.seq (.seq (.reg [⟨(some 5), false, none, .move (.const (.sc (.int .i64 0))) false⟩])
 (.block 0 (.loop [true, false, false, true, false, true, false, false, false, false, false, false, false, false, false, false, false, false, false, false] [true, true, true, true, false, true, true, true, false, true, true, true, true, true, true, true, true, true, true, true]
 cbabaa_ref33_find)))
 cbb_ref33_find))⟩
def hint_ref33_find : Hint := ⟨[], [], [none, some ([true, false, false, true, false, true, false, false, false, false, false, false, false, false, false, false, false, false, false, false], [true, true, true, true, false, true, true, true, false, true, true, true, true, true, true, true, true, true, true, true]), none, some ([false, false, false, false, false, false, false, false, false, false, false, false, false, false, false, false, false, false, false, false], [true, true, true, true, false, false, true, true, false, true, true, true, true, true, true, true, true, true, true, true]), none, none, some ([false, false, false, false, true, false, false, false, false, false, false, false, false, false, false, false, false, false, false, false], [true, true, true, true, true, false, true, true, false, true, true, true, true, true, true, true, true, true, true, true]), none], []⟩
def sh_ref33_find : Nat → Sh := shOf []
def cb_ref33_find (L : Nat) : CBC := noC
def mbaba_ref33_find : St → St := mask [true, false, false, true, false, true, false, false, false, false, false, false, false, false, false, false, false, false, false, false] [true, true, true, true, false, true, true, true, false, true, true, true, true, true, true, true, true, true, true, true]
def st_hbaba_ref33_find (p0 : List (List V)) (p5 : Int) (b3 : List V) : St := ⟨[(V.sl 35 p0), .junk, .junk, (V.ptr 3 0), .junk, (V.sc (.int .i64 p5)), .junk, .junk, .junk, .junk, .junk, .junk, .junk, .junk, .junk, .junk, .junk, .junk, .junk, .junk], [.gone, .gone, .gone, (.live true b3), .gone, .gone, .gone, .gone, .gone, .gone, .gone, .gone, .gone, .gone, .gone, .gone, .gone, .gone, .gone, .gone]⟩
def st_ret_ref33_find (p4 : Int) (b3 : List V) : St := ⟨[.junk, .junk, .junk, .junk, (V.sc (.int .i64 p4)), .junk, .junk, .junk, .junk, .junk, .junk, .junk, .junk, .junk, .junk, .junk, .junk, .junk, .junk, .junk], [.gone, .gone, .gone, (.live true b3), .gone, .gone, .gone, .gone, .gone, .gone, .gone, .gone, .gone, .gone, .gone, .gone, .gone, .gone, .gone, .gone]⟩
def st_x0_ref33_find (b3 : List V) : St := ⟨[.junk, .junk, .junk, .junk, .junk, .junk, .junk, .junk, .junk, .junk, .junk, .junk, .junk, .junk, .junk, .junk, .junk, .junk, .junk, .junk], [.gone, .gone, .gone, (.live true b3), .gone, .gone, .gone, .gone, .gone, .gone, .gone, .gone, .gone, .gone, .gone, .gone, .gone, .gone, .gone, .gone]⟩
def e_ref33_find {β : Type} (L : Nat) (p0 : List (List V)) (p1 : List V) (k_hbaba : List (List V) → Int → List V → Option β) : Option β :=
 k_hbaba p0 (0 : Int) p1
theorem e_ref33_find_ok {β : Type} (L : Nat) (p0 : List (List V)) (p1 : List V) (k : V → Bor → Option β) : funC sh_ref33_find (cb_ref33_find L) L cf_ref33_find [(V.sl 35 p0), (V.agg p1)] [] k = e_ref33_find L p0 p1 (fun p0 p5 b3 => loopM (runC sh_ref33_find (cb_ref33_find L) 0 L cbabaa_ref33_find) mbaba_ref33_find L (st_hbaba_ref33_find p0 p5 b3) (blockK 0 (seqK (runC sh_ref33_find (cb_ref33_find L) 0 L cbb_ref33_find) (finK 0 (CF.res cf_ref33_find) k)))) := by kernel_rfl
def bbaba_ref33_find {β : Type} (L : Nat) (p0 : List (List V)) (p5 : Int) (b3 : List V) (k_ret : Int → List V → Option β) (k_hbaba : List (List V) → Int → List V → Option β) (k_x0 : List V → Option β) : Option β :=
 ifb (decide (p5 < ((List.length p0 : Nat) : Int))) (
 idx p0 p5 fun c0 =>
 chk (0 + 32 ≤ (List.length b3)) (
 eqC 32 (List.take 32 c0) (List.take 32 b3) fun v1 =>
 ifb v1 (
 k_ret p5 b3) (
 lt (IntKind.wrap .i64 ((p5 : Int) + (1 : Int))) fun x2 =>
 k_hbaba p0 x2 b3))) (
 k_x0 b3)
theorem bbaba_ref33_find_ok {β : Type} (L : Nat) (p0 : List (List V)) (p5 : Int) (b3 : List V) (X : St → Option β) (K : KT β) : runC sh_ref33_find (cb_ref33_find L) 0 L cbabaa_ref33_find (st_hbaba_ref33_find p0 p5 b3) (loopK mbaba_ref33_find X K) = bbaba_ref33_find L p0 p5 b3 (fun p4 b3 => K .ret (st_ret_ref33_find p4 b3)) (fun p0 p5 b3 => X (st_hbaba_ref33_find p0 p5 b3)) (fun b3 => K (.exit 0) (st_x0_ref33_find b3)) := by kernel_rfl
def rbabaret_ref33_find {β : Type} (L : Nat) (p4 : Int) (b3 : List V) (k_fin : Int → Option β) : Option β :=
 k_fin p4
theorem rbabaret_ref33_find_ok {β : Type} (L : Nat) (p4 : Int) (b3 : List V) (k : V → Bor → Option β) : (blockK 0 (seqK (runC sh_ref33_find (cb_ref33_find L) 0 L cbb_ref33_find) (finK 0 (CF.res cf_ref33_find) k))) .ret (st_ret_ref33_find p4 b3) = rbabaret_ref33_find L p4 b3 (fun p0 => k (V.sc (.int .i64 p0)) []) := by kernel_rfl
def rbabax0_ref33_find {β : Type} (L : Nat) (b3 : List V) (k_fin : Int → Option β) : Option β :=
 k_fin (-1 : Int)
theorem rbabax0_ref33_find_ok {β : Type} (L : Nat) (b3 : List V) (k : V → Bor → Option β) : (blockK 0 (seqK (runC sh_ref33_find (cb_ref33_find L) 0 L cbb_ref33_find) (finK 0 (CF.res cf_ref33_find) k))) (.exit 0) (st_x0_ref33_find b3) = rbabax0_ref33_find L b3 (fun p0 => k (V.sc (.int .i64 p0)) []) := by kernel_rfl
def lbaba_ref33_find {β : Type} (L : Nat) (k_ret : Int → List V → Option β) (k_x0 : List V → Option β) : Nat → List (List V) → Int → List V → Option β
  | 0, _, _, _ => none
  | n + 1, p0, p5, b3 => bbaba_ref33_find L p0 p5 b3 k_ret (fun p0 p5 b3 => lbaba_ref33_find L k_ret k_x0 n p0 p5 b3) k_x0
theorem lbaba_ref33_find_ok {β : Type} (L : Nat) (K : KT β) : ∀ (n : Nat) (p0 : List (List V)) (p5 : Int) (b3 : List V), loopM (runC sh_ref33_find (cb_ref33_find L) 0 L cbabaa_ref33_find) mbaba_ref33_find n (st_hbaba_ref33_find p0 p5 b3) K = lbaba_ref33_find L (fun p4 b3 => K .ret (st_ret_ref33_find p4 b3)) (fun b3 => K (.exit 0) (st_x0_ref33_find b3)) n p0 p5 b3 := by
  intro n
  induction n with
  | zero => intros; rfl
  | succ n ih =>
    intro p0 p5 b3
    refine (bbaba_ref33_find_ok L p0 p5 b3 (fun σ => loopM (runC sh_ref33_find (cb_ref33_find L) 0 L cbabaa_ref33_find) mbaba_ref33_find n σ K) K).trans ?_
    simp only [ih]
    rfl
def R_ref33_find {β : Type} (L : Nat) (p0 : List (List V)) (p1 : List V) (k_fin : Int → Option β) : Option β :=
 e_ref33_find L p0 p1 (fun p0 p5 b3 => lbaba_ref33_find L (fun p4 b3 => rbabaret_ref33_find L p4 b3 k_fin) (fun b3 => rbabax0_ref33_find L b3 k_fin) L p0 p5 b3)
theorem R_ref33_find_ok {β : Type} (L : Nat) (p0 : List (List V)) (p1 : List V) (k : V → Bor → Option β) : funC sh_ref33_find (cb_ref33_find L) L cf_ref33_find [(V.sl 35 p0), (V.agg p1)] [] k = R_ref33_find L p0 p1 (fun p0 => k (V.sc (.int .i64 p0)) []) := by
  refine (e_ref33_find_ok L p0 p1 k).trans ?_
  unfold R_ref33_find
  simp only [lbaba_ref33_find_ok, rbabaret_ref33_find_ok, rbabax0_ref33_find_ok]
def F_ref33_find (β : Type) (L : Nat) (p0 : List (List V)) (p1 : List V) (k_fin : Int → Option β) : Option β := R_ref33_find L p0 p1 k_fin
def d_ref33_find (F_ref33_find : ∀ (β : Type), Nat → List (List V) → List V → (Int → Option β) → Option β) (L : Nat) (β : Type) (args : List V) (bor : Bor) (k : V → Bor → Option β) : Option β := match args, bor with
  | [a0, a1], [] => aL 35 a0 fun p0 => aG a1 fun p1 => F_ref33_find β L p0 p1 (fun p0 => k (V.sc (.int .i64 p0)) [])
  | _, _ => none
theorem d_ref33_find_ok (L : Nat) (β : Type) (args : List V) (bor : Bor) (k : V → Bor → Option β) (r : β) (h : d_ref33_find F_ref33_find L β args bor k = some r) : funC sh_ref33_find (cb_ref33_find L) L cf_ref33_find args bor k = some r := by
  unfold d_ref33_find at h
  split at h
  · have q := aL_inv h; clear h; obtain ⟨p0, rfl, h⟩ := q
    have q := aG_inv h; clear h; obtain ⟨p1, rfl, h⟩ := q
    exact (R_ref33_find_ok L p0 p1 k).trans h
  · cases h
/-! ref33_Observe : 237 -/
def cf_ref33_Observe : CF := ⟨38, [.tmp 8, .tmp 9],
 (.seq (.reg [⟨(some 5), false, none, .box true (.tmp 1)⟩,
   ⟨(some 8), false, none, .move (.const (.gs 35 [])) true⟩,
   ⟨(some 9), false, none, .move (.const (.sc (.int .i64 0))) false⟩])
 (.seq (.block 0 (.seq (.reg [⟨(some 11), false, none, .move (.tmp 2) false⟩,
   ⟨(some 12), false, none, .call 223 [((.tmp 11), false)]⟩,
   ⟨(some 13), false, none, .bin .lss (.tmp 12) (.const (.sc (.int .i64 0)))⟩,
   ⟨(some 14), false, none, .move (.tmp 13) false⟩,
   ⟨(some 15), false, (some (14, false)), .move (.tmp 3) false⟩,
   ⟨(some 16), false, (some (14, false)), .call 242 [((.tmp 15), false), ((.const (.sc (.int .i64 1))), false), ((.const (.sc (.int .i64 16777216))), false)]⟩,
   ⟨(some 17), false, (some (14, false)), .un .not (.tmp 16)⟩,
   ⟨(some 18), false, none, .pick (.tmp 14) (.const (.sc (.bool true))) (.tmp 17)⟩,
   ⟨(some 10), false, none, .move (.tmp 18) false⟩])
 (.cond (.tmp 10)
 (.seq (.reg [⟨(some 8), false, none, .move (.const (.gs 35 [])) true⟩,
   ⟨(some 9), false, none, .move (.const (.sc (.int .i64 5))) false⟩])
 .ret)
 (.seq (.reg [⟨(some 20), false, none, .move (.tmp 0) false⟩,
   ⟨(some 21), false, none, .load true 32 (.tmp 5) false⟩,
   ⟨(some 22), false, none, .call 251 [((.tmp 20), false), ((.tmp 21), false)]⟩,
   ⟨(some 23), false, none, .bin .geq (.tmp 22) (.const (.sc (.int .i64 0)))⟩,
   ⟨(some 19), false, none, .move (.tmp 23) false⟩])
 (.cond (.tmp 19)
 (.seq (.reg [⟨(some 8), false, none, .move (.const (.gs 35 [])) true⟩,
   ⟨(some 9), false, none, .move (.const (.sc (.int .i64 150))) false⟩])
 .ret)
 (.seq (.reg [⟨(some 25), false, none, .move (.tmp 0) false⟩,
   ⟨(some 26), false, none, .lenS (.tmp 25)⟩,
   ⟨(some 27), false, none, .bin .geq (.tmp 26) (.const (.sc (.int .i64 2048)))⟩,
   ⟨(some 24), false, none, .move (.tmp 27) false⟩])
 (.cond (.tmp 24)
 (.seq (.reg [⟨(some 8), false, none, .move (.const (.gs 35 [])) true⟩,
   ⟨(some 9), false, none, .move (.const (.sc (.int .i64 380))) false⟩])
 .ret)
 .skip)))))))
 (.seq (.dreg [] [(⟨(some 28), false, none, .buildSlice 35 0 [(.sc (.int .u8 0)), (.sc (.int .u8 0)), (.sc (.int .u8 0)), (.sc (.int .u8 0)), (.sc (.int .u8 0)), (.sc (.int .u8 0)), (.sc (.int .u8 0)), (.sc (.int .u8 0)), (.sc (.int .u8 0)), (.sc (.int .u8 0)), (.sc (.int .u8 0)), (.sc (.int .u8 0)), (.sc (.int .u8 0)), (.sc (.int .u8 0)), (.sc (.int .u8 0)), (.sc (.int .u8 0)), (.sc (.int .u8 0)), (.sc (.int .u8 0)), (.sc (.int .u8 0)), (.sc (.int .u8 0)), (.sc (.int .u8 0)), (.sc (.int .u8 0)), (.sc (.int .u8 0)), (.sc (.int .u8 0)), (.sc (.int .u8 0)), (.sc (.int .u8 0)), (.sc (.int .u8 0)), (.sc (.int .u8 0)), (.sc (.int .u8 0)), (.sc (.int .u8 0)), (.sc (.int .u8 0)), (.sc (.int .u8 0)), (.sc (.int .i64 0)), (.sc (.int .i64 0)), (.sc (.int .i64 0))] []⟩, true),
   (⟨(some 29), false, none, .move (.tmp 0) true⟩, true),
   (⟨(some 30), false, none, .append 35 56 (.tmp 28) (.tmp 29)⟩, true),
   (⟨(some 31), false, none, .load true 32 (.tmp 5) false⟩, true),
   (⟨(some 32), false, none, .move (.tmp 2) false⟩, false),
   (⟨(some 33), false, none, .call 223 [((.tmp 32), false)]⟩, true),
   (⟨(some 34), false, none, .move (.tmp 3) false⟩, false),
   (⟨(some 35), false, none, .build [(.sc (.int .u8 0)), (.sc (.int .u8 0)), (.sc (.int .u8 0)), (.sc (.int .u8 0)), (.sc (.int .u8 0)), (.sc (.int .u8 0)), (.sc (.int .u8 0)), (.sc (.int .u8 0)), (.sc (.int .u8 0)), (.sc (.int .u8 0)), (.sc (.int .u8 0)), (.sc (.int .u8 0)), (.sc (.int .u8 0)), (.sc (.int .u8 0)), (.sc (.int .u8 0)), (.sc (.int .u8 0)), (.sc (.int .u8 0)), (.sc (.int .u8 0)), (.sc (.int .u8 0)), (.sc (.int .u8 0)), (.sc (.int .u8 0)), (.sc (.int .u8 0)), (.sc (.int .u8 0)), (.sc (.int .u8 0)), (.sc (.int .u8 0)), (.sc (.int .u8 0)), (.sc (.int .u8 0)), (.sc (.int .u8 0)), (.sc (.int .u8 0)), (.sc (.int .u8 0)), (.sc (.int .u8 0)), (.sc (.int .u8 0)), (.sc (.int .i64 0)), (.sc (.int .i64 0)), (.sc (.int .i64 0))] [(0, 32, (.tmp 31)), (32, 1, (.tmp 33)), (33, 1, (.tmp 34))]⟩, false),
   (⟨(some 36), false, none, .buildSlice 35 1 [(.sc (.int .u8 0)), (.sc (.int .u8 0)), (.sc (.int .u8 0)), (.sc (.int .u8 0)), (.sc (.int .u8 0)), (.sc (.int .u8 0)), (.sc (.int .u8 0)), (.sc (.int .u8 0)), (.sc (.int .u8 0)), (.sc (.int .u8 0)), (.sc (.int .u8 0)), (.sc (.int .u8 0)), (.sc (.int .u8 0)), (.sc (.int .u8 0)), (.sc (.int .u8 0)), (.sc (.int .u8 0)), (.sc (.int .u8 0)), (.sc (.int .u8 0)), (.sc (.int .u8 0)), (.sc (.int .u8 0)), (.sc (.int .u8 0)), (.sc (.int .u8 0)), (.sc (.int .u8 0)), (.sc (.int .u8 0)), (.sc (.int .u8 0)), (.sc (.int .u8 0)), (.sc (.int .u8 0)), (.sc (.int .u8 0)), (.sc (.int .u8 0)), (.sc (.int .u8 0)), (.sc (.int .u8 0)), (.sc (.int .u8 0)), (.sc (.int .i64 0)), (.sc (.int .i64 0)), (.sc (.int .i64 0))] [(0, 35, (.tmp 35))]⟩, false),
   (⟨(some 37), false, none, .append 35 56 (.tmp 30) (.tmp 36)⟩, false),
   (⟨(some 8), false, none, .move (.tmp 37) true⟩, false),
   (⟨(some 9), false, none, .move (.const (.sc (.int .i64 0))) false⟩, false)])
 .ret)))⟩
def hint_ref33_Observe : Hint := ⟨[(0, 1), (2, 0), (4, 0), (6, 0), (7, 1), (7, 10)], [], [none, none, none, none, none, none, none, none], []⟩
def sh_ref33_Observe : Nat → Sh := shOf []
def cb_ref33_Observe (F_ref33_Class : ∀ (β : Type), Nat → Int → (Int → Option β) → Option β) (F_ref33_in : ∀ (β : Type), Nat → Int → Int → Int → (Bool → Option β) → Option β) (F_ref33_find : ∀ (β : Type), Nat → List (List V) → List V → (Int → Option β) → Option β) (L : Nat) : CBC := (addC 251 (d_ref33_find F_ref33_find L) (addC 242 (d_ref33_in F_ref33_in L) (addC 223 (d_ref33_Class F_ref33_Class L) noC)))
def R_ref33_Observe {β : Type} (F_ref33_Class : ∀ (β : Type), Nat → Int → (Int → Option β) → Option β) (F_ref33_in : ∀ (β : Type), Nat → Int → Int → Int → (Bool → Option β) → Option β) (F_ref33_find : ∀ (β : Type), Nat → List (List V) → List V → (Int → Option β) → Option β) (L : Nat) (p0 : List (List V)) (p1 : List V) (p2 : Int) (p3 : Int) (k_fin : List (List V) → Int → Option β) : Option β :=
 F_ref33_Class β L p2 (fun v0 =>
 ifb (decide (v0 < (0 : Int))) (
 k_fin ([] : List (List V)) (5 : Int)) (
 F_ref33_in β L p3 (1 : Int) (16777216 : Int) (fun v1 =>
 ifb (!v1) (
 k_fin ([] : List (List V)) (5 : Int)) (
 chk (0 + 32 ≤ (List.length p1)) (
 F_ref33_find β L p0 (List.take 32 p1) (fun v2 =>
 ifb (decide (v2 ≥ (0 : Int))) (
 k_fin ([] : List (List V)) (150 : Int)) (
 ifb (decide (((List.length p0 : Nat) : Int) ≥ (2048 : Int))) (
 k_fin ([] : List (List V)) (380 : Int)) (
 chk ((List.length ([] : List (List V)) + List.length p0) * 56 ≤ sizeCap ∧ List.length ([] : List (List V)) + List.length p0 ≤ sizeCap) (
 lt (([] : List (List V)) ++ p0) fun l3 =>
 chk (0 + 32 ≤ (List.length p1)) (
 F_ref33_Class β L p2 (fun v4 =>
 chk ((List.length (List.take 32 p1)) = 32 ∧ 0 + 32 ≤ 35) (
 chk (1 = 1 ∧ 32 + 1 ≤ (List.length (setAt (List.replicate 32 (V.sc (.int .u8 (0 : Int))) ++ [(V.sc (.int .i64 (0 : Int))), (V.sc (.int .i64 (0 : Int))), (V.sc (.int .i64 (0 : Int)))]) 0 (List.take 32 p1)))) (
 chk (1 = 1 ∧ 33 + 1 ≤ (List.length (setAt (setAt (List.replicate 32 (V.sc (.int .u8 (0 : Int))) ++ [(V.sc (.int .i64 (0 : Int))), (V.sc (.int .i64 (0 : Int))), (V.sc (.int .i64 (0 : Int)))]) 0 (List.take 32 p1)) 32 [(V.sc (.int .i64 v4))]))) (
 chk ((List.length (setAt (setAt (setAt (List.replicate 32 (V.sc (.int .u8 (0 : Int))) ++ [(V.sc (.int .i64 (0 : Int))), (V.sc (.int .i64 (0 : Int))), (V.sc (.int .i64 (0 : Int)))]) 0 (List.take 32 p1)) 32 [(V.sc (.int .i64 v4))]) 33 [(V.sc (.int .i64 p3))])) = 35 ∧ 0 + 35 ≤ 35) (
 chk ((List.length l3 + List.length (chunks 35 1 (setAt (List.replicate 32 (V.sc (.int .u8 (0 : Int))) ++ [(V.sc (.int .i64 (0 : Int))), (V.sc (.int .i64 (0 : Int))), (V.sc (.int .i64 (0 : Int)))]) 0 (setAt (setAt (setAt (List.replicate 32 (V.sc (.int .u8 (0 : Int))) ++ [(V.sc (.int .i64 (0 : Int))), (V.sc (.int .i64 (0 : Int))), (V.sc (.int .i64 (0 : Int)))]) 0 (List.take 32 p1)) 32 [(V.sc (.int .i64 v4))]) 33 [(V.sc (.int .i64 p3))])))) * 56 ≤ sizeCap ∧ List.length l3 + List.length (chunks 35 1 (setAt (List.replicate 32 (V.sc (.int .u8 (0 : Int))) ++ [(V.sc (.int .i64 (0 : Int))), (V.sc (.int .i64 (0 : Int))), (V.sc (.int .i64 (0 : Int)))]) 0 (setAt (setAt (setAt (List.replicate 32 (V.sc (.int .u8 (0 : Int))) ++ [(V.sc (.int .i64 (0 : Int))), (V.sc (.int .i64 (0 : Int))), (V.sc (.int .i64 (0 : Int)))]) 0 (List.take 32 p1)) 32 [(V.sc (.int .i64 v4))]) 33 [(V.sc (.int .i64 p3))]))) ≤ sizeCap) (
 lt (l3 ++ (chunks 35 1 (setAt (List.replicate 32 (V.sc (.int .u8 (0 : Int))) ++ [(V.sc (.int .i64 (0 : Int))), (V.sc (.int .i64 (0 : Int))), (V.sc (.int .i64 (0 : Int)))]) 0 (setAt (setAt (setAt (List.replicate 32 (V.sc (.int .u8 (0 : Int))) ++ [(V.sc (.int .i64 (0 : Int))), (V.sc (.int .i64 (0 : Int))), (V.sc (.int .i64 (0 : Int)))]) 0 (List.take 32 p1)) 32 [(V.sc (.int .i64 v4))]) 33 [(V.sc (.int .i64 p3))])))) fun l5 =>
 k_fin l5 (0 : Int)))))))))))))))))
theorem R_ref33_Observe_ok {β : Type} (F_ref33_Class : ∀ (β : Type), Nat → Int → (Int → Option β) → Option β) (F_ref33_in : ∀ (β : Type), Nat → Int → Int → Int → (Bool → Option β) → Option β) (F_ref33_find : ∀ (β : Type), Nat → List (List V) → List V → (Int → Option β) → Option β) (L : Nat) (p0 : List (List V)) (p1 : List V) (p2 : Int) (p3 : Int) (k : V → Bor → Option β) : funC sh_ref33_Observe (cb_ref33_Observe F_ref33_Class F_ref33_in F_ref33_find L) L cf_ref33_Observe [(V.sl 35 p0), (V.agg p1), (V.sc (.int .i64 p2)), (V.sc (.int .i64 p3))] [] k = R_ref33_Observe F_ref33_Class F_ref33_in F_ref33_find L p0 p1 p2 p3 (fun p0_0 p0_1 => k (V.tup [(V.gs 35 p0_0), (V.sc (.int .i64 p0_1))]) []) := by kernel_rfl
def F_ref33_Observe (β : Type) (L : Nat) (p0 : List (List V)) (p1 : List V) (p2 : Int) (p3 : Int) (k_fin : List (List V) → Int → Option β) : Option β := R_ref33_Observe F_ref33_Class F_ref33_in F_ref33_find L p0 p1 p2 p3 k_fin
def d_ref33_Observe (F_ref33_Observe : ∀ (β : Type), Nat → List (List V) → List V → Int → Int → (List (List V) → Int → Option β) → Option β) (L : Nat) (β : Type) (args : List V) (bor : Bor) (k : V → Bor → Option β) : Option β := match args, bor with
  | [a0, a1, a2, a3], [] => aL 35 a0 fun p0 => aG a1 fun p1 => aI .i64 a2 fun p2 => aI .i64 a3 fun p3 => F_ref33_Observe β L p0 p1 p2 p3 (fun p0_0 p0_1 => k (V.tup [(V.gs 35 p0_0), (V.sc (.int .i64 p0_1))]) [])
  | _, _ => none
theorem d_ref33_Observe_ok (L : Nat) (β : Type) (args : List V) (bor : Bor) (k : V → Bor → Option β) (r : β) (h : d_ref33_Observe F_ref33_Observe L β args bor k = some r) : funC sh_ref33_Observe (cb_ref33_Observe F_ref33_Class F_ref33_in F_ref33_find L) L cf_ref33_Observe args bor k = some r := by
  unfold d_ref33_Observe at h
  split at h
  · have q := aL_inv h; clear h; obtain ⟨p0, rfl, h⟩ := q
    have q := aG_inv h; clear h; obtain ⟨p1, rfl, h⟩ := q
    have q := aI_inv h; clear h; obtain ⟨p2, rfl, h⟩ := q
    have q := aI_inv h; clear h; obtain ⟨p3, rfl, h⟩ := q
    exact (R_ref33_Observe_ok F_ref33_Class F_ref33_in F_ref33_find L p0 p1 p2 p3 k).trans h
  · cases h
/-! law33_samples : 224 -/
def cbbabaa_law33_samples : CC := (.seq (.seq (.reg [⟨(some 9), false, none, .move (.tmp 4) false⟩,
   ⟨(some 10), false, none, .bin .gtr (.tmp 9) (.const (.sc (.int .i64 0)))⟩])
 (.cond (.tmp 10)
 .skip
 (.seq (.mask [false, false, false, true, false, false, false, false, false, false, false, false, false, false, false, false, false, false, false, false, false, false, false, false, false, false, false, false, false, false, false, false, false, false, false, false, false, false, false, false, false] [true, true, true, true, true, false, false, false, true, true, true, true, true, true, true, false, true, true, true, false, true, false, true, true, false, true, false, false, false, true, true, true, false, true, true, true, false, true, false, true, false, true])
 (.exit 0))))
 (.seq (.block 1 (.seq (.reg [⟨(some 13), false, none, .move (.tmp 0) false⟩,
   ⟨(some 14), false, none, .call 231 [((.tmp 13), false), ((.const (.sc (.int .i64 4))), false)]⟩])
 (.block 2 (.seq (.reg [⟨(some 32), false, none, .bin .eql (.tmp 14) (.const (.sc (.int .i64 0)))⟩,
   ⟨(some 31), false, none, .move (.tmp 32) false⟩])
 (.cond (.tmp 31)
 (.reg [⟨(some 33), false, none, .move (.tmp 3) true⟩,
   ⟨(some 34), false, none, .move (.tmp 0) false⟩,
   ⟨(some 35), false, none, .call 233 [((.tmp 34), false), ((.const (.sc (.int .i64 4))), false)]⟩,
   ⟨(some 36), false, none, .move (.tmp 0) false⟩,
   ⟨(some 37), false, none, .call 231 [((.tmp 36), false), ((.const (.sc (.int .i64 20))), false)]⟩,
   ⟨(some 38), false, none, .bin .add (.const (.sc (.int .i64 1))) (.tmp 37)⟩,
   ⟨(some 39), false, none, .call 238 [((.tmp 33), false), ((.tmp 35), false), ((.tmp 38), false)]⟩,
   ⟨(some 3), false, none, .move (.tmp 39) true⟩])
 (.seq (.reg [⟨(some 16), false, none, .move (.tmp 3) false⟩,
   ⟨(some 17), false, none, .move (.tmp 0) false⟩,
   ⟨(some 18), false, none, .call 236 [((.tmp 17), false)]⟩,
   ⟨(some 19), false, none, .move (.tmp 0) false⟩,
   ⟨(some 20), false, none, .call 231 [((.tmp 19), false), ((.const (.sc (.int .i64 60))), false)]⟩,
   ⟨(some 21), false, none, .bin .add (.const (.sc (.int .i64 10))) (.tmp 20)⟩,
   ⟨(some 22), false, none, .move (.tmp 0) false⟩,
   ⟨(some 23), false, none, .call 231 [((.tmp 22), false), ((.const (.sc (.int .i64 15))), false)]⟩,
   ⟨(some 24), false, none, .bin .add (.const (.sc (.int .i64 1))) (.tmp 23)⟩,
   ⟨(some 25), false, none, .call 237 [((.tmp 16), false), ((.tmp 18), false), ((.tmp 21), false), ((.tmp 24), false)]⟩,
   ⟨(some 15), false, none, .move (.tmp 25) true⟩,
   ⟨(some 26), false, none, .extract (.tmp 15) 0⟩,
   ⟨(some 27), false, none, .pull (.tmp 15) 1⟩,
   ⟨(some 5), false, none, .move (.tmp 26) true⟩,
   ⟨(some 6), false, none, .move (.tmp 27) false⟩])
 (.seq (.reg [⟨(some 28), false, none, .move (.tmp 6) false⟩,
   ⟨(some 29), false, none, .bin .eql (.tmp 28) (.const (.sc (.int .i64 0)))⟩])
 (.cond (.tmp 29)
 (.reg [⟨(some 30), false, none, .move (.tmp 5) true⟩,
   ⟨(some 3), false, none, .move (.tmp 30) true⟩])
 .skip))))))))
 (.reg [⟨(some 11), false, none, .move (.tmp 4) false⟩,
   ⟨(some 12), false, none, .bin .sub (.tmp 11) (.const (.sc (.int .i64 1)))⟩,
   ⟨(some 4), false, none, .move (.tmp 12) false⟩])))
def cbbb_law33_samples : CC := (.seq (.reg [⟨(some 40), false, none, .move (.tmp 3) true⟩,
   ⟨(some 2), false, none, .move (.tmp 40) true⟩])
 .ret)
def cf_law33_samples : CF := ⟨41, [.tmp 2],
 (.seq (.reg [⟨(some 2), false, none, .move (.const (.gs 35 [])) true⟩])
 (.seq (.reg [⟨(some 3), false, none, .move (.const (.gs 35 [])) true⟩])
 (.seq (.seq (.reg [⟨(some 7), false, none, .move (.tmp 0) false⟩,
   ⟨(some 8), false, none, .call 231 [((.tmp 7), false), ((.const (.sc (.int .i64 20))), false)]⟩,
   ⟨(some 4), false, none, .move (.tmp 8) false⟩])
 (.block 0 (.loop [true, false, false, true, true, false, false, false, false, false, false, false, false, false, false, false, false, false, false, false, false, false, false, false, false, false, false, false, false, false, false, false, false, false, false, false, false, false, false, false, false] [true, true, true, true, true, true, false, false, true, true, true, true, true, true, true, false, true, true, true, false, true, false, true, true, false, true, false, false, false, true, true, true, false, true, true, true, false, true, false, true, false, true]
 cbbabaa_law33_samples)))
 cbbb_law33_samples)))⟩
def hint_law33_samples : Hint := ⟨[(0, 0), (1, 0), (10, 0), (10, 7), (6, 10), (6, 11), (6, 13), (8, 0), (8, 1), (11, 0), (11, 1)], [], [none, some ([true, false, false, true, true, false, false, false, false, false, false, false, false, false, false, false, false, false, false, false, false, false, false, false, false, false, false, false, false, false, false, false, false, false, false, false, false, false, false, false, false], [true, true, true, true, true, true, false, false, true, true, true, true, true, true, true, false, true, true, true, false, true, false, true, true, false, true, false, false, false, true, true, true, false, true, true, true, false, true, false, true, false, true]), none, some ([false, false, false, true, false, false, false, false, false, false, false, false, false, false, false, false, false, false, false, false, false, false, false, false, false, false, false, false, false, false, false, false, false, false, false, false, false, false, false, false, false], [true, true, true, true, true, false, false, false, true, true, true, true, true, true, true, false, true, true, true, false, true, false, true, true, false, true, false, false, false, true, true, true, false, true, true, true, false, true, false, true, false, true]), none, none, none, none, none], []⟩
def sh_law33_samples : Nat → Sh := shOf []
def cb_law33_samples (F_mill_Deck_Next : ∀ (β : Type), Nat → Int → List (List V) → Int → (Int → List (List V) → Int → Option β) → Option β) (F_mill_Hashes : ∀ (β : Type), Nat → Int → List (List V) → Int → (List (List V) → List (List V) → Int → Option β) → Option β) (F_ref33_Confirm : ∀ (β : Type), Nat → List (List V) → List (List V) → Int → (List (List V) → Option β) → (List (List V) → Option β) → Option β) (F_mill_Hash : ∀ (β : Type), Nat → List (List V) → Int → (List V → List (List V) → Int → Option β) → Option β) (F_ref33_Observe : ∀ (β : Type), Nat → List (List V) → List V → Int → Int → (List (List V) → Int → Option β) → Option β) (L : Nat) : CBC := (addC 237 (d_ref33_Observe F_ref33_Observe L) (addC 236 (d_mill_Hash F_mill_Hash L) (addC 238 (d_ref33_Confirm F_ref33_Confirm L) (addC 233 (d_mill_Hashes F_mill_Hashes L) (addC 231 (d_mill_Deck_Next F_mill_Deck_Next L) noC)))))
def mbbaba_law33_samples : St → St := mask [true, false, false, true, true, false, false, false, false, false, false, false, false, false, false, false, false, false, false, false, false, false, false, false, false, false, false, false, false, false, false, false, false, false, false, false, false, false, false, false, false] [true, true, true, true, true, true, false, false, true, true, true, true, true, true, true, false, true, true, true, false, true, false, true, true, false, true, false, false, false, true, true, true, false, true, true, true, false, true, false, true, false, true]
def st_hbbaba_law33_samples (p3 : List (List V)) (p4 : Int) (b0_0 : List (List V)) (b0_1 : Int) : St := ⟨[(V.ptr 0 0), .junk, .junk, (V.gs 35 p3), (V.sc (.int .i64 p4)), .junk, .junk, .junk, .junk, .junk, .junk, .junk, .junk, .junk, .junk, .junk, .junk, .junk, .junk, .junk, .junk, .junk, .junk, .junk, .junk, .junk, .junk, .junk, .junk, .junk, .junk, .junk, .junk, .junk, .junk, .junk, .junk, .junk, .junk, .junk, .junk], [(.live false [(V.sl 1 b0_0), (V.sc (.int .i64 b0_1))]), .gone, .gone, .gone, .gone, .gone, .gone, .gone, .gone, .gone, .gone, .gone, .gone, .gone, .gone, .gone, .gone, .gone, .gone, .gone, .gone, .gone, .gone, .gone, .gone, .gone, .gone, .gone, .gone, .gone, .gone, .gone, .gone, .gone, .gone, .gone, .gone, .gone, .gone, .gone, .gone, .gone]⟩
def st_x0_law33_samples (p3 : List (List V)) (b0_0 : List (List V)) (b0_1 : Int) : St := ⟨[.junk, .junk, .junk, (V.gs 35 p3), .junk, .junk, .junk, .junk, .junk, .junk, .junk, .junk, .junk, .junk, .junk, .junk, .junk, .junk, .junk, .junk, .junk, .junk, .junk, .junk, .junk, .junk, .junk, .junk, .junk, .junk, .junk, .junk, .junk, .junk, .junk, .junk, .junk, .junk, .junk, .junk, .junk], [(.live false [(V.sl 1 b0_0), (V.sc (.int .i64 b0_1))]), .gone, .gone, .gone, .gone, .gone, .gone, .gone, .gone, .gone, .gone, .gone, .gone, .gone, .gone, .gone, .gone, .gone, .gone, .gone, .gone, .gone, .gone, .gone, .gone, .gone, .gone, .gone, .gone, .gone, .gone, .gone, .gone, .gone, .gone, .gone, .gone, .gone, .gone, .gone, .gone, .gone]⟩
def e_law33_samples {β : Type} (F_mill_Deck_Next : ∀ (β : Type), Nat → Int → List (List V) → Int → (Int → List (List V) → Int → Option β) → Option β) (F_mill_Hashes : ∀ (β : Type), Nat → Int → List (List V) → Int → (List (List V) → List (List V) → Int → Option β) → Option β) (F_ref33_Confirm : ∀ (β : Type), Nat → List (List V) → List (List V) → Int → (List (List V) → Option β) → (List (List V) → Option β) → Option β) (F_mill_Hash : ∀ (β : Type), Nat → List (List V) → Int → (List V → List (List V) → Int → Option β) → Option β) (F_ref33_Observe : ∀ (β : Type), Nat → List (List V) → List V → Int → Int → (List (List V) → Int → Option β) → Option β) (L : Nat) (b0_0 : List (List V)) (b0_1 : Int) (k_hbbaba : List (List V) → Int → List (List V) → Int → Option β) : Option β :=
 F_mill_Deck_Next β L (20 : Int) b0_0 b0_1 (fun v0 v1 v2 =>
 k_hbbaba ([] : List (List V)) v0 v1 v2)
theorem e_law33_samples_ok {β : Type} (F_mill_Deck_Next : ∀ (β : Type), Nat → Int → List (List V) → Int → (Int → List (List V) → Int → Option β) → Option β) (F_mill_Hashes : ∀ (β : Type), Nat → Int → List (List V) → Int → (List (List V) → List (List V) → Int → Option β) → Option β) (F_ref33_Confirm : ∀ (β : Type), Nat → List (List V) → List (List V) → Int → (List (List V) → Option β) → (List (List V) → Option β) → Option β) (F_mill_Hash : ∀ (β : Type), Nat → List (List V) → Int → (List V → List (List V) → Int → Option β) → Option β) (F_ref33_Observe : ∀ (β : Type), Nat → List (List V) → List V → Int → Int → (List (List V) → Int → Option β) → Option β) (L : Nat) (b0_0 : List (List V)) (b0_1 : Int) (k : V → Bor → Option β) : funC sh_law33_samples (cb_law33_samples F_mill_Deck_Next F_mill_Hashes F_ref33_Confirm F_mill_Hash F_ref33_Observe L) L cf_law33_samples [(V.ptr 0 0)] [(false, [(V.sl 1 b0_0), (V.sc (.int .i64 b0_1))])] k = e_law33_samples F_mill_Deck_Next F_mill_Hashes F_ref33_Confirm F_mill_Hash F_ref33_Observe L b0_0 b0_1 (fun p3 p4 b0_0 b0_1 => loopM (runC sh_law33_samples (cb_law33_samples F_mill_Deck_Next F_mill_Hashes F_ref33_Confirm F_mill_Hash F_ref33_Observe L) 1 L cbbabaa_law33_samples) mbbaba_law33_samples L (st_hbbaba_law33_samples p3 p4 b0_0 b0_1) (blockK 0 (seqK (runC sh_law33_samples (cb_law33_samples F_mill_Deck_Next F_mill_Hashes F_ref33_Confirm F_mill_Hash F_ref33_Observe L) 1 L cbbb_law33_samples) (finK 1 (CF.res cf_law33_samples) k)))) := by kernel_rfl
def bbbaba_law33_samples {β : Type} (F_mill_Deck_Next : ∀ (β : Type), Nat → Int → List (List V) → Int → (Int → List (List V) → Int → Option β) → Option β) (F_mill_Hashes : ∀ (β : Type), Nat → Int → List (List V) → Int → (List (List V) → List (List V) → Int → Option β) → Option β) (F_ref33_Confirm : ∀ (β : Type), Nat → List (List V) → List (List V) → Int → (List (List V) → Option β) → (List (List V) → Option β) → Option β) (F_mill_Hash : ∀ (β : Type), Nat → List (List V) → Int → (List V → List (List V) → Int → Option β) → Option β) (F_ref33_Observe : ∀ (β : Type), Nat → List (List V) → List V → Int → Int → (List (List V) → Int → Option β) → Option β) (L : Nat) (p3 : List (List V)) (p4 : Int) (b0_0 : List (List V)) (b0_1 : Int) (k_hbbaba : List (List V) → Int → List (List V) → Int → Option β) (k_x0 : List (List V) → List (List V) → Int → Option β) : Option β :=
 ifb (decide (p4 > (0 : Int))) (
 F_mill_Deck_Next β L (4 : Int) b0_0 b0_1 (fun v3 v4 v5 =>
 ifb ((v3 : Int) == (0 : Int)) (
 F_mill_Hashes β L (4 : Int) v4 v5 (fun v6 v7 v8 =>
 F_mill_Deck_Next β L (20 : Int) v7 v8 (fun v9 v10 v11 =>
 lt (IntKind.wrap .i64 (((1 : Int) : Int) + v9)) fun x12 =>
 F_ref33_Confirm β L p3 v6 x12 (fun v13 =>
 lt (IntKind.wrap .i64 ((p4 : Int) - (1 : Int))) fun x14 =>
 k_hbbaba v13 x14 v10 v11) (fun v15 =>
 lt (IntKind.wrap .i64 ((p4 : Int) - (1 : Int))) fun x16 =>
 k_hbbaba v15 x16 v10 v11)))) (
 F_mill_Hash β L v4 v5 (fun v17 v18 v19 =>
 F_mill_Deck_Next β L (60 : Int) v18 v19 (fun v20 v21 v22 =>
 lt (IntKind.wrap .i64 (((10 : Int) : Int) + v20)) fun x23 =>
 F_mill_Deck_Next β L (15 : Int) v21 v22 (fun v24 v25 v26 =>
 lt (IntKind.wrap .i64 (((1 : Int) : Int) + v24)) fun x27 =>
 F_ref33_Observe β L p3 v17 x23 x27 (fun v28 v29 =>
 ifb ((v29 : Int) == (0 : Int)) (
 lt (IntKind.wrap .i64 ((p4 : Int) - (1 : Int))) fun x30 =>
 k_hbbaba v28 x30 v25 v26) (
 lt (IntKind.wrap .i64 ((p4 : Int) - (1 : Int))) fun x31 =>
 k_hbbaba p3 x31 v25 v26)))))))) (
 k_x0 p3 b0_0 b0_1)
theorem bbbaba_law33_samples_ok {β : Type} (F_mill_Deck_Next : ∀ (β : Type), Nat → Int → List (List V) → Int → (Int → List (List V) → Int → Option β) → Option β) (F_mill_Hashes : ∀ (β : Type), Nat → Int → List (List V) → Int → (List (List V) → List (List V) → Int → Option β) → Option β) (F_ref33_Confirm : ∀ (β : Type), Nat → List (List V) → List (List V) → Int → (List (List V) → Option β) → (List (List V) → Option β) → Option β) (F_mill_Hash : ∀ (β : Type), Nat → List (List V) → Int → (List V → List (List V) → Int → Option β) → Option β) (F_ref33_Observe : ∀ (β : Type), Nat → List (List V) → List V → Int → Int → (List (List V) → Int → Option β) → Option β) (L : Nat) (p3 : List (List V)) (p4 : Int) (b0_0 : List (List V)) (b0_1 : Int) (X : St → Option β) (K : KT β) : runC sh_law33_samples (cb_law33_samples F_mill_Deck_Next F_mill_Hashes F_ref33_Confirm F_mill_Hash F_ref33_Observe L) 1 L cbbabaa_law33_samples (st_hbbaba_law33_samples p3 p4 b0_0 b0_1) (loopK mbbaba_law33_samples X K) = bbbaba_law33_samples F_mill_Deck_Next F_mill_Hashes F_ref33_Confirm F_mill_Hash F_ref33_Observe L p3 p4 b0_0 b0_1 (fun p3 p4 b0_0 b0_1 => X (st_hbbaba_law33_samples p3 p4 b0_0 b0_1)) (fun p3 b0_0 b0_1 => K (.exit 0) (st_x0_law33_samples p3 b0_0 b0_1)) := by kernel_rfl
def rbbabax0_law33_samples {β : Type} (F_mill_Deck_Next : ∀ (β : Type), Nat → Int → List (List V) → Int → (Int → List (List V) → Int → Option β) → Option β) (F_mill_Hashes : ∀ (β : Type), Nat → Int → List (List V) → Int → (List (List V) → List (List V) → Int → Option β) → Option β) (F_ref33_Confirm : ∀ (β : Type), Nat → List (List V) → List (List V) → Int → (List (List V) → Option β) → (List (List V) → Option β) → Option β) (F_mill_Hash : ∀ (β : Type), Nat → List (List V) → Int → (List V → List (List V) → Int → Option β) → Option β) (F_ref33_Observe : ∀ (β : Type), Nat → List (List V) → List V → Int → Int → (List (List V) → Int → Option β) → Option β) (L : Nat) (p3 : List (List V)) (b0_0 : List (List V)) (b0_1 : Int) (k_fin : List (List V) → List (List V) → Int → Option β) : Option β :=
 k_fin p3 b0_0 b0_1
theorem rbbabax0_law33_samples_ok {β : Type} (F_mill_Deck_Next : ∀ (β : Type), Nat → Int → List (List V) → Int → (Int → List (List V) → Int → Option β) → Option β) (F_mill_Hashes : ∀ (β : Type), Nat → Int → List (List V) → Int → (List (List V) → List (List V) → Int → Option β) → Option β) (F_ref33_Confirm : ∀ (β : Type), Nat → List (List V) → List (List V) → Int → (List (List V) → Option β) → (List (List V) → Option β) → Option β) (F_mill_Hash : ∀ (β : Type), Nat → List (List V) → Int → (List V → List (List V) → Int → Option β) → Option β) (F_ref33_Observe : ∀ (β : Type), Nat → List (List V) → List V → Int → Int → (List (List V) → Int → Option β) → Option β) (L : Nat) (p3 : List (List V)) (b0_0 : List (List V)) (b0_1 : Int) (k : V → Bor → Option β) : (blockK 0 (seqK (runC sh_law33_samples (cb_law33_samples F_mill_Deck_Next F_mill_Hashes F_ref33_Confirm F_mill_Hash F_ref33_Observe L) 1 L cbbb_law33_samples) (finK 1 (CF.res cf_law33_samples) k))) (.exit 0) (st_x0_law33_samples p3 b0_0 b0_1) = rbbabax0_law33_samples F_mill_Deck_Next F_mill_Hashes F_ref33_Confirm F_mill_Hash F_ref33_Observe L p3 b0_0 b0_1 (fun p0 b0_0 b0_1 => k (V.gs 35 p0) [(false, [(V.sl 1 b0_0), (V.sc (.int .i64 b0_1))])]) := by kernel_rfl
def lbbaba_law33_samples {β : Type} (F_mill_Deck_Next : ∀ (β : Type), Nat → Int → List (List V) → Int → (Int → List (List V) → Int → Option β) → Option β) (F_mill_Hashes : ∀ (β : Type), Nat → Int → List (List V) → Int → (List (List V) → List (List V) → Int → Option β) → Option β) (F_ref33_Confirm : ∀ (β : Type), Nat → List (List V) → List (List V) → Int → (List (List V) → Option β) → (List (List V) → Option β) → Option β) (F_mill_Hash : ∀ (β : Type), Nat → List (List V) → Int → (List V → List (List V) → Int → Option β) → Option β) (F_ref33_Observe : ∀ (β : Type), Nat → List (List V) → List V → Int → Int → (List (List V) → Int → Option β) → Option β) (L : Nat) (k_x0 : List (List V) → List (List V) → Int → Option β) : Nat → List (List V) → Int → List (List V) → Int → Option β
  | 0, _, _, _, _ => none
  | n + 1, p3, p4, b0_0, b0_1 => bbbaba_law33_samples F_mill_Deck_Next F_mill_Hashes F_ref33_Confirm F_mill_Hash F_ref33_Observe L p3 p4 b0_0 b0_1 (fun p3 p4 b0_0 b0_1 => lbbaba_law33_samples F_mill_Deck_Next F_mill_Hashes F_ref33_Confirm F_mill_Hash F_ref33_Observe L k_x0 n p3 p4 b0_0 b0_1) k_x0
theorem lbbaba_law33_samples_ok {β : Type} (F_mill_Deck_Next : ∀ (β : Type), Nat → Int → List (List V) → Int → (Int → List (List V) → Int → Option β) → Option β) (F_mill_Hashes : ∀ (β : Type), Nat → Int → List (List V) → Int → (List (List V) → List (List V) → Int → Option β) → Option β) (F_ref33_Confirm : ∀ (β : Type), Nat → List (List V) → List (List V) → Int → (List (List V) → Option β) → (List (List V) → Option β) → Option β) (F_mill_Hash : ∀ (β : Type), Nat → List (List V) → Int → (List V → List (List V) → Int → Option β) → Option β) (F_ref33_Observe : ∀ (β : Type), Nat → List (List V) → List V → Int → Int → (List (List V) → Int → Option β) → Option β) (L : Nat) (K : KT β) : ∀ (n : Nat) (p3 : List (List V)) (p4 : Int) (b0_0 : List (List V)) (b0_1 : Int), loopM (runC sh_law33_samples (cb_law33_samples F_mill_Deck_Next F_mill_Hashes F_ref33_Confirm F_mill_Hash F_ref33_Observe L) 1 L cbbabaa_law33_samples) mbbaba_law33_samples n (st_hbbaba_law33_samples p3 p4 b0_0 b0_1) K = lbbaba_law33_samples F_mill_Deck_Next F_mill_Hashes F_ref33_Confirm F_mill_Hash F_ref33_Observe L (fun p3 b0_0 b0_1 => K (.exit 0) (st_x0_law33_samples p3 b0_0 b0_1)) n p3 p4 b0_0 b0_1 := by
  intro n
  induction n with
  | zero => intros; rfl
  | succ n ih =>
    intro p3 p4 b0_0 b0_1
    refine (bbbaba_law33_samples_ok F_mill_Deck_Next F_mill_Hashes F_ref33_Confirm F_mill_Hash F_ref33_Observe L p3 p4 b0_0 b0_1 (fun σ => loopM (runC sh_law33_samples (cb_law33_samples F_mill_Deck_Next F_mill_Hashes F_ref33_Confirm F_mill_Hash F_ref33_Observe L) 1 L cbbabaa_law33_samples) mbbaba_law33_samples n σ K) K).trans ?_
    simp only [ih]
    rfl
def R_law33_samples {β : Type} (F_mill_Deck_Next : ∀ (β : Type), Nat → Int → List (List V) → Int → (Int → List (List V) → Int → Option β) → Option β) (F_mill_Hashes : ∀ (β : Type), Nat → Int → List (List V) → Int → (List (List V) → List (List V) → Int → Option β) → Option β) (F_ref33_Confirm : ∀ (β : Type), Nat → List (List V) → List (List V) → Int → (List (List V) → Option β) → (List (List V) → Option β) → Option β) (F_mill_Hash : ∀ (β : Type), Nat → List (List V) → Int → (List V → List (List V) → Int → Option β) → Option β) (F_ref33_Observe : ∀ (β : Type), Nat → List (List V) → List V → Int → Int → (List (List V) → Int → Option β) → Option β) (L : Nat) (b0_0 : List (List V)) (b0_1 : Int) (k_fin : List (List V) → List (List V) → Int → Option β) : Option β :=
 e_law33_samples F_mill_Deck_Next F_mill_Hashes F_ref33_Confirm F_mill_Hash F_ref33_Observe L b0_0 b0_1 (fun p3 p4 b0_0 b0_1 => lbbaba_law33_samples F_mill_Deck_Next F_mill_Hashes F_ref33_Confirm F_mill_Hash F_ref33_Observe L (fun p3 b0_0 b0_1 => rbbabax0_law33_samples F_mill_Deck_Next F_mill_Hashes F_ref33_Confirm F_mill_Hash F_ref33_Observe L p3 b0_0 b0_1 k_fin) L p3 p4 b0_0 b0_1)
theorem R_law33_samples_ok {β : Type} (F_mill_Deck_Next : ∀ (β : Type), Nat → Int → List (List V) → Int → (Int → List (List V) → Int → Option β) → Option β) (F_mill_Hashes : ∀ (β : Type), Nat → Int → List (List V) → Int → (List (List V) → List (List V) → Int → Option β) → Option β) (F_ref33_Confirm : ∀ (β : Type), Nat → List (List V) → List (List V) → Int → (List (List V) → Option β) → (List (List V) → Option β) → Option β) (F_mill_Hash : ∀ (β : Type), Nat → List (List V) → Int → (List V → List (List V) → Int → Option β) → Option β) (F_ref33_Observe : ∀ (β : Type), Nat → List (List V) → List V → Int → Int → (List (List V) → Int → Option β) → Option β) (L : Nat) (b0_0 : List (List V)) (b0_1 : Int) (k : V → Bor → Option β) : funC sh_law33_samples (cb_law33_samples F_mill_Deck_Next F_mill_Hashes F_ref33_Confirm F_mill_Hash F_ref33_Observe L) L cf_law33_samples [(V.ptr 0 0)] [(false, [(V.sl 1 b0_0), (V.sc (.int .i64 b0_1))])] k = R_law33_samples F_mill_Deck_Next F_mill_Hashes F_ref33_Confirm F_mill_Hash F_ref33_Observe L b0_0 b0_1 (fun p0 b0_0 b0_1 => k (V.gs 35 p0) [(false, [(V.sl 1 b0_0), (V.sc (.int .i64 b0_1))])]) := by
  refine (e_law33_samples_ok F_mill_Deck_Next F_mill_Hashes F_ref33_Confirm F_mill_Hash F_ref33_Observe L b0_0 b0_1 k).trans ?_
  unfold R_law33_samples
  simp only [lbbaba_law33_samples_ok, rbbabax0_law33_samples_ok]
def F_law33_samples (β : Type) (L : Nat) (b0_0 : List (List V)) (b0_1 : Int) (k_fin : List (List V) → List (List V) → Int → Option β) : Option β := R_law33_samples F_mill_Deck_Next F_mill_Hashes F_ref33_Confirm F_mill_Hash F_ref33_Observe L b0_0 b0_1 k_fin
def d_law33_samples (F_law33_samples : ∀ (β : Type), Nat → List (List V) → Int → (List (List V) → List (List V) → Int → Option β) → Option β) (L : Nat) (β : Type) (args : List V) (bor : Bor) (k : V → Bor → Option β) : Option β := match args, bor with
  | [a0], [(false, [w0_0, w0_1])] => aP 0 0 a0 (aL 1 w0_0 fun b0_0 => aI .i64 w0_1 fun b0_1 => F_law33_samples β L b0_0 b0_1 (fun p0 b0_0 b0_1 => k (V.gs 35 p0) [(false, [(V.sl 1 b0_0), (V.sc (.int .i64 b0_1))])]))
  | _, _ => none
theorem d_law33_samples_ok (L : Nat) (β : Type) (args : List V) (bor : Bor) (k : V → Bor → Option β) (r : β) (h : d_law33_samples F_law33_samples L β args bor k = some r) : funC sh_law33_samples (cb_law33_samples F_mill_Deck_Next F_mill_Hashes F_ref33_Confirm F_mill_Hash F_ref33_Observe L) L cf_law33_samples args bor k = some r := by
  unfold d_law33_samples at h
  split at h
  · have q := aP_inv h; clear h; obtain ⟨rfl, h⟩ := q
    have q := aL_inv h; clear h; obtain ⟨b0_0, rfl, h⟩ := q
    have q := aI_inv h; clear h; obtain ⟨b0_1, rfl, h⟩ := q
    exact (R_law33_samples_ok F_mill_Deck_Next F_mill_Hashes F_ref33_Confirm F_mill_Hash F_ref33_Observe L b0_0 b0_1 k).trans h
  · cases h
/-! fees_Count : 226 -/
def cbabaa_fees_Count : CC := (.seq (.reg [⟨(some 16), false, none, .bin .lss (.tmp 15) (.tmp 14)⟩])
 (.seq (.cond (.tmp 16)
 .skip
 (.seq (.mask [false, false, false, false, false, false, false, false, true, true, false, false, false, false, false, false, false, false, false, false, false, false, false, false, false, false, false, false, false, false, false, false, false, false, false, false, false, false, false, false, false, false, false, false, false, false, false, false, false, false, false, false] [true, true, true, true, true, true, true, true, true, true, true, false, false, true, true, true, true, true, true, true, true, true, true, true, true, true, true, true, true, true, true, true, true, true, true, true, true, true, true, true, true, true, true, true, true, true, true, true, true, true, true, true])
 (.exit 0)))
 (.seq (.block 1 (.seq (.reg [⟨(some 17), false, none, .indexAddrS 35 (.tmp 13) (.tmp 15)⟩,
   ⟨(some 18), false, none, .load true 35 (.tmp 17) false⟩,
   ⟨(some 11), false, none, .alloc true [(.sc (.int .u8 0)), (.sc (.int .u8 0)), (.sc (.int .u8 0)), (.sc (.int .u8 0)), (.sc (.int .u8 0)), (.sc (.int .u8 0)), (.sc (.int .u8 0)), (.sc (.int .u8 0)), (.sc (.int .u8 0)), (.sc (.int .u8 0)), (.sc (.int .u8 0)), (.sc (.int .u8 0)), (.sc (.int .u8 0)), (.sc (.int .u8 0)), (.sc (.int .u8 0)), (.sc (.int .u8 0)), (.sc (.int .u8 0)), (.sc (.int .u8 0)), (.sc (.int .u8 0)), (.sc (.int .u8 0)), (.sc (.int .u8 0)), (.sc (.int .u8 0)), (.sc (.int .u8 0)), (.sc (.int .u8 0)), (.sc (.int .u8 0)), (.sc (.int .u8 0)), (.sc (.int .u8 0)), (.sc (.int .u8 0)), (.sc (.int .u8 0)), (.sc (.int .u8 0)), (.sc (.int .u8 0)), (.sc (.int .u8 0)), (.sc (.int .i64 0)), (.sc (.int .i64 0)), (.sc (.int .i64 0))]⟩,
   ⟨none, false, none, .store 35 (.tmp 11) (.tmp 18)⟩])
 (.seq (.seq (.reg [⟨(some 19), false, none, .fieldAddr 32 (.tmp 11)⟩,
   ⟨(some 20), false, none, .load false 1 (.tmp 19) false⟩,
   ⟨(some 21), false, none, .move (.tmp 1) false⟩,
   ⟨(some 22), false, none, .bin .neq (.tmp 20) (.tmp 21)⟩])
 (.cond (.tmp 22)
 (.exit 1)
 .skip))
 (.seq (.reg [⟨(some 23), false, none, .fieldAddr 34 (.tmp 11)⟩,
   ⟨(some 24), false, none, .load false 1 (.tmp 23) false⟩,
   ⟨(some 25), false, none, .bin .geq (.tmp 24) (.const (.sc (.int .i64 1)))⟩,
   ⟨(some 12), false, none, .move (.tmp 25) false⟩])
 (.seq (.seq (.reg [⟨(some 26), false, none, .move (.tmp 12) false⟩,
   ⟨(some 27), false, none, .move (.tmp 26) false⟩,
   ⟨(some 28), false, (some (27, false)), .fieldAddr 33 (.tmp 11)⟩,
   ⟨(some 29), false, (some (27, false)), .load false 1 (.tmp 28) false⟩,
   ⟨(some 30), false, (some (27, false)), .move (.tmp 2) false⟩,
   ⟨(some 31), false, (some (27, false)), .bin .add (.tmp 29) (.tmp 30)⟩,
   ⟨(some 32), false, (some (27, false)), .move (.tmp 3) false⟩,
   ⟨(some 33), false, (some (27, false)), .bin .leq (.tmp 31) (.tmp 32)⟩,
   ⟨(some 34), false, none, .pick (.tmp 27) (.const (.sc (.bool true))) (.tmp 33)⟩])
 (.cond (.tmp 34)
 (.reg [⟨(some 35), false, none, .move (.tmp 9) false⟩,
   ⟨(some 36), false, none, .bin .add (.tmp 35) (.const (.sc (.int .i64 1)))⟩,
   ⟨(some 9), false, none, .move (.tmp 36) false⟩])
 .skip))
 (.seq (.reg [⟨(some 37), false, none, .move (.tmp 12) false⟩,
   ⟨(some 38), false, none, .move (.tmp 37) false⟩,
   ⟨(some 39), false, (some (38, true)), .fieldAddr 34 (.tmp 11)⟩,
   ⟨(some 40), false, (some (38, true)), .load false 1 (.tmp 39) false⟩,
   ⟨(some 41), false, (some (38, true)), .fieldAddr 33 (.tmp 11)⟩,
   ⟨(some 42), false, (some (38, true)), .load false 1 (.tmp 41) false⟩,
   ⟨(some 43), false, (some (38, true)), .bin .sub (.tmp 40) (.tmp 42)⟩,
   ⟨(some 44), false, (some (38, true)), .move (.tmp 2) false⟩,
   ⟨(some 45), false, (some (38, true)), .bin .leq (.tmp 43) (.tmp 44)⟩,
   ⟨(some 46), false, none, .pick (.tmp 38) (.tmp 45) (.const (.sc (.bool false)))⟩])
 (.cond (.tmp 46)
 (.reg [⟨(some 47), false, none, .move (.tmp 8) false⟩,
   ⟨(some 48), false, none, .bin .add (.tmp 47) (.const (.sc (.int .i64 1)))⟩,
   ⟨(some 8), false, none, .move (.tmp 48) false⟩])
 .skip)))))))
 (.reg [⟨(some 49), false, none, .bin .add (.tmp 15) (.const (.sc (.int .i64 1)))⟩,
   ⟨(some 15), false, none, .move (.tmp 49) false⟩]))))
def cbb_fees_Count : CC := (.seq (.reg [⟨(some 50), false, none, .move (.tmp 8) false⟩,
   ⟨(some 51), false, none, .move (.tmp 9) false⟩,
   ⟨(some 8), false, none, .move (.tmp 50) false⟩,
   ⟨(some 9), false, none, .move (.tmp 51) false⟩])
 .ret)
def cf_fees_Count : CF := ⟨52, [.tmp 8, .tmp 9],
 (.seq (.reg [⟨(some 8), false, none, .move (.const (.sc (.int .i64 0))) false⟩,
   ⟨(some 9), false, none, .move (.const (.sc (.int .i64 0))) false⟩])
 (.seq (.seq (.reg [⟨(some 13), false, none, .move (.tmp 0) true⟩,
   ⟨(some 14), false, none, .lenS (.tmp 13)⟩,
   ⟨(some 15), false, none, .move (.const (.sc (.int .i64 0))) false⟩])
 (.block 0 (.loop [false, true, true, true, false, false, false, false, true, true, false, false, false, true, true, true, false, false, false, false, false, false, false, false, false, false, false, false, false, false, false, false, false, false, false, false, false, false, false, false, false, false, false, false, false, false, false, false, false, false, false, false] [true, true, true, true, true, true, true, true, true, true, true, false, false, true, true, true, true, true, true, true, true, true, true, true, true, true, true, true, true, true, true, true, true, true, true, true, true, true, true, true, true, true, true, true, true, true, true, true, true, true, true, true]
 cbabaa_fees_Count)))
 cbb_fees_Count))⟩
def hint_fees_Count : Hint := ⟨[(1, 0)], [], [none, some ([false, true, true, true, false, false, false, false, true, true, false, false, false, true, true, true, false, false, false, false, false, false, false, false, false, false, false, false, false, false, false, false, false, false, false, false, false, false, false, false, false, false, false, false, false, false, false, false, false, false, false, false], [true, true, true, true, true, true, true, true, true, true, true, false, false, true, true, true, true, true, true, true, true, true, true, true, true, true, true, true, true, true, true, true, true, true, true, true, true, true, true, true, true, true, true, true, true, true, true, true, true, true, true, true]), none, some ([false, false, false, false, false, false, false, false, true, true, false, false, false, false, false, false, false, false, false, false, false, false, false, false, false, false, false, false, false, false, false, false, false, false, false, false, false, false, false, false, false, false, false, false, false, false, false, false, false, false, false, false], [true, true, true, true, true, true, true, true, true, true, true, false, false, true, true, true, true, true, true, true, true, true, true, true, true, true, true, true, true, true, true, true, true, true, true, true, true, true, true, true, true, true, true, true, true, true, true, true, true, true, true, true]), none, none, none, none, none, none], []⟩
def sh_fees_Count : Nat → Sh := shOf [(20, (.int .i64)), (24, (.int .i64)), (40, (.int .i64)), (42, (.int .i64)), (29, (.int .i64))]
def cb_fees_Count (L : Nat) : CBC := noC
def mbaba_fees_Count : St → St := mask [false, true, true, true, false, false, false, false, true, true, false, false, false, true, true, true, false, false, false, false, false, false, false, false, false, false, false, false, false, false, false, false, false, false, false, false, false, false, false, false, false, false, false, false, false, false, false, false, false, false, false, false] [true, true, true, true, true, true, true, true, true, true, true, false, false, true, true, true, true, true, true, true, true, true, true, true, true, true, true, true, true, true, true, true, true, true, true, true, true, true, true, true, true, true, true, true, true, true, true, true, true, true, true, true]
def st_hbaba_fees_Count (p1 : Int) (p2 : Int) (p3 : Int) (p8 : Int) (p9 : Int) (p13 : List (List V)) (p14 : Int) (p15 : Int) : St := ⟨[.junk, (V.sc (.int .i64 p1)), (V.sc (.int .i64 p2)), (V.sc (.int .i64 p3)), .junk, .junk, .junk, .junk, (V.sc (.int .i64 p8)), (V.sc (.int .i64 p9)), .junk, .junk, .junk, (V.sl 35 p13), (V.sc (.int .i64 p14)), (V.sc (.int .i64 p15)), .junk, .junk, .junk, .junk, .junk, .junk, .junk, .junk, .junk, .junk, .junk, .junk, .junk, .junk, .junk, .junk, .junk, .junk, .junk, .junk, .junk, .junk, .junk, .junk, .junk, .junk, .junk, .junk, .junk, .junk, .junk, .junk, .junk, .junk, .junk, .junk], [.gone, .gone, .gone, .gone, .gone, .gone, .gone, .gone, .gone, .gone, .gone, .gone, .gone, .gone, .gone, .gone, .gone, .gone, .gone, .gone, .gone, .gone, .gone, .gone, .gone, .gone, .gone, .gone, .gone, .gone, .gone, .gone, .gone, .gone, .gone, .gone, .gone, .gone, .gone, .gone, .gone, .gone, .gone, .gone, .gone, .gone, .gone, .gone, .gone, .gone, .gone, .gone]⟩
def st_x0_fees_Count (p8 : Int) (p9 : Int) : St := ⟨[.junk, .junk, .junk, .junk, .junk, .junk, .junk, .junk, (V.sc (.int .i64 p8)), (V.sc (.int .i64 p9)), .junk, .junk, .junk, .junk, .junk, .junk, .junk, .junk, .junk, .junk, .junk, .junk, .junk, .junk, .junk, .junk, .junk, .junk, .junk, .junk, .junk, .junk, .junk, .junk, .junk, .junk, .junk, .junk, .junk, .junk, .junk, .junk, .junk, .junk, .junk, .junk, .junk, .junk, .junk, .junk, .junk, .junk], [.gone, .gone, .gone, .gone, .gone, .gone, .gone, .gone, .gone, .gone, .gone, .gone, .gone, .gone, .gone, .gone, .gone, .gone, .gone, .gone, .gone, .gone, .gone, .gone, .gone, .gone, .gone, .gone, .gone, .gone, .gone, .gone, .gone, .gone, .gone, .gone, .gone, .gone, .gone, .gone, .gone, .gone, .gone, .gone, .gone, .gone, .gone, .gone, .gone, .gone, .gone, .gone]⟩
def e_fees_Count {β : Type} (L : Nat) (p0 : List (List V)) (p1 : Int) (p2 : Int) (p3 : Int) (k_hbaba : Int → Int → Int → Int → Int → List (List V) → Int → Int → Option β) : Option β :=
 k_hbaba p1 p2 p3 (0 : Int) (0 : Int) p0 ((List.length p0 : Nat) : Int) (0 : Int)
theorem e_fees_Count_ok {β : Type} (L : Nat) (p0 : List (List V)) (p1 : Int) (p2 : Int) (p3 : Int) (k : V → Bor → Option β) : funC sh_fees_Count (cb_fees_Count L) L cf_fees_Count [(V.sl 35 p0), (V.sc (.int .i64 p1)), (V.sc (.int .i64 p2)), (V.sc (.int .i64 p3))] [] k = e_fees_Count L p0 p1 p2 p3 (fun p1 p2 p3 p8 p9 p13 p14 p15 => loopM (runC sh_fees_Count (cb_fees_Count L) 0 L cbabaa_fees_Count) mbaba_fees_Count L (st_hbaba_fees_Count p1 p2 p3 p8 p9 p13 p14 p15) (blockK 0 (seqK (runC sh_fees_Count (cb_fees_Count L) 0 L cbb_fees_Count) (finK 0 (CF.res cf_fees_Count) k)))) := by kernel_rfl
def bbaba_fees_Count {β : Type} (L : Nat) (p1 : Int) (p2 : Int) (p3 : Int) (p8 : Int) (p9 : Int) (p13 : List (List V)) (p14 : Int) (p15 : Int) (k_hbaba : Int → Int → Int → Int → Int → List (List V) → Int → Int → Option β) (k_x0 : Int → Int → Option β) : Option β :=
 ifb (decide (p15 < p14)) (
 idx p13 p15 fun c0 =>
 chk ((List.length (List.take 35 c0)) = 35 ∧ 0 + 35 ≤ 35) (
 lt (setAt (List.replicate 32 (V.sc (.int .u8 (0 : Int))) ++ [(V.sc (.int .i64 (0 : Int))), (V.sc (.int .i64 (0 : Int))), (V.sc (.int .i64 (0 : Int)))]) 0 (List.take 35 c0)) fun r1 =>
 cI .i64 r1 32 fun v2 =>
 ifb ((v2 : Int) != p1) (
 lt (IntKind.wrap .i64 ((p15 : Int) + (1 : Int))) fun x3 =>
 k_hbaba p1 p2 p3 p8 p9 p13 p14 x3) (
 cI .i64 r1 34 fun v4 =>
 ifb (decide (v4 ≥ (1 : Int))) (
 lt (IntKind.wrap .i64 ((p9 : Int) + (1 : Int))) fun x5 =>
 ifb (decide (v4 ≥ (1 : Int))) (
 cI .i64 r1 34 fun v6 =>
 cI .i64 r1 33 fun v7 =>
 lt (IntKind.wrap .i64 ((v6 : Int) - v7)) fun x8 =>
 ifb (decide (x8 ≤ p2)) (
 lt (IntKind.wrap .i64 ((p8 : Int) + (1 : Int))) fun x9 =>
 lt (IntKind.wrap .i64 ((p15 : Int) + (1 : Int))) fun x10 =>
 k_hbaba p1 p2 p3 x9 x5 p13 p14 x10) (
 lt (IntKind.wrap .i64 ((p15 : Int) + (1 : Int))) fun x11 =>
 k_hbaba p1 p2 p3 p8 x5 p13 p14 x11)) (
 lt (IntKind.wrap .i64 ((p15 : Int) + (1 : Int))) fun x12 =>
 k_hbaba p1 p2 p3 p8 x5 p13 p14 x12)) (
 cI .i64 r1 33 fun v13 =>
 lt (IntKind.wrap .i64 ((v13 : Int) + p2)) fun x14 =>
 ifb (decide (x14 ≤ p3)) (
 lt (IntKind.wrap .i64 ((p9 : Int) + (1 : Int))) fun x15 =>
 ifb (decide (v4 ≥ (1 : Int))) (
 cI .i64 r1 34 fun v16 =>
 cI .i64 r1 33 fun v17 =>
 lt (IntKind.wrap .i64 ((v16 : Int) - v17)) fun x18 =>
 ifb (decide (x18 ≤ p2)) (
 lt (IntKind.wrap .i64 ((p8 : Int) + (1 : Int))) fun x19 =>
 lt (IntKind.wrap .i64 ((p15 : Int) + (1 : Int))) fun x20 =>
 k_hbaba p1 p2 p3 x19 x15 p13 p14 x20) (
 lt (IntKind.wrap .i64 ((p15 : Int) + (1 : Int))) fun x21 =>
 k_hbaba p1 p2 p3 p8 x15 p13 p14 x21)) (
 lt (IntKind.wrap .i64 ((p15 : Int) + (1 : Int))) fun x22 =>
 k_hbaba p1 p2 p3 p8 x15 p13 p14 x22)) (
 ifb (decide (v4 ≥ (1 : Int))) (
 cI .i64 r1 34 fun v23 =>
 cI .i64 r1 33 fun v24 =>
 lt (IntKind.wrap .i64 ((v23 : Int) - v24)) fun x25 =>
 ifb (decide (x25 ≤ p2)) (
 lt (IntKind.wrap .i64 ((p8 : Int) + (1 : Int))) fun x26 =>
 lt (IntKind.wrap .i64 ((p15 : Int) + (1 : Int))) fun x27 =>
 k_hbaba p1 p2 p3 x26 p9 p13 p14 x27) (
 lt (IntKind.wrap .i64 ((p15 : Int) + (1 : Int))) fun x28 =>
 k_hbaba p1 p2 p3 p8 p9 p13 p14 x28)) (
 lt (IntKind.wrap .i64 ((p15 : Int) + (1 : Int))) fun x29 =>
 k_hbaba p1 p2 p3 p8 p9 p13 p14 x29)))))) (
 k_x0 p8 p9)
theorem bbaba_fees_Count_ok {β : Type} (L : Nat) (p1 : Int) (p2 : Int) (p3 : Int) (p8 : Int) (p9 : Int) (p13 : List (List V)) (p14 : Int) (p15 : Int) (X : St → Option β) (K : KT β) : runC sh_fees_Count (cb_fees_Count L) 0 L cbabaa_fees_Count (st_hbaba_fees_Count p1 p2 p3 p8 p9 p13 p14 p15) (loopK mbaba_fees_Count X K) = bbaba_fees_Count L p1 p2 p3 p8 p9 p13 p14 p15 (fun p1 p2 p3 p8 p9 p13 p14 p15 => X (st_hbaba_fees_Count p1 p2 p3 p8 p9 p13 p14 p15)) (fun p8 p9 => K (.exit 0) (st_x0_fees_Count p8 p9)) := by kernel_rfl
def rbabax0_fees_Count {β : Type} (L : Nat) (p8 : Int) (p9 : Int) (k_fin : Int → Int → Option β) : Option β :=
 k_fin p8 p9
theorem rbabax0_fees_Count_ok {β : Type} (L : Nat) (p8 : Int) (p9 : Int) (k : V → Bor → Option β) : (blockK 0 (seqK (runC sh_fees_Count (cb_fees_Count L) 0 L cbb_fees_Count) (finK 0 (CF.res cf_fees_Count) k))) (.exit 0) (st_x0_fees_Count p8 p9) = rbabax0_fees_Count L p8 p9 (fun p0_0 p0_1 => k (V.tup [(V.sc (.int .i64 p0_0)), (V.sc (.int .i64 p0_1))]) []) := by kernel_rfl
def lbaba_fees_Count {β : Type} (L : Nat) (k_x0 : Int → Int → Option β) : Nat → Int → Int → Int → Int → Int → List (List V) → Int → Int → Option β
  | 0, _, _, _, _, _, _, _, _ => none
  | n + 1, p1, p2, p3, p8, p9, p13, p14, p15 => bbaba_fees_Count L p1 p2 p3 p8 p9 p13 p14 p15 (fun p1 p2 p3 p8 p9 p13 p14 p15 => lbaba_fees_Count L k_x0 n p1 p2 p3 p8 p9 p13 p14 p15) k_x0
theorem lbaba_fees_Count_ok {β : Type} (L : Nat) (K : KT β) : ∀ (n : Nat) (p1 : Int) (p2 : Int) (p3 : Int) (p8 : Int) (p9 : Int) (p13 : List (List V)) (p14 : Int) (p15 : Int), loopM (runC sh_fees_Count (cb_fees_Count L) 0 L cbabaa_fees_Count) mbaba_fees_Count n (st_hbaba_fees_Count p1 p2 p3 p8 p9 p13 p14 p15) K = lbaba_fees_Count L (fun p8 p9 => K (.exit 0) (st_x0_fees_Count p8 p9)) n p1 p2 p3 p8 p9 p13 p14 p15 := by
  intro n
  induction n with
  | zero => intros; rfl
  | succ n ih =>
    intro p1 p2 p3 p8 p9 p13 p14 p15
    refine (bbaba_fees_Count_ok L p1 p2 p3 p8 p9 p13 p14 p15 (fun σ => loopM (runC sh_fees_Count (cb_fees_Count L) 0 L cbabaa_fees_Count) mbaba_fees_Count n σ K) K).trans ?_
    simp only [ih]
    rfl
def R_fees_Count {β : Type} (L : Nat) (p0 : List (List V)) (p1 : Int) (p2 : Int) (p3 : Int) (k_fin : Int → Int → Option β) : Option β :=
 e_fees_Count L p0 p1 p2 p3 (fun p1 p2 p3 p8 p9 p13 p14 p15 => lbaba_fees_Count L (fun p8 p9 => rbabax0_fees_Count L p8 p9 k_fin) L p1 p2 p3 p8 p9 p13 p14 p15)
theorem R_fees_Count_ok {β : Type} (L : Nat) (p0 : List (List V)) (p1 : Int) (p2 : Int) (p3 : Int) (k : V → Bor → Option β) : funC sh_fees_Count (cb_fees_Count L) L cf_fees_Count [(V.sl 35 p0), (V.sc (.int .i64 p1)), (V.sc (.int .i64 p2)), (V.sc (.int .i64 p3))] [] k = R_fees_Count L p0 p1 p2 p3 (fun p0_0 p0_1 => k (V.tup [(V.sc (.int .i64 p0_0)), (V.sc (.int .i64 p0_1))]) []) := by
  refine (e_fees_Count_ok L p0 p1 p2 p3 k).trans ?_
  unfold R_fees_Count
  simp only [lbaba_fees_Count_ok, rbabax0_fees_Count_ok]
def F_fees_Count (β : Type) (L : Nat) (p0 : List (List V)) (p1 : Int) (p2 : Int) (p3 : Int) (k_fin : Int → Int → Option β) : Option β := R_fees_Count L p0 p1 p2 p3 k_fin
def d_fees_Count (F_fees_Count : ∀ (β : Type), Nat → List (List V) → Int → Int → Int → (Int → Int → Option β) → Option β) (L : Nat) (β : Type) (args : List V) (bor : Bor) (k : V → Bor → Option β) : Option β := match args, bor with
  | [a0, a1, a2, a3], [] => aL 35 a0 fun p0 => aI .i64 a1 fun p1 => aI .i64 a2 fun p2 => aI .i64 a3 fun p3 => F_fees_Count β L p0 p1 p2 p3 (fun p0_0 p0_1 => k (V.tup [(V.sc (.int .i64 p0_0)), (V.sc (.int .i64 p0_1))]) [])
  | _, _ => none
theorem d_fees_Count_ok (L : Nat) (β : Type) (args : List V) (bor : Bor) (k : V → Bor → Option β) (r : β) (h : d_fees_Count F_fees_Count L β args bor k = some r) : funC sh_fees_Count (cb_fees_Count L) L cf_fees_Count args bor k = some r := by
  unfold d_fees_Count at h
  split at h
  · have q := aL_inv h; clear h; obtain ⟨p0, rfl, h⟩ := q
    have q := aI_inv h; clear h; obtain ⟨p1, rfl, h⟩ := q
    have q := aI_inv h; clear h; obtain ⟨p2, rfl, h⟩ := q
    have q := aI_inv h; clear h; obtain ⟨p3, rfl, h⟩ := q
    exact (R_fees_Count_ok L p0 p1 p2 p3 k).trans h
  · cases h
/-! ref33_Count : 227 -/
def cbbabaa_ref33_Count : CC := (.seq (.seq (.reg [⟨(some 14), false, none, .move (.tmp 12) false⟩,
   ⟨(some 15), false, none, .move (.tmp 0) false⟩,
   ⟨(some 16), false, none, .lenS (.tmp 15)⟩,
   ⟨(some 17), false, none, .bin .lss (.tmp 14) (.tmp 16)⟩])
 (.cond (.tmp 17)
 .skip
 (.seq (.mask [false, false, false, false, false, false, false, false, false, false, true, true, false, false, false, false, false, false, false, false, false, false, false, false, false, false, false, false, false, false, false, false, false, false, false, false, false, false, false, false, false, false, false, false, false, false, false, false, false, false, false, false, false, false, false, false, false, false, false] [true, true, true, true, true, true, true, true, true, true, true, true, false, false, true, true, false, true, true, true, true, true, true, true, true, true, true, true, true, true, true, true, true, true, true, true, true, true, true, true, true, true, true, true, true, true, true, true, true, true, true, true, true, true, true, true, true, true, true])
 (.exit 0))))
 (.seq (.block 1 (.seq (.reg [⟨(some 20), false, none, .move (.tmp 0) false⟩,
   ⟨(some 21), false, none, .move (.tmp 12) false⟩,
   ⟨(some 22), false, none, .indexAddrS 35 (.tmp 20) (.tmp 21)⟩,
   ⟨(some 23), false, none, .load true 35 (.tmp 22) false⟩,
   ⟨(some 13), false, none, .alloc true [(.sc (.int .u8 0)), (.sc (.int .u8 0)), (.sc (.int .u8 0)), (.sc (.int .u8 0)), (.sc (.int .u8 0)), (.sc (.int .u8 0)), (.sc (.int .u8 0)), (.sc (.int .u8 0)), (.sc (.int .u8 0)), (.sc (.int .u8 0)), (.sc (.int .u8 0)), (.sc (.int .u8 0)), (.sc (.int .u8 0)), (.sc (.int .u8 0)), (.sc (.int .u8 0)), (.sc (.int .u8 0)), (.sc (.int .u8 0)), (.sc (.int .u8 0)), (.sc (.int .u8 0)), (.sc (.int .u8 0)), (.sc (.int .u8 0)), (.sc (.int .u8 0)), (.sc (.int .u8 0)), (.sc (.int .u8 0)), (.sc (.int .u8 0)), (.sc (.int .u8 0)), (.sc (.int .u8 0)), (.sc (.int .u8 0)), (.sc (.int .u8 0)), (.sc (.int .u8 0)), (.sc (.int .u8 0)), (.sc (.int .u8 0)), (.sc (.int .i64 0)), (.sc (.int .i64 0)), (.sc (.int .i64 0))]⟩,
   ⟨none, false, none, .store 35 (.tmp 13) (.tmp 23)⟩])
 (.seq (.seq (.reg [⟨(some 24), false, none, .fieldAddr 32 (.tmp 13)⟩,
   ⟨(some 25), false, none, .load false 1 (.tmp 24) false⟩,
   ⟨(some 26), false, none, .move (.tmp 1) false⟩,
   ⟨(some 27), false, none, .bin .neq (.tmp 25) (.tmp 26)⟩,
   ⟨(some 28), false, none, .move (.tmp 27) false⟩,
   ⟨(some 29), false, (some (28, false)), .fieldAddr 34 (.tmp 13)⟩,
   ⟨(some 30), false, (some (28, false)), .load false 1 (.tmp 29) false⟩,
   ⟨(some 31), false, (some (28, false)), .bin .lss (.tmp 30) (.const (.sc (.int .i64 1)))⟩,
   ⟨(some 32), false, (some (28, false)), .move (.tmp 31) false⟩,
   ⟨(some 33), false, (some (32, true)), .fieldAddr 33 (.tmp 13)⟩,
   ⟨(some 34), false, (some (32, true)), .load false 1 (.tmp 33) false⟩,
   ⟨(some 35), false, (some (32, true)), .move (.tmp 2) false⟩,
   ⟨(some 36), false, (some (32, true)), .bin .add (.tmp 34) (.tmp 35)⟩,
   ⟨(some 37), false, (some (32, true)), .move (.tmp 3) false⟩,
   ⟨(some 38), false, (some (32, true)), .bin .gtr (.tmp 36) (.tmp 37)⟩,
   ⟨(some 39), false, (some (28, false)), .pick (.tmp 32) (.tmp 38) (.const (.sc (.bool false)))⟩,
   ⟨(some 40), false, none, .pick (.tmp 28) (.const (.sc (.bool true))) (.tmp 39)⟩])
 (.cond (.tmp 40)
 (.exit 1)
 .skip))
 (.seq (.reg [⟨(some 41), false, none, .move (.tmp 11) false⟩,
   ⟨(some 42), false, none, .bin .add (.tmp 41) (.const (.sc (.int .i64 1)))⟩,
   ⟨(some 11), false, none, .move (.tmp 42) false⟩])
 (.seq (.reg [⟨(some 43), false, none, .fieldAddr 34 (.tmp 13)⟩,
   ⟨(some 44), false, none, .load false 1 (.tmp 43) false⟩,
   ⟨(some 45), false, none, .bin .geq (.tmp 44) (.const (.sc (.int .i64 1)))⟩,
   ⟨(some 46), false, none, .move (.tmp 45) false⟩,
   ⟨(some 47), false, (some (46, true)), .fieldAddr 34 (.tmp 13)⟩,
   ⟨(some 48), false, (some (46, true)), .load false 1 (.tmp 47) false⟩,
   ⟨(some 49), false, (some (46, true)), .fieldAddr 33 (.tmp 13)⟩,
   ⟨(some 50), false, (some (46, true)), .load false 1 (.tmp 49) false⟩,
   ⟨(some 51), false, (some (46, true)), .bin .sub (.tmp 48) (.tmp 50)⟩,
   ⟨(some 52), false, (some (46, true)), .move (.tmp 2) false⟩,
   ⟨(some 53), false, (some (46, true)), .bin .leq (.tmp 51) (.tmp 52)⟩,
   ⟨(some 54), false, none, .pick (.tmp 46) (.tmp 53) (.const (.sc (.bool false)))⟩])
 (.cond (.tmp 54)
 (.reg [⟨(some 55), false, none, .move (.tmp 10) false⟩,
   ⟨(some 56), false, none, .bin .add (.tmp 55) (.const (.sc (.int .i64 1)))⟩,
   ⟨(some 10), false, none, .move (.tmp 56) false⟩])
 .skip))))))
 (.reg [⟨(some 18), false, none, .move (.tmp 12) false⟩,
   ⟨(some 19), false, none, .bin .add (.tmp 18) (.const (.sc (.int .i64 1)))⟩,
   ⟨(some 12), false, none, .move (.tmp 19) false⟩])))
def cbbb_ref33_Count : CC := (.seq (.reg [⟨(some 57), false, none, .move (.tmp 10) false⟩,
   ⟨(some 58), false, none, .move (.tmp 11) false⟩,
   ⟨(some 8), false, none, .move (.tmp 57) false⟩,
   ⟨(some 9), false, none, .move (.tmp 58) false⟩])
 .ret)
def cf_ref33_Count : CF := ⟨59, [.tmp 8, .tmp 9],
 (.seq (.reg [⟨(some 8), false, none, .move (.const (.sc (.int .i64 0))) false⟩,
   ⟨(some 9), false, none, .move (.const (.sc (.int .i64 0))) false⟩])
 (.seq (.reg [⟨(some 10), false, none, .move (.const (.sc (.int .i64 0))) false⟩,
   ⟨(some 11), false, none, .move (.const (.sc (.int .i64 0))) false⟩])
 (.seq (.seq (.reg [⟨(some 12), false, none, .move (.const (.sc (.int .i64 0))) false⟩])
 (.block 0 (.loop [true, true, true, true, false, false, false, false, false, false, true, true, true, false, false, false, false, false, false, false, false, false, false, false, false, false, false, false, false, false, false, false, false, false, false, false, false, false, false, false, false, false, false, false, false, false, false, false, false, false, false, false, false, false, false, false, false, false, false] [true, true, true, true, true, true, true, true, true, true, true, true, true, false, true, true, false, true, true, true, true, true, true, true, true, true, true, true, true, true, true, true, true, true, true, true, true, true, true, true, true, true, true, true, true, true, true, true, true, true, true, true, true, true, true, true, true, true, true]
 cbbabaa_ref33_Count)))
 cbbb_ref33_Count)))⟩
def hint_ref33_Count : Hint := ⟨[], [], [none, some ([true, true, true, true, false, false, false, false, false, false, true, true, true, false, false, false, false, false, false, false, false, false, false, false, false, false, false, false, false, false, false, false, false, false, false, false, false, false, false, false, false, false, false, false, false, false, false, false, false, false, false, false, false, false, false, false, false, false, false], [true, true, true, true, true, true, true, true, true, true, true, true, true, false, true, true, false, true, true, true, true, true, true, true, true, true, true, true, true, true, true, true, true, true, true, true, true, true, true, true, true, true, true, true, true, true, true, true, true, true, true, true, true, true, true, true, true, true, true]), none, some ([false, false, false, false, false, false, false, false, false, false, true, true, false, false, false, false, false, false, false, false, false, false, false, false, false, false, false, false, false, false, false, false, false, false, false, false, false, false, false, false, false, false, false, false, false, false, false, false, false, false, false, false, false, false, false, false, false, false, false], [true, true, true, true, true, true, true, true, true, true, true, true, false, false, true, true, false, true, true, true, true, true, true, true, true, true, true, true, true, true, true, true, true, true, true, true, true, true, true, true, true, true, true, true, true, true, true, true, true, true, true, true, true, true, true, true, true, true, true]), none, none, none, none, none], []⟩
def sh_ref33_Count : Nat → Sh := shOf [(25, (.int .i64)), (30, (.int .i64)), (34, (.int .i64)), (44, (.int .i64)), (48, (.int .i64)), (50, (.int .i64))]
def cb_ref33_Count (L : Nat) : CBC := noC
def mbbaba_ref33_Count : St → St := mask [true, true, true, true, false, false, false, false, false, false, true, true, true, false, false, false, false, false, false, false, false, false, false, false, false, false, false, false, false, false, false, false, false, false, false, false, false, false, false, false, false, false, false, false, false, false, false, false, false, false, false, false, false, false, false, false, false, false, false] [true, true, true, true, true, true, true, true, true, true, true, true, true, false, true, true, false, true, true, true, true, true, true, true, true, true, true, true, true, true, true, true, true, true, true, true, true, true, true, true, true, true, true, true, true, true, true, true, true, true, true, true, true, true, true, true, true, true, true]
def st_hbbaba_ref33_Count (p0 : List (List V)) (p1 : Int) (p2 : Int) (p3 : Int) (p10 : Int) (p11 : Int) (p12 : Int) : St := ⟨[(V.sl 35 p0), (V.sc (.int .i64 p1)), (V.sc (.int .i64 p2)), (V.sc (.int .i64 p3)), .junk, .junk, .junk, .junk, .junk, .junk, (V.sc (.int .i64 p10)), (V.sc (.int .i64 p11)), (V.sc (.int .i64 p12)), .junk, .junk, .junk, .junk, .junk, .junk, .junk, .junk, .junk, .junk, .junk, .junk, .junk, .junk, .junk, .junk, .junk, .junk, .junk, .junk, .junk, .junk, .junk, .junk, .junk, .junk, .junk, .junk, .junk, .junk, .junk, .junk, .junk, .junk, .junk, .junk, .junk, .junk, .junk, .junk, .junk, .junk, .junk, .junk, .junk, .junk], [.gone, .gone, .gone, .gone, .gone, .gone, .gone, .gone, .gone, .gone, .gone, .gone, .gone, .gone, .gone, .gone, .gone, .gone, .gone, .gone, .gone, .gone, .gone, .gone, .gone, .gone, .gone, .gone, .gone, .gone, .gone, .gone, .gone, .gone, .gone, .gone, .gone, .gone, .gone, .gone, .gone, .gone, .gone, .gone, .gone, .gone, .gone, .gone, .gone, .gone, .gone, .gone, .gone, .gone, .gone, .gone, .gone, .gone, .gone]⟩
def st_x0_ref33_Count (p10 : Int) (p11 : Int) : St := ⟨[.junk, .junk, .junk, .junk, .junk, .junk, .junk, .junk, .junk, .junk, (V.sc (.int .i64 p10)), (V.sc (.int .i64 p11)), .junk, .junk, .junk, .junk, .junk, .junk, .junk, .junk, .junk, .junk, .junk, .junk, .junk, .junk, .junk, .junk, .junk, .junk, .junk, .junk, .junk, .junk, .junk, .junk, .junk, .junk, .junk, .junk, .junk, .junk, .junk, .junk, .junk, .junk, .junk, .junk, .junk, .junk, .junk, .junk, .junk, .junk, .junk, .junk, .junk, .junk, .junk], [.gone, .gone, .gone, .gone, .gone, .gone, .gone, .gone, .gone, .gone, .gone, .gone, .gone, .gone, .gone, .gone, .gone, .gone, .gone, .gone, .gone, .gone, .gone, .gone, .gone, .gone, .gone, .gone, .gone, .gone, .gone, .gone, .gone, .gone, .gone, .gone, .gone, .gone, .gone, .gone, .gone, .gone, .gone, .gone, .gone, .gone, .gone, .gone, .gone, .gone, .gone, .gone, .gone, .gone, .gone, .gone, .gone, .gone, .gone]⟩
def e_ref33_Count {β : Type} (L : Nat) (p0 : List (List V)) (p1 : Int) (p2 : Int) (p3 : Int) (k_hbbaba : List (List V) → Int → Int → Int → Int → Int → Int → Option β) : Option β :=
 k_hbbaba p0 p1 p2 p3 (0 : Int) (0 : Int) (0 : Int)
theorem e_ref33_Count_ok {β : Type} (L : Nat) (p0 : List (List V)) (p1 : Int) (p2 : Int) (p3 : Int) (k : V → Bor → Option β) : funC sh_ref33_Count (cb_ref33_Count L) L cf_ref33_Count [(V.sl 35 p0), (V.sc (.int .i64 p1)), (V.sc (.int .i64 p2)), (V.sc (.int .i64 p3))] [] k = e_ref33_Count L p0 p1 p2 p3 (fun p0 p1 p2 p3 p10 p11 p12 => loopM (runC sh_ref33_Count (cb_ref33_Count L) 0 L cbbabaa_ref33_Count) mbbaba_ref33_Count L (st_hbbaba_ref33_Count p0 p1 p2 p3 p10 p11 p12) (blockK 0 (seqK (runC sh_ref33_Count (cb_ref33_Count L) 0 L cbbb_ref33_Count) (finK 0 (CF.res cf_ref33_Count) k)))) := by kernel_rfl
def bbbaba_ref33_Count {β : Type} (L : Nat) (p0 : List (List V)) (p1 : Int) (p2 : Int) (p3 : Int) (p10 : Int) (p11 : Int) (p12 : Int) (k_hbbaba : List (List V) → Int → Int → Int → Int → Int → Int → Option β) (k_x0 : Int → Int → Option β) : Option β :=
 ifb (decide (p12 < ((List.length p0 : Nat) : Int))) (
 idx p0 p12 fun c0 =>
 chk ((List.length (List.take 35 c0)) = 35 ∧ 0 + 35 ≤ 35) (
 lt (setAt (List.replicate 32 (V.sc (.int .u8 (0 : Int))) ++ [(V.sc (.int .i64 (0 : Int))), (V.sc (.int .i64 (0 : Int))), (V.sc (.int .i64 (0 : Int)))]) 0 (List.take 35 c0)) fun r1 =>
 cI .i64 r1 32 fun v2 =>
 ifb ((v2 : Int) != p1) (
 lt (IntKind.wrap .i64 ((p12 : Int) + (1 : Int))) fun x3 =>
 k_hbbaba p0 p1 p2 p3 p10 p11 x3) (
 cI .i64 r1 34 fun v4 =>
 ifb (decide (v4 < (1 : Int))) (
 cI .i64 r1 33 fun v5 =>
 lt (IntKind.wrap .i64 ((v5 : Int) + p2)) fun x6 =>
 ifb (decide (x6 > p3)) (
 lt (IntKind.wrap .i64 ((p12 : Int) + (1 : Int))) fun x7 =>
 k_hbbaba p0 p1 p2 p3 p10 p11 x7) (
 lt (IntKind.wrap .i64 ((p11 : Int) + (1 : Int))) fun x8 =>
 cI .i64 r1 34 fun v9 =>
 ifb (decide (v9 ≥ (1 : Int))) (
 cI .i64 r1 34 fun v10 =>
 cI .i64 r1 33 fun v11 =>
 lt (IntKind.wrap .i64 ((v10 : Int) - v11)) fun x12 =>
 ifb (decide (x12 ≤ p2)) (
 lt (IntKind.wrap .i64 ((p10 : Int) + (1 : Int))) fun x13 =>
 lt (IntKind.wrap .i64 ((p12 : Int) + (1 : Int))) fun x14 =>
 k_hbbaba p0 p1 p2 p3 x13 x8 x14) (
 lt (IntKind.wrap .i64 ((p12 : Int) + (1 : Int))) fun x15 =>
 k_hbbaba p0 p1 p2 p3 p10 x8 x15)) (
 lt (IntKind.wrap .i64 ((p12 : Int) + (1 : Int))) fun x16 =>
 k_hbbaba p0 p1 p2 p3 p10 x8 x16))) (
 lt (IntKind.wrap .i64 ((p11 : Int) + (1 : Int))) fun x17 =>
 cI .i64 r1 34 fun v18 =>
 ifb (decide (v18 ≥ (1 : Int))) (
 cI .i64 r1 34 fun v19 =>
 cI .i64 r1 33 fun v20 =>
 lt (IntKind.wrap .i64 ((v19 : Int) - v20)) fun x21 =>
 ifb (decide (x21 ≤ p2)) (
 lt (IntKind.wrap .i64 ((p10 : Int) + (1 : Int))) fun x22 =>
 lt (IntKind.wrap .i64 ((p12 : Int) + (1 : Int))) fun x23 =>
 k_hbbaba p0 p1 p2 p3 x22 x17 x23) (
 lt (IntKind.wrap .i64 ((p12 : Int) + (1 : Int))) fun x24 =>
 k_hbbaba p0 p1 p2 p3 p10 x17 x24)) (
 lt (IntKind.wrap .i64 ((p12 : Int) + (1 : Int))) fun x25 =>
 k_hbbaba p0 p1 p2 p3 p10 x17 x25))))) (
 k_x0 p10 p11)
theorem bbbaba_ref33_Count_ok {β : Type} (L : Nat) (p0 : List (List V)) (p1 : Int) (p2 : Int) (p3 : Int) (p10 : Int) (p11 : Int) (p12 : Int) (X : St → Option β) (K : KT β) : runC sh_ref33_Count (cb_ref33_Count L) 0 L cbbabaa_ref33_Count (st_hbbaba_ref33_Count p0 p1 p2 p3 p10 p11 p12) (loopK mbbaba_ref33_Count X K) = bbbaba_ref33_Count L p0 p1 p2 p3 p10 p11 p12 (fun p0 p1 p2 p3 p10 p11 p12 => X (st_hbbaba_ref33_Count p0 p1 p2 p3 p10 p11 p12)) (fun p10 p11 => K (.exit 0) (st_x0_ref33_Count p10 p11)) := by kernel_rfl
def rbbabax0_ref33_Count {β : Type} (L : Nat) (p10 : Int) (p11 : Int) (k_fin : Int → Int → Option β) : Option β :=
 k_fin p10 p11
theorem rbbabax0_ref33_Count_ok {β : Type} (L : Nat) (p10 : Int) (p11 : Int) (k : V → Bor → Option β) : (blockK 0 (seqK (runC sh_ref33_Count (cb_ref33_Count L) 0 L cbbb_ref33_Count) (finK 0 (CF.res cf_ref33_Count) k))) (.exit 0) (st_x0_ref33_Count p10 p11) = rbbabax0_ref33_Count L p10 p11 (fun p0_0 p0_1 => k (V.tup [(V.sc (.int .i64 p0_0)), (V.sc (.int .i64 p0_1))]) []) := by kernel_rfl
def lbbaba_ref33_Count {β : Type} (L : Nat) (k_x0 : Int → Int → Option β) : Nat → List (List V) → Int → Int → Int → Int → Int → Int → Option β
  | 0, _, _, _, _, _, _, _ => none
  | n + 1, p0, p1, p2, p3, p10, p11, p12 => bbbaba_ref33_Count L p0 p1 p2 p3 p10 p11 p12 (fun p0 p1 p2 p3 p10 p11 p12 => lbbaba_ref33_Count L k_x0 n p0 p1 p2 p3 p10 p11 p12) k_x0
theorem lbbaba_ref33_Count_ok {β : Type} (L : Nat) (K : KT β) : ∀ (n : Nat) (p0 : List (List V)) (p1 : Int) (p2 : Int) (p3 : Int) (p10 : Int) (p11 : Int) (p12 : Int), loopM (runC sh_ref33_Count (cb_ref33_Count L) 0 L cbbabaa_ref33_Count) mbbaba_ref33_Count n (st_hbbaba_ref33_Count p0 p1 p2 p3 p10 p11 p12) K = lbbaba_ref33_Count L (fun p10 p11 => K (.exit 0) (st_x0_ref33_Count p10 p11)) n p0 p1 p2 p3 p10 p11 p12 := by
  intro n
  induction n with
  | zero => intros; rfl
  | succ n ih =>
    intro p0 p1 p2 p3 p10 p11 p12
    refine (bbbaba_ref33_Count_ok L p0 p1 p2 p3 p10 p11 p12 (fun σ => loopM (runC sh_ref33_Count (cb_ref33_Count L) 0 L cbbabaa_ref33_Count) mbbaba_ref33_Count n σ K) K).trans ?_
    simp only [ih]
    rfl
def R_ref33_Count {β : Type} (L : Nat) (p0 : List (List V)) (p1 : Int) (p2 : Int) (p3 : Int) (k_fin : Int → Int → Option β) : Option β :=
 e_ref33_Count L p0 p1 p2 p3 (fun p0 p1 p2 p3 p10 p11 p12 => lbbaba_ref33_Count L (fun p10 p11 => rbbabax0_ref33_Count L p10 p11 k_fin) L p0 p1 p2 p3 p10 p11 p12)
theorem R_ref33_Count_ok {β : Type} (L : Nat) (p0 : List (List V)) (p1 : Int) (p2 : Int) (p3 : Int) (k : V → Bor → Option β) : funC sh_ref33_Count (cb_ref33_Count L) L cf_ref33_Count [(V.sl 35 p0), (V.sc (.int .i64 p1)), (V.sc (.int .i64 p2)), (V.sc (.int .i64 p3))] [] k = R_ref33_Count L p0 p1 p2 p3 (fun p0_0 p0_1 => k (V.tup [(V.sc (.int .i64 p0_0)), (V.sc (.int .i64 p0_1))]) []) := by
  refine (e_ref33_Count_ok L p0 p1 p2 p3 k).trans ?_
  unfold R_ref33_Count
  simp only [lbbaba_ref33_Count_ok, rbbabax0_ref33_Count_ok]
def F_ref33_Count (β : Type) (L : Nat) (p0 : List (List V)) (p1 : Int) (p2 : Int) (p3 : Int) (k_fin : Int → Int → Option β) : Option β := R_ref33_Count L p0 p1 p2 p3 k_fin
def d_ref33_Count (F_ref33_Count : ∀ (β : Type), Nat → List (List V) → Int → Int → Int → (Int → Int → Option β) → Option β) (L : Nat) (β : Type) (args : List V) (bor : Bor) (k : V → Bor → Option β) : Option β := match args, bor with
  | [a0, a1, a2, a3], [] => aL 35 a0 fun p0 => aI .i64 a1 fun p1 => aI .i64 a2 fun p2 => aI .i64 a3 fun p3 => F_ref33_Count β L p0 p1 p2 p3 (fun p0_0 p0_1 => k (V.tup [(V.sc (.int .i64 p0_0)), (V.sc (.int .i64 p0_1))]) [])
  | _, _ => none
theorem d_ref33_Count_ok (L : Nat) (β : Type) (args : List V) (bor : Bor) (k : V → Bor → Option β) (r : β) (h : d_ref33_Count F_ref33_Count L β args bor k = some r) : funC sh_ref33_Count (cb_ref33_Count L) L cf_ref33_Count args bor k = some r := by
  unfold d_ref33_Count at h
  split at h
  · have q := aL_inv h; clear h; obtain ⟨p0, rfl, h⟩ := q
    have q := aI_inv h; clear h; obtain ⟨p1, rfl, h⟩ := q
    have q := aI_inv h; clear h; obtain ⟨p2, rfl, h⟩ := q
    have q := aI_inv h; clear h; obtain ⟨p3, rfl, h⟩ := q
    exact (R_ref33_Count_ok L p0 p1 p2 p3 k).trans h
  · cases h
/-! fees_Estimate : 228 -/
def cbbbabaa_fees_Estimate : CC := (.seq (.seq (.reg [⟨(some 51), false, none, .move (.tmp 17) false⟩,
   ⟨(some 52), false, none, .bin .geq (.tmp 51) (.const (.sc (.int .i64 0)))⟩])
 (.cond (.tmp 52)
 .skip
 (.seq (.mask [false, false, false, false, false, false, false, false, false, false, false, false, false, false, true, false, false, false, false, false, false, false, false, false, false, false, false, false, false, false, false, false, false, false, false, false, false, false, false, false, false, false, false, false, false, false, false, false, false, false, false, false, false, false, false, false, false, false, false, false, false, false, false, false, false, false, false, false, false, false, false, false, false, false, false, false, false, false, false, false, false, false, false, false] [true, true, true, true, true, true, true, true, true, true, true, true, true, true, true, false, false, false, false, false, true, true, true, true, true, true, true, true, true, true, true, true, true, true, true, true, true, true, true, true, true, true, true, true, true, true, true, true, true, true, true, true, true, true, true, true, true, true, true, true, false, false, false, true, true, true, true, true, true, true, true, true, true, true, true, true, true, true, true, true, false, true, true, true])
 (.exit 0))))
 (.seq (.block 1 (.seq (.reg [⟨(some 56), false, none, .move (.tmp 0) false⟩,
   ⟨(some 57), false, none, .move (.tmp 17) false⟩,
   ⟨(some 58), false, none, .move (.tmp 1) false⟩,
   ⟨(some 59), false, none, .move (.tmp 5) false⟩,
   ⟨(some 60), false, none, .call 226 [((.tmp 56), false), ((.tmp 57), false), ((.tmp 58), false), ((.tmp 59), false)]⟩,
   ⟨(some 55), false, none, .move (.tmp 60) true⟩,
   ⟨(some 61), false, none, .pull (.tmp 55) 0⟩,
   ⟨(some 62), false, none, .pull (.tmp 55) 1⟩,
   ⟨(some 18), false, none, .move (.tmp 61) false⟩,
   ⟨(some 19), false, none, .move (.tmp 62) false⟩])
 (.seq (.reg [⟨(some 63), false, none, .move (.tmp 15) false⟩,
   ⟨(some 64), false, none, .move (.tmp 18) false⟩,
   ⟨(some 65), false, none, .bin .add (.tmp 63) (.tmp 64)⟩,
   ⟨(some 15), false, none, .move (.tmp 65) false⟩])
 (.seq (.reg [⟨(some 66), false, none, .move (.tmp 16) false⟩,
   ⟨(some 67), false, none, .move (.tmp 19) false⟩,
   ⟨(some 68), false, none, .bin .add (.tmp 66) (.tmp 67)⟩,
   ⟨(some 16), false, none, .move (.tmp 68) false⟩])
 (.seq (.seq (.reg [⟨(some 69), false, none, .move (.tmp 16) false⟩,
   ⟨(some 70), false, none, .move (.tmp 4) false⟩,
   ⟨(some 71), false, none, .bin .lss (.tmp 69) (.tmp 70)⟩])
 (.cond (.tmp 71)
 (.exit 1)
 .skip))
 (.seq (.seq (.reg [⟨(some 72), false, none, .move (.tmp 15) false⟩,
   ⟨(some 73), false, none, .move (.tmp 3) false⟩,
   ⟨(some 74), false, none, .bin .mul (.tmp 72) (.tmp 73)⟩,
   ⟨(some 75), false, none, .move (.tmp 2) false⟩,
   ⟨(some 76), false, none, .move (.tmp 16) false⟩,
   ⟨(some 77), false, none, .bin .mul (.tmp 75) (.tmp 76)⟩,
   ⟨(some 78), false, none, .bin .lss (.tmp 74) (.tmp 77)⟩])
 (.cond (.tmp 78)
 (.seq (.mask [false, false, false, false, false, false, false, false, false, false, false, false, false, false, true, false, false, false, false, false, false, false, false, false, false, false, false, false, false, false, false, false, false, false, false, false, false, false, false, false, false, false, false, false, false, false, false, false, false, false, false, false, false, false, false, false, false, false, false, false, false, false, false, false, false, false, false, false, false, false, false, false, false, false, false, false, false, false, false, false, false, false, false, false] [true, true, true, true, true, true, true, true, true, true, true, true, true, true, true, false, false, false, false, false, true, true, true, true, true, true, true, true, true, true, true, true, true, true, true, true, true, true, true, true, true, true, true, true, true, true, true, true, true, true, true, true, true, true, true, true, true, true, true, true, false, false, false, true, true, true, true, true, true, true, true, true, true, true, true, true, true, true, true, true, false, true, true, true])
 (.exit 0))
 .skip))
 (.seq (.reg [⟨(some 79), false, none, .move (.tmp 17) false⟩,
   ⟨(some 80), false, none, .call 220 [((.tmp 79), false)]⟩,
   ⟨(some 14), false, none, .move (.tmp 80) false⟩])
 (.reg [⟨(some 15), false, none, .move (.const (.sc (.int .i64 0))) false⟩,
   ⟨(some 16), false, none, .move (.const (.sc (.int .i64 0))) false⟩]))))))))
 (.reg [⟨(some 53), false, none, .move (.tmp 17) false⟩,
   ⟨(some 54), false, none, .bin .sub (.tmp 53) (.const (.sc (.int .i64 1)))⟩,
   ⟨(some 17), false, none, .move (.tmp 54) false⟩])))
def cbbbb_fees_Estimate : CC := (.seq (.seq (.reg [⟨(some 81), false, none, .move (.tmp 14) false⟩,
   ⟨(some 82), false, none, .bin .eql (.tmp 81) (.const (.sc (.int .i64 0)))⟩])
 (.cond (.tmp 82)
 (.seq (.reg [⟨(some 12), false, none, .move (.const (.sc (.int .i64 0))) false⟩,
   ⟨(some 13), false, none, .move (.const (.sc (.int .i64 330))) false⟩])
 .ret)
 .skip))
 (.seq (.reg [⟨(some 83), false, none, .move (.tmp 14) false⟩,
   ⟨(some 12), false, none, .move (.tmp 83) false⟩,
   ⟨(some 13), false, none, .move (.const (.sc (.int .i64 0))) false⟩])
 .ret))
def cf_fees_Estimate : CF := ⟨84, [.tmp 12, .tmp 13],
 (.seq (.reg [⟨(some 12), false, none, .move (.const (.sc (.int .i64 0))) false⟩,
   ⟨(some 13), false, none, .move (.const (.sc (.int .i64 0))) false⟩])
 (.seq (.seq (.reg [⟨(some 20), false, none, .move (.tmp 1) false⟩,
   ⟨(some 21), false, none, .bin .lss (.tmp 20) (.const (.sc (.int .i64 1)))⟩,
   ⟨(some 22), false, none, .move (.tmp 21) false⟩,
   ⟨(some 23), false, (some (22, false)), .move (.tmp 1) false⟩,
   ⟨(some 24), false, (some (22, false)), .bin .gtr (.tmp 23) (.const (.sc (.int .i64 24)))⟩,
   ⟨(some 25), false, none, .pick (.tmp 22) (.const (.sc (.bool true))) (.tmp 24)⟩,
   ⟨(some 26), false, none, .move (.tmp 25) false⟩,
   ⟨(some 27), false, (some (26, false)), .move (.tmp 3) false⟩,
   ⟨(some 28), false, (some (26, false)), .bin .lss (.tmp 27) (.const (.sc (.int .i64 1)))⟩,
   ⟨(some 29), false, none, .pick (.tmp 26) (.const (.sc (.bool true))) (.tmp 28)⟩,
   ⟨(some 30), false, none, .move (.tmp 29) false⟩,
   ⟨(some 31), false, (some (30, false)), .move (.tmp 3) false⟩,
   ⟨(some 32), false, (some (30, false)), .bin .gtr (.tmp 31) (.const (.sc (.int .i64 1000)))⟩,
   ⟨(some 33), false, none, .pick (.tmp 30) (.const (.sc (.bool true))) (.tmp 32)⟩,
   ⟨(some 34), false, none, .move (.tmp 33) false⟩,
   ⟨(some 35), false, (some (34, false)), .move (.tmp 2) false⟩,
   ⟨(some 36), false, (some (34, false)), .bin .lss (.tmp 35) (.const (.sc (.int .i64 0)))⟩,
   ⟨(some 37), false, none, .pick (.tmp 34) (.const (.sc (.bool true))) (.tmp 36)⟩,
   ⟨(some 38), false, none, .move (.tmp 37) false⟩,
   ⟨(some 39), false, (some (38, false)), .move (.tmp 2) false⟩,
   ⟨(some 40), false, (some (38, false)), .move (.tmp 3) false⟩,
   ⟨(some 41), false, (some (38, false)), .bin .gtr (.tmp 39) (.tmp 40)⟩,
   ⟨(some 42), false, none, .pick (.tmp 38) (.const (.sc (.bool true))) (.tmp 41)⟩,
   ⟨(some 43), false, none, .move (.tmp 42) false⟩,
   ⟨(some 44), false, (some (43, false)), .move (.tmp 4) false⟩,
   ⟨(some 45), false, (some (43, false)), .bin .lss (.tmp 44) (.const (.sc (.int .i64 1)))⟩,
   ⟨(some 46), false, none, .pick (.tmp 43) (.const (.sc (.bool true))) (.tmp 45)⟩,
   ⟨(some 47), false, none, .move (.tmp 46) false⟩,
   ⟨(some 48), false, (some (47, false)), .move (.tmp 4) false⟩,
   ⟨(some 49), false, (some (47, false)), .bin .gtr (.tmp 48) (.const (.sc (.int .i64 2048)))⟩,
   ⟨(some 50), false, none, .pick (.tmp 47) (.const (.sc (.bool true))) (.tmp 49)⟩])
 (.cond (.tmp 50)
 (.seq (.reg [⟨(some 12), false, none, .move (.const (.sc (.int .i64 0))) false⟩,
   ⟨(some 13), false, none, .move (.const (.sc (.int .i64 5))) false⟩])
 .ret)
 .skip))
 (.seq (.reg [⟨(some 14), false, none, .move (.const (.sc (.int .i64 0))) false⟩,
   ⟨(some 15), false, none, .move (.const (.sc (.int .i64 0))) false⟩,
   ⟨(some 16), false, none, .move (.const (.sc (.int .i64 0))) false⟩])
 (.seq (.seq (.reg [⟨(some 17), false, none, .move (.const (.sc (.int .i64 23))) false⟩])
 (.block 0 (.loop [true, true, true, true, true, true, false, false, false, false, false, false, false, false, true, true, true, true, false, false, false, false, false, false, false, false, false, false, false, false, false, false, false, false, false, false, false, false, false, false, false, false, false, false, false, false, false, false, false, false, false, false, false, false, false, false, false, false, false, false, false, false, false, false, false, false, false, false, false, false, false, false, false, false, false, false, false, false, false, false, false, false, false, false] [true, true, true, true, true, true, true, true, true, true, true, true, true, true, true, true, true, true, false, false, true, true, true, true, true, true, true, true, true, true, true, true, true, true, true, true, true, true, true, true, true, true, true, true, true, true, true, true, true, true, true, true, true, true, true, true, true, true, true, true, false, false, false, true, true, true, true, true, true, true, true, true, true, true, true, true, true, true, true, true, false, true, true, true]
 cbbbabaa_fees_Estimate)))
 cbbbb_fees_Estimate))))⟩
def hint_fees_Estimate : Hint := ⟨[(7, 5)], [], [none, none, none, some ([true, true, true, true, true, true, false, false, false, false, false, false, false, false, true, true, true, true, false, false, false, false, false, false, false, false, false, false, false, false, false, false, false, false, false, false, false, false, false, false, false, false, false, false, false, false, false, false, false, false, false, false, false, false, false, false, false, false, false, false, false, false, false, false, false, false, false, false, false, false, false, false, false, false, false, false, false, false, false, false, false, false, false, false], [true, true, true, true, true, true, true, true, true, true, true, true, true, true, true, true, true, true, false, false, true, true, true, true, true, true, true, true, true, true, true, true, true, true, true, true, true, true, true, true, true, true, true, true, true, true, true, true, true, true, true, true, true, true, true, true, true, true, true, true, false, false, false, true, true, true, true, true, true, true, true, true, true, true, true, true, true, true, true, true, false, true, true, true]), none, some ([false, false, false, false, false, false, false, false, false, false, false, false, false, false, true, false, false, false, false, false, false, false, false, false, false, false, false, false, false, false, false, false, false, false, false, false, false, false, false, false, false, false, false, false, false, false, false, false, false, false, false, false, false, false, false, false, false, false, false, false, false, false, false, false, false, false, false, false, false, false, false, false, false, false, false, false, false, false, false, false, false, false, false, false], [true, true, true, true, true, true, true, true, true, true, true, true, true, true, true, false, false, false, false, false, true, true, true, true, true, true, true, true, true, true, true, true, true, true, true, true, true, true, true, true, true, true, true, true, true, true, true, true, true, true, true, true, true, true, true, true, true, true, true, true, false, false, false, true, true, true, true, true, true, true, true, true, true, true, true, true, true, true, true, true, false, true, true, true]), none, none, none, none, some ([false, false, false, false, false, false, false, false, false, false, false, false, false, false, true, false, false, false, false, false, false, false, false, false, false, false, false, false, false, false, false, false, false, false, false, false, false, false, false, false, false, false, false, false, false, false, false, false, false, false, false, false, false, false, false, false, false, false, false, false, false, false, false, false, false, false, false, false, false, false, false, false, false, false, false, false, false, false, false, false, false, false, false, false], [true, true, true, true, true, true, true, true, true, true, true, true, true, true, true, false, false, false, false, false, true, true, true, true, true, true, true, true, true, true, true, true, true, true, true, true, true, true, true, true, true, true, true, true, true, true, true, true, true, true, true, true, true, true, true, true, true, true, true, true, false, false, false, true, true, true, true, true, true, true, true, true, true, true, true, true, true, true, true, true, false, true, true, true]), none, none, none], []⟩
def sh_fees_Estimate : Nat → Sh := shOf []
def cb_fees_Estimate (F_fees_Count : ∀ (β : Type), Nat → List (List V) → Int → Int → Int → (Int → Int → Option β) → Option β) (F_fees_Bound : ∀ (β : Type), Nat → Int → (Int → Option β) → Option β) (L : Nat) : CBC := (addC 220 (d_fees_Bound F_fees_Bound L) (addC 226 (d_fees_Count F_fees_Count L) noC))
def mbbbaba_fees_Estimate : St → St := mask [true, true, true, true, true, true, false, false, false, false, false, false, false, false, true, true, true, true, false, false, false, false, false, false, false, false, false, false, false, false, false, false, false, false, false, false, false, false, false, false, false, false, false, false, false, false, false, false, false, false, false, false, false, false, false, false, false, false, false, false, false, false, false, false, false, false, false, false, false, false, false, false, false, false, false, false, false, false, false, false, false, false, false, false] [true, true, true, true, true, true, true, true, true, true, true, true, true, true, true, true, true, true, false, false, true, true, true, true, true, true, true, true, true, true, true, true, true, true, true, true, true, true, true, true, true, true, true, true, true, true, true, true, true, true, true, true, true, true, true, true, true, true, true, true, false, false, false, true, true, true, true, true, true, true, true, true, true, true, true, true, true, true, true, true, false, true, true, true]
def st_hbbbaba_fees_Estimate (p0 : List (List V)) (p1 : Int) (p2 : Int) (p3 : Int) (p4 : Int) (p5 : Int) (p14 : Int) (p15 : Int) (p16 : Int) (p17 : Int) : St := ⟨[(V.sl 35 p0), (V.sc (.int .i64 p1)), (V.sc (.int .i64 p2)), (V.sc (.int .i64 p3)), (V.sc (.int .i64 p4)), (V.sc (.int .i64 p5)), .junk, .junk, .junk, .junk, .junk, .junk, .junk, .junk, (V.sc (.int .i64 p14)), (V.sc (.int .i64 p15)), (V.sc (.int .i64 p16)), (V.sc (.int .i64 p17)), .junk, .junk, .junk, .junk, .junk, .junk, .junk, .junk, .junk, .junk, .junk, .junk, .junk, .junk, .junk, .junk, .junk, .junk, .junk, .junk, .junk, .junk, .junk, .junk, .junk, .junk, .junk, .junk, .junk, .junk, .junk, .junk, .junk, .junk, .junk, .junk, .junk, .junk, .junk, .junk, .junk, .junk, .junk, .junk, .junk, .junk, .junk, .junk, .junk, .junk, .junk, .junk, .junk, .junk, .junk, .junk, .junk, .junk, .junk, .junk, .junk, .junk, .junk, .junk, .junk, .junk], [.gone, .gone, .gone, .gone, .gone, .gone, .gone, .gone, .gone, .gone, .gone, .gone, .gone, .gone, .gone, .gone, .gone, .gone, .gone, .gone, .gone, .gone, .gone, .gone, .gone, .gone, .gone, .gone, .gone, .gone, .gone, .gone, .gone, .gone, .gone, .gone, .gone, .gone, .gone, .gone, .gone, .gone, .gone, .gone, .gone, .gone, .gone, .gone, .gone, .gone, .gone, .gone, .gone, .gone, .gone, .gone, .gone, .gone, .gone, .gone, .gone, .gone, .gone, .gone, .gone, .gone, .gone, .gone, .gone, .gone, .gone, .gone, .gone, .gone, .gone, .gone, .gone, .gone, .gone, .gone, .gone, .gone, .gone, .gone]⟩
def st_x0_fees_Estimate (p14 : Int) : St := ⟨[.junk, .junk, .junk, .junk, .junk, .junk, .junk, .junk, .junk, .junk, .junk, .junk, .junk, .junk, (V.sc (.int .i64 p14)), .junk, .junk, .junk, .junk, .junk, .junk, .junk, .junk, .junk, .junk, .junk, .junk, .junk, .junk, .junk, .junk, .junk, .junk, .junk, .junk, .junk, .junk, .junk, .junk, .junk, .junk, .junk, .junk, .junk, .junk, .junk, .junk, .junk, .junk, .junk, .junk, .junk, .junk, .junk, .junk, .junk, .junk, .junk, .junk, .junk, .junk, .junk, .junk, .junk, .junk, .junk, .junk, .junk, .junk, .junk, .junk, .junk, .junk, .junk, .junk, .junk, .junk, .junk, .junk, .junk, .junk, .junk, .junk, .junk], [.gone, .gone, .gone, .gone, .gone, .gone, .gone, .gone, .gone, .gone, .gone, .gone, .gone, .gone, .gone, .gone, .gone, .gone, .gone, .gone, .gone, .gone, .gone, .gone, .gone, .gone, .gone, .gone, .gone, .gone, .gone, .gone, .gone, .gone, .gone, .gone, .gone, .gone, .gone, .gone, .gone, .gone, .gone, .gone, .gone, .gone, .gone, .gone, .gone, .gone, .gone, .gone, .gone, .gone, .gone, .gone, .gone, .gone, .gone, .gone, .gone, .gone, .gone, .gone, .gone, .gone, .gone, .gone, .gone, .gone, .gone, .gone, .gone, .gone, .gone, .gone, .gone, .gone, .gone, .gone, .gone, .gone, .gone, .gone]⟩
def e_fees_Estimate {β : Type} (F_fees_Count : ∀ (β : Type), Nat → List (List V) → Int → Int → Int → (Int → Int → Option β) → Option β) (F_fees_Bound : ∀ (β : Type), Nat → Int → (Int → Option β) → Option β) (L : Nat) (p0 : List (List V)) (p1 : Int) (p2 : Int) (p3 : Int) (p4 : Int) (p5 : Int) (k_fin : Int → Int → Option β) (k_hbbbaba : List (List V) → Int → Int → Int → Int → Int → Int → Int → Int → Int → Option β) : Option β :=
 ifb (decide (p1 < (1 : Int))) (
 k_fin (0 : Int) (5 : Int)) (
 ifb (decide (p1 > (24 : Int))) (
 k_fin (0 : Int) (5 : Int)) (
 ifb (decide (p3 < (1 : Int))) (
 k_fin (0 : Int) (5 : Int)) (
 ifb (decide (p3 > (1000 : Int))) (
 k_fin (0 : Int) (5 : Int)) (
 ifb (decide (p2 < (0 : Int))) (
 k_fin (0 : Int) (5 : Int)) (
 ifb (decide (p2 > p3)) (
 k_fin (0 : Int) (5 : Int)) (
 ifb (decide (p4 < (1 : Int))) (
 k_fin (0 : Int) (5 : Int)) (
 ifb (decide (p4 > (2048 : Int))) (
 k_fin (0 : Int) (5 : Int)) (
 k_hbbbaba p0 p1 p2 p3 p4 p5 (0 : Int) (0 : Int) (0 : Int) (23 : Int)))))))))
theorem e_fees_Estimate_ok {β : Type} (F_fees_Count : ∀ (β : Type), Nat → List (List V) → Int → Int → Int → (Int → Int → Option β) → Option β) (F_fees_Bound : ∀ (β : Type), Nat → Int → (Int → Option β) → Option β) (L : Nat) (p0 : List (List V)) (p1 : Int) (p2 : Int) (p3 : Int) (p4 : Int) (p5 : Int) (k : V → Bor → Option β) : funC sh_fees_Estimate (cb_fees_Estimate F_fees_Count F_fees_Bound L) L cf_fees_Estimate [(V.sl 35 p0), (V.sc (.int .i64 p1)), (V.sc (.int .i64 p2)), (V.sc (.int .i64 p3)), (V.sc (.int .i64 p4)), (V.sc (.int .i64 p5))] [] k = e_fees_Estimate F_fees_Count F_fees_Bound L p0 p1 p2 p3 p4 p5 (fun p0_0 p0_1 => k (V.tup [(V.sc (.int .i64 p0_0)), (V.sc (.int .i64 p0_1))]) []) (fun p0 p1 p2 p3 p4 p5 p14 p15 p16 p17 => loopM (runC sh_fees_Estimate (cb_fees_Estimate F_fees_Count F_fees_Bound L) 0 L cbbbabaa_fees_Estimate) mbbbaba_fees_Estimate L (st_hbbbaba_fees_Estimate p0 p1 p2 p3 p4 p5 p14 p15 p16 p17) (blockK 0 (seqK (runC sh_fees_Estimate (cb_fees_Estimate F_fees_Count F_fees_Bound L) 0 L cbbbb_fees_Estimate) (finK 0 (CF.res cf_fees_Estimate) k)))) := by kernel_rfl
def bbbbaba_fees_Estimate {β : Type} (F_fees_Count : ∀ (β : Type), Nat → List (List V) → Int → Int → Int → (Int → Int → Option β) → Option β) (F_fees_Bound : ∀ (β : Type), Nat → Int → (Int → Option β) → Option β) (L : Nat) (p0 : List (List V)) (p1 : Int) (p2 : Int) (p3 : Int) (p4 : Int) (p5 : Int) (p14 : Int) (p15 : Int) (p16 : Int) (p17 : Int) (k_hbbbaba : List (List V) → Int → Int → Int → Int → Int → Int → Int → Int → Int → Option β) (k_x0 : Int → Option β) : Option β :=
 ifb (decide (p17 ≥ (0 : Int))) (
 F_fees_Count β L p0 p17 p1 p5 (fun v0 v1 =>
 lt (IntKind.wrap .i64 ((p15 : Int) + v0)) fun x2 =>
 lt (IntKind.wrap .i64 ((p16 : Int) + v1)) fun x3 =>
 ifb (decide (x3 < p4)) (
 lt (IntKind.wrap .i64 ((p17 : Int) - (1 : Int))) fun x4 =>
 k_hbbbaba p0 p1 p2 p3 p4 p5 p14 x2 x3 x4) (
 lt (IntKind.wrap .i64 ((x2 : Int) * p3)) fun x5 =>
 lt (IntKind.wrap .i64 ((p2 : Int) * x3)) fun x6 =>
 ifb (decide (x5 < x6)) (
 k_x0 p14) (
 F_fees_Bound β L p17 (fun v7 =>
 lt (IntKind.wrap .i64 ((p17 : Int) - (1 : Int))) fun x8 =>
 k_hbbbaba p0 p1 p2 p3 p4 p5 v7 (0 : Int) (0 : Int) x8))))) (
 k_x0 p14)
theorem bbbbaba_fees_Estimate_ok {β : Type} (F_fees_Count : ∀ (β : Type), Nat → List (List V) → Int → Int → Int → (Int → Int → Option β) → Option β) (F_fees_Bound : ∀ (β : Type), Nat → Int → (Int → Option β) → Option β) (L : Nat) (p0 : List (List V)) (p1 : Int) (p2 : Int) (p3 : Int) (p4 : Int) (p5 : Int) (p14 : Int) (p15 : Int) (p16 : Int) (p17 : Int) (X : St → Option β) (K : KT β) : runC sh_fees_Estimate (cb_fees_Estimate F_fees_Count F_fees_Bound L) 0 L cbbbabaa_fees_Estimate (st_hbbbaba_fees_Estimate p0 p1 p2 p3 p4 p5 p14 p15 p16 p17) (loopK mbbbaba_fees_Estimate X K) = bbbbaba_fees_Estimate F_fees_Count F_fees_Bound L p0 p1 p2 p3 p4 p5 p14 p15 p16 p17 (fun p0 p1 p2 p3 p4 p5 p14 p15 p16 p17 => X (st_hbbbaba_fees_Estimate p0 p1 p2 p3 p4 p5 p14 p15 p16 p17)) (fun p14 => K (.exit 0) (st_x0_fees_Estimate p14)) := by kernel_rfl
def rbbbabax0_fees_Estimate {β : Type} (F_fees_Count : ∀ (β : Type), Nat → List (List V) → Int → Int → Int → (Int → Int → Option β) → Option β) (F_fees_Bound : ∀ (β : Type), Nat → Int → (Int → Option β) → Option β) (L : Nat) (p14 : Int) (k_fin : Int → Int → Option β) : Option β :=
 ifb ((p14 : Int) == (0 : Int)) (
 k_fin (0 : Int) (330 : Int)) (
 k_fin p14 (0 : Int))
theorem rbbbabax0_fees_Estimate_ok {β : Type} (F_fees_Count : ∀ (β : Type), Nat → List (List V) → Int → Int → Int → (Int → Int → Option β) → Option β) (F_fees_Bound : ∀ (β : Type), Nat → Int → (Int → Option β) → Option β) (L : Nat) (p14 : Int) (k : V → Bor → Option β) : (blockK 0 (seqK (runC sh_fees_Estimate (cb_fees_Estimate F_fees_Count F_fees_Bound L) 0 L cbbbb_fees_Estimate) (finK 0 (CF.res cf_fees_Estimate) k))) (.exit 0) (st_x0_fees_Estimate p14) = rbbbabax0_fees_Estimate F_fees_Count F_fees_Bound L p14 (fun p0_0 p0_1 => k (V.tup [(V.sc (.int .i64 p0_0)), (V.sc (.int .i64 p0_1))]) []) := by kernel_rfl
def lbbbaba_fees_Estimate {β : Type} (F_fees_Count : ∀ (β : Type), Nat → List (List V) → Int → Int → Int → (Int → Int → Option β) → Option β) (F_fees_Bound : ∀ (β : Type), Nat → Int → (Int → Option β) → Option β) (L : Nat) (k_x0 : Int → Option β) : Nat → List (List V) → Int → Int → Int → Int → Int → Int → Int → Int → Int → Option β
  | 0, _, _, _, _, _, _, _, _, _, _ => none
  | n + 1, p0, p1, p2, p3, p4, p5, p14, p15, p16, p17 => bbbbaba_fees_Estimate F_fees_Count F_fees_Bound L p0 p1 p2 p3 p4 p5 p14 p15 p16 p17 (fun p0 p1 p2 p3 p4 p5 p14 p15 p16 p17 => lbbbaba_fees_Estimate F_fees_Count F_fees_Bound L k_x0 n p0 p1 p2 p3 p4 p5 p14 p15 p16 p17) k_x0
theorem lbbbaba_fees_Estimate_ok {β : Type} (F_fees_Count : ∀ (β : Type), Nat → List (List V) → Int → Int → Int → (Int → Int → Option β) → Option β) (F_fees_Bound : ∀ (β : Type), Nat → Int → (Int → Option β) → Option β) (L : Nat) (K : KT β) : ∀ (n : Nat) (p0 : List (List V)) (p1 : Int) (p2 : Int) (p3 : Int) (p4 : Int) (p5 : Int) (p14 : Int) (p15 : Int) (p16 : Int) (p17 : Int), loopM (runC sh_fees_Estimate (cb_fees_Estimate F_fees_Count F_fees_Bound L) 0 L cbbbabaa_fees_Estimate) mbbbaba_fees_Estimate n (st_hbbbaba_fees_Estimate p0 p1 p2 p3 p4 p5 p14 p15 p16 p17) K = lbbbaba_fees_Estimate F_fees_Count F_fees_Bound L (fun p14 => K (.exit 0) (st_x0_fees_Estimate p14)) n p0 p1 p2 p3 p4 p5 p14 p15 p16 p17 := by
  intro n
  induction n with
  | zero => intros; rfl
  | succ n ih =>
    intro p0 p1 p2 p3 p4 p5 p14 p15 p16 p17
    refine (bbbbaba_fees_Estimate_ok F_fees_Count F_fees_Bound L p0 p1 p2 p3 p4 p5 p14 p15 p16 p17 (fun σ => loopM (runC sh_fees_Estimate (cb_fees_Estimate F_fees_Count F_fees_Bound L) 0 L cbbbabaa_fees_Estimate) mbbbaba_fees_Estimate n σ K) K).trans ?_
    simp only [ih]
    rfl
def R_fees_Estimate {β : Type} (F_fees_Count : ∀ (β : Type), Nat → List (List V) → Int → Int → Int → (Int → Int → Option β) → Option β) (F_fees_Bound : ∀ (β : Type), Nat → Int → (Int → Option β) → Option β) (L : Nat) (p0 : List (List V)) (p1 : Int) (p2 : Int) (p3 : Int) (p4 : Int) (p5 : Int) (k_fin : Int → Int → Option β) : Option β :=
 e_fees_Estimate F_fees_Count F_fees_Bound L p0 p1 p2 p3 p4 p5 k_fin (fun p0 p1 p2 p3 p4 p5 p14 p15 p16 p17 => lbbbaba_fees_Estimate F_fees_Count F_fees_Bound L (fun p14 => rbbbabax0_fees_Estimate F_fees_Count F_fees_Bound L p14 k_fin) L p0 p1 p2 p3 p4 p5 p14 p15 p16 p17)
theorem R_fees_Estimate_ok {β : Type} (F_fees_Count : ∀ (β : Type), Nat → List (List V) → Int → Int → Int → (Int → Int → Option β) → Option β) (F_fees_Bound : ∀ (β : Type), Nat → Int → (Int → Option β) → Option β) (L : Nat) (p0 : List (List V)) (p1 : Int) (p2 : Int) (p3 : Int) (p4 : Int) (p5 : Int) (k : V → Bor → Option β) : funC sh_fees_Estimate (cb_fees_Estimate F_fees_Count F_fees_Bound L) L cf_fees_Estimate [(V.sl 35 p0), (V.sc (.int .i64 p1)), (V.sc (.int .i64 p2)), (V.sc (.int .i64 p3)), (V.sc (.int .i64 p4)), (V.sc (.int .i64 p5))] [] k = R_fees_Estimate F_fees_Count F_fees_Bound L p0 p1 p2 p3 p4 p5 (fun p0_0 p0_1 => k (V.tup [(V.sc (.int .i64 p0_0)), (V.sc (.int .i64 p0_1))]) []) := by
  refine (e_fees_Estimate_ok F_fees_Count F_fees_Bound L p0 p1 p2 p3 p4 p5 k).trans ?_
  unfold R_fees_Estimate
  simp only [lbbbaba_fees_Estimate_ok, rbbbabax0_fees_Estimate_ok]
def F_fees_Estimate (β : Type) (L : Nat) (p0 : List (List V)) (p1 : Int) (p2 : Int) (p3 : Int) (p4 : Int) (p5 : Int) (k_fin : Int → Int → Option β) : Option β := R_fees_Estimate F_fees_Count F_fees_Bound L p0 p1 p2 p3 p4 p5 k_fin
def d_fees_Estimate (F_fees_Estimate : ∀ (β : Type), Nat → List (List V) → Int → Int → Int → Int → Int → (Int → Int → Option β) → Option β) (L : Nat) (β : Type) (args : List V) (bor : Bor) (k : V → Bor → Option β) : Option β := match args, bor with
  | [a0, a1, a2, a3, a4, a5], [] => aL 35 a0 fun p0 => aI .i64 a1 fun p1 => aI .i64 a2 fun p2 => aI .i64 a3 fun p3 => aI .i64 a4 fun p4 => aI .i64 a5 fun p5 => F_fees_Estimate β L p0 p1 p2 p3 p4 p5 (fun p0_0 p0_1 => k (V.tup [(V.sc (.int .i64 p0_0)), (V.sc (.int .i64 p0_1))]) [])
  | _, _ => none
theorem d_fees_Estimate_ok (L : Nat) (β : Type) (args : List V) (bor : Bor) (k : V → Bor → Option β) (r : β) (h : d_fees_Estimate F_fees_Estimate L β args bor k = some r) : funC sh_fees_Estimate (cb_fees_Estimate F_fees_Count F_fees_Bound L) L cf_fees_Estimate args bor k = some r := by
  unfold d_fees_Estimate at h
  split at h
  · have q := aL_inv h; clear h; obtain ⟨p0, rfl, h⟩ := q
    have q := aI_inv h; clear h; obtain ⟨p1, rfl, h⟩ := q
    have q := aI_inv h; clear h; obtain ⟨p2, rfl, h⟩ := q
    have q := aI_inv h; clear h; obtain ⟨p3, rfl, h⟩ := q
    have q := aI_inv h; clear h; obtain ⟨p4, rfl, h⟩ := q
    have q := aI_inv h; clear h; obtain ⟨p5, rfl, h⟩ := q
    exact (R_fees_Estimate_ok F_fees_Count F_fees_Bound L p0 p1 p2 p3 p4 p5 k).trans h
  · cases h
/-! ref33_Estimate : 229 -/
def cbbbabaa_ref33_Estimate : CC := (.seq (.seq (.reg [⟨(some 39), false, none, .move (.tmp 17) false⟩,
   ⟨(some 40), false, none, .bin .geq (.tmp 39) (.const (.sc (.int .i64 0)))⟩])
 (.cond (.tmp 40)
 .skip
 (.seq (.mask [false, false, false, false, false, false, false, false, false, false, false, false, false, false, true, false, false, false, false, false, false, false, false, false, false, false, false, false, false, false, false, false, false, false, false, false, false, false, false, false, false, false, false, false, false, false, false, false, false, false, false, false, false, false, false, false, false, false, false, false, false, false, false, false, false, false, false, false, false, false, false, false] [true, true, true, true, true, true, true, true, true, true, true, true, true, true, true, false, false, false, false, false, true, true, true, true, true, true, true, true, true, true, true, true, true, true, true, true, true, true, true, true, true, true, true, true, true, true, true, true, false, false, false, true, true, true, true, true, true, true, true, true, true, true, true, true, true, true, true, true, false, true, true, true])
 (.exit 0))))
 (.seq (.block 1 (.seq (.reg [⟨(some 44), false, none, .move (.tmp 0) false⟩,
   ⟨(some 45), false, none, .move (.tmp 17) false⟩,
   ⟨(some 46), false, none, .move (.tmp 1) false⟩,
   ⟨(some 47), false, none, .move (.tmp 5) false⟩,
   ⟨(some 48), false, none, .call 227 [((.tmp 44), false), ((.tmp 45), false), ((.tmp 46), false), ((.tmp 47), false)]⟩,
   ⟨(some 43), false, none, .move (.tmp 48) true⟩,
   ⟨(some 49), false, none, .pull (.tmp 43) 0⟩,
   ⟨(some 50), false, none, .pull (.tmp 43) 1⟩,
   ⟨(some 18), false, none, .move (.tmp 49) false⟩,
   ⟨(some 19), false, none, .move (.tmp 50) false⟩])
 (.seq (.reg [⟨(some 51), false, none, .move (.tmp 15) false⟩,
   ⟨(some 52), false, none, .move (.tmp 18) false⟩,
   ⟨(some 53), false, none, .bin .add (.tmp 51) (.tmp 52)⟩,
   ⟨(some 54), false, none, .move (.tmp 16) false⟩,
   ⟨(some 55), false, none, .move (.tmp 19) false⟩,
   ⟨(some 56), false, none, .bin .add (.tmp 54) (.tmp 55)⟩,
   ⟨(some 15), false, none, .move (.tmp 53) false⟩,
   ⟨(some 16), false, none, .move (.tmp 56) false⟩])
 (.seq (.seq (.reg [⟨(some 57), false, none, .move (.tmp 16) false⟩,
   ⟨(some 58), false, none, .move (.tmp 4) false⟩,
   ⟨(some 59), false, none, .bin .lss (.tmp 57) (.tmp 58)⟩])
 (.cond (.tmp 59)
 (.exit 1)
 .skip))
 (.seq (.seq (.reg [⟨(some 60), false, none, .move (.tmp 15) false⟩,
   ⟨(some 61), false, none, .move (.tmp 3) false⟩,
   ⟨(some 62), false, none, .bin .mul (.tmp 60) (.tmp 61)⟩,
   ⟨(some 63), false, none, .move (.tmp 2) false⟩,
   ⟨(some 64), false, none, .move (.tmp 16) false⟩,
   ⟨(some 65), false, none, .bin .mul (.tmp 63) (.tmp 64)⟩,
   ⟨(some 66), false, none, .bin .lss (.tmp 62) (.tmp 65)⟩])
 (.cond (.tmp 66)
 (.seq (.mask [false, false, false, false, false, false, false, false, false, false, false, false, false, false, true, false, false, false, false, false, false, false, false, false, false, false, false, false, false, false, false, false, false, false, false, false, false, false, false, false, false, false, false, false, false, false, false, false, false, false, false, false, false, false, false, false, false, false, false, false, false, false, false, false, false, false, false, false, false, false, false, false] [true, true, true, true, true, true, true, true, true, true, true, true, true, true, true, false, false, false, false, false, true, true, true, true, true, true, true, true, true, true, true, true, true, true, true, true, true, true, true, true, true, true, true, true, true, true, true, true, false, false, false, true, true, true, true, true, true, true, true, true, true, true, true, true, true, true, true, true, false, true, true, true])
 (.exit 0))
 .skip))
 (.reg [⟨(some 67), false, none, .move (.tmp 17) false⟩,
   ⟨(some 68), false, none, .call 221 [((.tmp 67), false)]⟩,
   ⟨(some 14), false, none, .move (.tmp 68) false⟩,
   ⟨(some 15), false, none, .move (.const (.sc (.int .i64 0))) false⟩,
   ⟨(some 16), false, none, .move (.const (.sc (.int .i64 0))) false⟩]))))))
 (.reg [⟨(some 41), false, none, .move (.tmp 17) false⟩,
   ⟨(some 42), false, none, .bin .sub (.tmp 41) (.const (.sc (.int .i64 1)))⟩,
   ⟨(some 17), false, none, .move (.tmp 42) false⟩])))
def cbbbb_ref33_Estimate : CC := (.seq (.seq (.reg [⟨(some 69), false, none, .move (.tmp 14) false⟩,
   ⟨(some 70), false, none, .bin .eql (.tmp 69) (.const (.sc (.int .i64 0)))⟩])
 (.cond (.tmp 70)
 (.seq (.reg [⟨(some 12), false, none, .move (.const (.sc (.int .i64 0))) false⟩,
   ⟨(some 13), false, none, .move (.const (.sc (.int .i64 330))) false⟩])
 .ret)
 .skip))
 (.seq (.reg [⟨(some 71), false, none, .move (.tmp 14) false⟩,
   ⟨(some 12), false, none, .move (.tmp 71) false⟩,
   ⟨(some 13), false, none, .move (.const (.sc (.int .i64 0))) false⟩])
 .ret))
def cf_ref33_Estimate : CF := ⟨72, [.tmp 12, .tmp 13],
 (.seq (.reg [⟨(some 12), false, none, .move (.const (.sc (.int .i64 0))) false⟩,
   ⟨(some 13), false, none, .move (.const (.sc (.int .i64 0))) false⟩])
 (.seq (.seq (.reg [⟨(some 20), false, none, .move (.tmp 1) false⟩,
   ⟨(some 21), false, none, .call 242 [((.tmp 20), false), ((.const (.sc (.int .i64 1))), false), ((.const (.sc (.int .i64 24))), false)]⟩,
   ⟨(some 22), false, none, .un .not (.tmp 21)⟩,
   ⟨(some 23), false, none, .move (.tmp 22) false⟩,
   ⟨(some 24), false, (some (23, false)), .move (.tmp 3) false⟩,
   ⟨(some 25), false, (some (23, false)), .call 242 [((.tmp 24), false), ((.const (.sc (.int .i64 1))), false), ((.const (.sc (.int .i64 1000))), false)]⟩,
   ⟨(some 26), false, (some (23, false)), .un .not (.tmp 25)⟩,
   ⟨(some 27), false, none, .pick (.tmp 23) (.const (.sc (.bool true))) (.tmp 26)⟩,
   ⟨(some 28), false, none, .move (.tmp 27) false⟩,
   ⟨(some 29), false, (some (28, false)), .move (.tmp 2) false⟩,
   ⟨(some 30), false, (some (28, false)), .move (.tmp 3) false⟩,
   ⟨(some 31), false, (some (28, false)), .call 242 [((.tmp 29), false), ((.const (.sc (.int .i64 0))), false), ((.tmp 30), false)]⟩,
   ⟨(some 32), false, (some (28, false)), .un .not (.tmp 31)⟩,
   ⟨(some 33), false, none, .pick (.tmp 28) (.const (.sc (.bool true))) (.tmp 32)⟩,
   ⟨(some 34), false, none, .move (.tmp 33) false⟩,
   ⟨(some 35), false, (some (34, false)), .move (.tmp 4) false⟩,
   ⟨(some 36), false, (some (34, false)), .call 242 [((.tmp 35), false), ((.const (.sc (.int .i64 1))), false), ((.const (.sc (.int .i64 2048))), false)]⟩,
   ⟨(some 37), false, (some (34, false)), .un .not (.tmp 36)⟩,
   ⟨(some 38), false, none, .pick (.tmp 34) (.const (.sc (.bool true))) (.tmp 37)⟩])
 (.cond (.tmp 38)
 (.seq (.reg [⟨(some 12), false, none, .move (.const (.sc (.int .i64 0))) false⟩,
   ⟨(some 13), false, none, .move (.const (.sc (.int .i64 5))) false⟩])
 .ret)
 .skip))
 (.seq (.reg [⟨(some 14), false, none, .move (.const (.sc (.int .i64 0))) false⟩,
   ⟨(some 15), false, none, .move (.const (.sc (.int .i64 0))) false⟩,
   ⟨(some 16), false, none, .move (.const (.sc (.int .i64 0))) false⟩])
 (.seq (.seq (.reg [⟨(some 17), false, none, .move (.const (.sc (.int .i64 23))) false⟩])
 (.block 0 (.loop [true, true, true, true, true, true, false, false, false, false, false, false, false, false, true, true, true, true, false, false, false, false, false, false, false, false, false, false, false, false, false, false, false, false, false, false, false, false, false, false, false, false, false, false, false, false, false, false, false, false, false, false, false, false, false, false, false, false, false, false, false, false, false, false, false, false, false, false, false, false, false, false] [true, true, true, true, true, true, true, true, true, true, true, true, true, true, true, true, true, true, false, false, true, true, true, true, true, true, true, true, true, true, true, true, true, true, true, true, true, true, true, true, true, true, true, true, true, true, true, true, false, false, false, true, true, true, true, true, true, true, true, true, true, true, true, true, true, true, true, true, false, true, true, true]
 cbbbabaa_ref33_Estimate)))
 cbbbb_ref33_Estimate))))⟩
def hint_ref33_Estimate : Hint := ⟨[(7, 5)], [], [none, none, none, some ([true, true, true, true, true, true, false, false, false, false, false, false, false, false, true, true, true, true, false, false, false, false, false, false, false, false, false, false, false, false, false, false, false, false, false, false, false, false, false, false, false, false, false, false, false, false, false, false, false, false, false, false, false, false, false, false, false, false, false, false, false, false, false, false, false, false, false, false, false, false, false, false], [true, true, true, true, true, true, true, true, true, true, true, true, true, true, true, true, true, true, false, false, true, true, true, true, true, true, true, true, true, true, true, true, true, true, true, true, true, true, true, true, true, true, true, true, true, true, true, true, false, false, false, true, true, true, true, true, true, true, true, true, true, true, true, true, true, true, true, true, false, true, true, true]), none, some ([false, false, false, false, false, false, false, false, false, false, false, false, false, false, true, false, false, false, false, false, false, false, false, false, false, false, false, false, false, false, false, false, false, false, false, false, false, false, false, false, false, false, false, false, false, false, false, false, false, false, false, false, false, false, false, false, false, false, false, false, false, false, false, false, false, false, false, false, false, false, false, false], [true, true, true, true, true, true, true, true, true, true, true, true, true, true, true, false, false, false, false, false, true, true, true, true, true, true, true, true, true, true, true, true, true, true, true, true, true, true, true, true, true, true, true, true, true, true, true, true, false, false, false, true, true, true, true, true, true, true, true, true, true, true, true, true, true, true, true, true, false, true, true, true]), none, none, none, none, some ([false, false, false, false, false, false, false, false, false, false, false, false, false, false, true, false, false, false, false, false, false, false, false, false, false, false, false, false, false, false, false, false, false, false, false, false, false, false, false, false, false, false, false, false, false, false, false, false, false, false, false, false, false, false, false, false, false, false, false, false, false, false, false, false, false, false, false, false, false, false, false, false], [true, true, true, true, true, true, true, true, true, true, true, true, true, true, true, false, false, false, false, false, true, true, true, true, true, true, true, true, true, true, true, true, true, true, true, true, true, true, true, true, true, true, true, true, true, true, true, true, false, false, false, true, true, true, true, true, true, true, true, true, true, true, true, true, true, true, true, true, false, true, true, true]), none, none, none], []⟩
def sh_ref33_Estimate : Nat → Sh := shOf []
def cb_ref33_Estimate (F_ref33_in : ∀ (β : Type), Nat → Int → Int → Int → (Bool → Option β) → Option β) (F_ref33_Count : ∀ (β : Type), Nat → List (List V) → Int → Int → Int → (Int → Int → Option β) → Option β) (F_ref33_Bound : ∀ (β : Type), Nat → Int → (Int → Option β) → Option β) (L : Nat) : CBC := (addC 221 (d_ref33_Bound F_ref33_Bound L) (addC 227 (d_ref33_Count F_ref33_Count L) (addC 242 (d_ref33_in F_ref33_in L) noC)))
def mbbbaba_ref33_Estimate : St → St := mask [true, true, true, true, true, true, false, false, false, false, false, false, false, false, true, true, true, true, false, false, false, false, false, false, false, false, false, false, false, false, false, false, false, false, false, false, false, false, false, false, false, false, false, false, false, false, false, false, false, false, false, false, false, false, false, false, false, false, false, false, false, false, false, false, false, false, false, false, false, false, false, false] [true, true, true, true, true, true, true, true, true, true, true, true, true, true, true, true, true, true, false, false, true, true, true, true, true, true, true, true, true, true, true, true, true, true, true, true, true, true, true, true, true, true, true, true, true, true, true, true, false, false, false, true, true, true, true, true, true, true, true, true, true, true, true, true, true, true, true, true, false, true, true, true]
def st_hbbbaba_ref33_Estimate (p0 : List (List V)) (p1 : Int) (p2 : Int) (p3 : Int) (p4 : Int) (p5 : Int) (p14 : Int) (p15 : Int) (p16 : Int) (p17 : Int) : St := ⟨[(V.sl 35 p0), (V.sc (.int .i64 p1)), (V.sc (.int .i64 p2)), (V.sc (.int .i64 p3)), (V.sc (.int .i64 p4)), (V.sc (.int .i64 p5)), .junk, .junk, .junk, .junk, .junk, .junk, .junk, .junk, (V.sc (.int .i64 p14)), (V.sc (.int .i64 p15)), (V.sc (.int .i64 p16)), (V.sc (.int .i64 p17)), .junk, .junk, .junk, .junk, .junk, .junk, .junk, .junk, .junk, .junk, .junk, .junk, .junk, .junk, .junk, .junk, .junk, .junk, .junk, .junk, .junk, .junk, .junk, .junk, .junk, .junk, .junk, .junk, .junk, .junk, .junk, .junk, .junk, .junk, .junk, .junk, .junk, .junk, .junk, .junk, .junk, .junk, .junk, .junk, .junk, .junk, .junk, .junk, .junk, .junk, .junk, .junk, .junk, .junk], [.gone, .gone, .gone, .gone, .gone, .gone, .gone, .gone, .gone, .gone, .gone, .gone, .gone, .gone, .gone, .gone, .gone, .gone, .gone, .gone, .gone, .gone, .gone, .gone, .gone, .gone, .gone, .gone, .gone, .gone, .gone, .gone, .gone, .gone, .gone, .gone, .gone, .gone, .gone, .gone, .gone, .gone, .gone, .gone, .gone, .gone, .gone, .gone, .gone, .gone, .gone, .gone, .gone, .gone, .gone, .gone, .gone, .gone, .gone, .gone, .gone, .gone, .gone, .gone, .gone, .gone, .gone, .gone, .gone, .gone, .gone, .gone]⟩
def st_x0_ref33_Estimate (p14 : Int) : St := ⟨[.junk, .junk, .junk, .junk, .junk, .junk, .junk, .junk, .junk, .junk, .junk, .junk, .junk, .junk, (V.sc (.int .i64 p14)), .junk, .junk, .junk, .junk, .junk, .junk, .junk, .junk, .junk, .junk, .junk, .junk, .junk, .junk, .junk, .junk, .junk, .junk, .junk, .junk, .junk, .junk, .junk, .junk, .junk, .junk, .junk, .junk, .junk, .junk, .junk, .junk, .junk, .junk, .junk, .junk, .junk, .junk, .junk, .junk, .junk, .junk, .junk, .junk, .junk, .junk, .junk, .junk, .junk, .junk, .junk, .junk, .junk, .junk, .junk, .junk, .junk], [.gone, .gone, .gone, .gone, .gone, .gone, .gone, .gone, .gone, .gone, .gone, .gone, .gone, .gone, .gone, .gone, .gone, .gone, .gone, .gone, .gone, .gone, .gone, .gone, .gone, .gone, .gone, .gone, .gone, .gone, .gone, .gone, .gone, .gone, .gone, .gone, .gone, .gone, .gone, .gone, .gone, .gone, .gone, .gone, .gone, .gone, .gone, .gone, .gone, .gone, .gone, .gone, .gone, .gone, .gone, .gone, .gone, .gone, .gone, .gone, .gone, .gone, .gone, .gone, .gone, .gone, .gone, .gone, .gone, .gone, .gone, .gone]⟩
def e_ref33_Estimate {β : Type} (F_ref33_in : ∀ (β : Type), Nat → Int → Int → Int → (Bool → Option β) → Option β) (F_ref33_Count : ∀ (β : Type), Nat → List (List V) → Int → Int → Int → (Int → Int → Option β) → Option β) (F_ref33_Bound : ∀ (β : Type), Nat → Int → (Int → Option β) → Option β) (L : Nat) (p0 : List (List V)) (p1 : Int) (p2 : Int) (p3 : Int) (p4 : Int) (p5 : Int) (k_fin : Int → Int → Option β) (k_hbbbaba : List (List V) → Int → Int → Int → Int → Int → Int → Int → Int → Int → Option β) : Option β :=
 F_ref33_in β L p1 (1 : Int) (24 : Int) (fun v0 =>
 ifb (!v0) (
 k_fin (0 : Int) (5 : Int)) (
 F_ref33_in β L p3 (1 : Int) (1000 : Int) (fun v1 =>
 ifb (!v1) (
 k_fin (0 : Int) (5 : Int)) (
 F_ref33_in β L p2 (0 : Int) p3 (fun v2 =>
 ifb (!v2) (
 k_fin (0 : Int) (5 : Int)) (
 F_ref33_in β L p4 (1 : Int) (2048 : Int) (fun v3 =>
 ifb (!v3) (
 k_fin (0 : Int) (5 : Int)) (
 k_hbbbaba p0 p1 p2 p3 p4 p5 (0 : Int) (0 : Int) (0 : Int) (23 : Int)))))))))
theorem e_ref33_Estimate_ok {β : Type} (F_ref33_in : ∀ (β : Type), Nat → Int → Int → Int → (Bool → Option β) → Option β) (F_ref33_Count : ∀ (β : Type), Nat → List (List V) → Int → Int → Int → (Int → Int → Option β) → Option β) (F_ref33_Bound : ∀ (β : Type), Nat → Int → (Int → Option β) → Option β) (L : Nat) (p0 : List (List V)) (p1 : Int) (p2 : Int) (p3 : Int) (p4 : Int) (p5 : Int) (k : V → Bor → Option β) : funC sh_ref33_Estimate (cb_ref33_Estimate F_ref33_in F_ref33_Count F_ref33_Bound L) L cf_ref33_Estimate [(V.sl 35 p0), (V.sc (.int .i64 p1)), (V.sc (.int .i64 p2)), (V.sc (.int .i64 p3)), (V.sc (.int .i64 p4)), (V.sc (.int .i64 p5))] [] k = e_ref33_Estimate F_ref33_in F_ref33_Count F_ref33_Bound L p0 p1 p2 p3 p4 p5 (fun p0_0 p0_1 => k (V.tup [(V.sc (.int .i64 p0_0)), (V.sc (.int .i64 p0_1))]) []) (fun p0 p1 p2 p3 p4 p5 p14 p15 p16 p17 => loopM (runC sh_ref33_Estimate (cb_ref33_Estimate F_ref33_in F_ref33_Count F_ref33_Bound L) 0 L cbbbabaa_ref33_Estimate) mbbbaba_ref33_Estimate L (st_hbbbaba_ref33_Estimate p0 p1 p2 p3 p4 p5 p14 p15 p16 p17) (blockK 0 (seqK (runC sh_ref33_Estimate (cb_ref33_Estimate F_ref33_in F_ref33_Count F_ref33_Bound L) 0 L cbbbb_ref33_Estimate) (finK 0 (CF.res cf_ref33_Estimate) k)))) := by kernel_rfl
def bbbbaba_ref33_Estimate {β : Type} (F_ref33_in : ∀ (β : Type), Nat → Int → Int → Int → (Bool → Option β) → Option β) (F_ref33_Count : ∀ (β : Type), Nat → List (List V) → Int → Int → Int → (Int → Int → Option β) → Option β) (F_ref33_Bound : ∀ (β : Type), Nat → Int → (Int → Option β) → Option β) (L : Nat) (p0 : List (List V)) (p1 : Int) (p2 : Int) (p3 : Int) (p4 : Int) (p5 : Int) (p14 : Int) (p15 : Int) (p16 : Int) (p17 : Int) (k_hbbbaba : List (List V) → Int → Int → Int → Int → Int → Int → Int → Int → Int → Option β) (k_x0 : Int → Option β) : Option β :=
 ifb (decide (p17 ≥ (0 : Int))) (
 F_ref33_Count β L p0 p17 p1 p5 (fun v4 v5 =>
 lt (IntKind.wrap .i64 ((p15 : Int) + v4)) fun x6 =>
 lt (IntKind.wrap .i64 ((p16 : Int) + v5)) fun x7 =>
 ifb (decide (x7 < p4)) (
 lt (IntKind.wrap .i64 ((p17 : Int) - (1 : Int))) fun x8 =>
 k_hbbbaba p0 p1 p2 p3 p4 p5 p14 x6 x7 x8) (
 lt (IntKind.wrap .i64 ((x6 : Int) * p3)) fun x9 =>
 lt (IntKind.wrap .i64 ((p2 : Int) * x7)) fun x10 =>
 ifb (decide (x9 < x10)) (
 k_x0 p14) (
 F_ref33_Bound β L p17 (fun v11 =>
 lt (IntKind.wrap .i64 ((p17 : Int) - (1 : Int))) fun x12 =>
 k_hbbbaba p0 p1 p2 p3 p4 p5 v11 (0 : Int) (0 : Int) x12))))) (
 k_x0 p14)
theorem bbbbaba_ref33_Estimate_ok {β : Type} (F_ref33_in : ∀ (β : Type), Nat → Int → Int → Int → (Bool → Option β) → Option β) (F_ref33_Count : ∀ (β : Type), Nat → List (List V) → Int → Int → Int → (Int → Int → Option β) → Option β) (F_ref33_Bound : ∀ (β : Type), Nat → Int → (Int → Option β) → Option β) (L : Nat) (p0 : List (List V)) (p1 : Int) (p2 : Int) (p3 : Int) (p4 : Int) (p5 : Int) (p14 : Int) (p15 : Int) (p16 : Int) (p17 : Int) (X : St → Option β) (K : KT β) : runC sh_ref33_Estimate (cb_ref33_Estimate F_ref33_in F_ref33_Count F_ref33_Bound L) 0 L cbbbabaa_ref33_Estimate (st_hbbbaba_ref33_Estimate p0 p1 p2 p3 p4 p5 p14 p15 p16 p17) (loopK mbbbaba_ref33_Estimate X K) = bbbbaba_ref33_Estimate F_ref33_in F_ref33_Count F_ref33_Bound L p0 p1 p2 p3 p4 p5 p14 p15 p16 p17 (fun p0 p1 p2 p3 p4 p5 p14 p15 p16 p17 => X (st_hbbbaba_ref33_Estimate p0 p1 p2 p3 p4 p5 p14 p15 p16 p17)) (fun p14 => K (.exit 0) (st_x0_ref33_Estimate p14)) := by kernel_rfl
def rbbbabax0_ref33_Estimate {β : Type} (F_ref33_in : ∀ (β : Type), Nat → Int → Int → Int → (Bool → Option β) → Option β) (F_ref33_Count : ∀ (β : Type), Nat → List (List V) → Int → Int → Int → (Int → Int → Option β) → Option β) (F_ref33_Bound : ∀ (β : Type), Nat → Int → (Int → Option β) → Option β) (L : Nat) (p14 : Int) (k_fin : Int → Int → Option β) : Option β :=
 ifb ((p14 : Int) == (0 : Int)) (
 k_fin (0 : Int) (330 : Int)) (
 k_fin p14 (0 : Int))
theorem rbbbabax0_ref33_Estimate_ok {β : Type} (F_ref33_in : ∀ (β : Type), Nat → Int → Int → Int → (Bool → Option β) → Option β) (F_ref33_Count : ∀ (β : Type), Nat → List (List V) → Int → Int → Int → (Int → Int → Option β) → Option β) (F_ref33_Bound : ∀ (β : Type), Nat → Int → (Int → Option β) → Option β) (L : Nat) (p14 : Int) (k : V → Bor → Option β) : (blockK 0 (seqK (runC sh_ref33_Estimate (cb_ref33_Estimate F_ref33_in F_ref33_Count F_ref33_Bound L) 0 L cbbbb_ref33_Estimate) (finK 0 (CF.res cf_ref33_Estimate) k))) (.exit 0) (st_x0_ref33_Estimate p14) = rbbbabax0_ref33_Estimate F_ref33_in F_ref33_Count F_ref33_Bound L p14 (fun p0_0 p0_1 => k (V.tup [(V.sc (.int .i64 p0_0)), (V.sc (.int .i64 p0_1))]) []) := by kernel_rfl
def lbbbaba_ref33_Estimate {β : Type} (F_ref33_in : ∀ (β : Type), Nat → Int → Int → Int → (Bool → Option β) → Option β) (F_ref33_Count : ∀ (β : Type), Nat → List (List V) → Int → Int → Int → (Int → Int → Option β) → Option β) (F_ref33_Bound : ∀ (β : Type), Nat → Int → (Int → Option β) → Option β) (L : Nat) (k_x0 : Int → Option β) : Nat → List (List V) → Int → Int → Int → Int → Int → Int → Int → Int → Int → Option β
  | 0, _, _, _, _, _, _, _, _, _, _ => none
  | n + 1, p0, p1, p2, p3, p4, p5, p14, p15, p16, p17 => bbbbaba_ref33_Estimate F_ref33_in F_ref33_Count F_ref33_Bound L p0 p1 p2 p3 p4 p5 p14 p15 p16 p17 (fun p0 p1 p2 p3 p4 p5 p14 p15 p16 p17 => lbbbaba_ref33_Estimate F_ref33_in F_ref33_Count F_ref33_Bound L k_x0 n p0 p1 p2 p3 p4 p5 p14 p15 p16 p17) k_x0
theorem lbbbaba_ref33_Estimate_ok {β : Type} (F_ref33_in : ∀ (β : Type), Nat → Int → Int → Int → (Bool → Option β) → Option β) (F_ref33_Count : ∀ (β : Type), Nat → List (List V) → Int → Int → Int → (Int → Int → Option β) → Option β) (F_ref33_Bound : ∀ (β : Type), Nat → Int → (Int → Option β) → Option β) (L : Nat) (K : KT β) : ∀ (n : Nat) (p0 : List (List V)) (p1 : Int) (p2 : Int) (p3 : Int) (p4 : Int) (p5 : Int) (p14 : Int) (p15 : Int) (p16 : Int) (p17 : Int), loopM (runC sh_ref33_Estimate (cb_ref33_Estimate F_ref33_in F_ref33_Count F_ref33_Bound L) 0 L cbbbabaa_ref33_Estimate) mbbbaba_ref33_Estimate n (st_hbbbaba_ref33_Estimate p0 p1 p2 p3 p4 p5 p14 p15 p16 p17) K = lbbbaba_ref33_Estimate F_ref33_in F_ref33_Count F_ref33_Bound L (fun p14 => K (.exit 0) (st_x0_ref33_Estimate p14)) n p0 p1 p2 p3 p4 p5 p14 p15 p16 p17 := by
  intro n
  induction n with
  | zero => intros; rfl
  | succ n ih =>
    intro p0 p1 p2 p3 p4 p5 p14 p15 p16 p17
    refine (bbbbaba_ref33_Estimate_ok F_ref33_in F_ref33_Count F_ref33_Bound L p0 p1 p2 p3 p4 p5 p14 p15 p16 p17 (fun σ => loopM (runC sh_ref33_Estimate (cb_ref33_Estimate F_ref33_in F_ref33_Count F_ref33_Bound L) 0 L cbbbabaa_ref33_Estimate) mbbbaba_ref33_Estimate n σ K) K).trans ?_
    simp only [ih]
    rfl
def R_ref33_Estimate {β : Type} (F_ref33_in : ∀ (β : Type), Nat → Int → Int → Int → (Bool → Option β) → Option β) (F_ref33_Count : ∀ (β : Type), Nat → List (List V) → Int → Int → Int → (Int → Int → Option β) → Option β) (F_ref33_Bound : ∀ (β : Type), Nat → Int → (Int → Option β) → Option β) (L : Nat) (p0 : List (List V)) (p1 : Int) (p2 : Int) (p3 : Int) (p4 : Int) (p5 : Int) (k_fin : Int → Int → Option β) : Option β :=
 e_ref33_Estimate F_ref33_in F_ref33_Count F_ref33_Bound L p0 p1 p2 p3 p4 p5 k_fin (fun p0 p1 p2 p3 p4 p5 p14 p15 p16 p17 => lbbbaba_ref33_Estimate F_ref33_in F_ref33_Count F_ref33_Bound L (fun p14 => rbbbabax0_ref33_Estimate F_ref33_in F_ref33_Count F_ref33_Bound L p14 k_fin) L p0 p1 p2 p3 p4 p5 p14 p15 p16 p17)
theorem R_ref33_Estimate_ok {β : Type} (F_ref33_in : ∀ (β : Type), Nat → Int → Int → Int → (Bool → Option β) → Option β) (F_ref33_Count : ∀ (β : Type), Nat → List (List V) → Int → Int → Int → (Int → Int → Option β) → Option β) (F_ref33_Bound : ∀ (β : Type), Nat → Int → (Int → Option β) → Option β) (L : Nat) (p0 : List (List V)) (p1 : Int) (p2 : Int) (p3 : Int) (p4 : Int) (p5 : Int) (k : V → Bor → Option β) : funC sh_ref33_Estimate (cb_ref33_Estimate F_ref33_in F_ref33_Count F_ref33_Bound L) L cf_ref33_Estimate [(V.sl 35 p0), (V.sc (.int .i64 p1)), (V.sc (.int .i64 p2)), (V.sc (.int .i64 p3)), (V.sc (.int .i64 p4)), (V.sc (.int .i64 p5))] [] k = R_ref33_Estimate F_ref33_in F_ref33_Count F_ref33_Bound L p0 p1 p2 p3 p4 p5 (fun p0_0 p0_1 => k (V.tup [(V.sc (.int .i64 p0_0)), (V.sc (.int .i64 p0_1))]) []) := by
  refine (e_ref33_Estimate_ok F_ref33_in F_ref33_Count F_ref33_Bound L p0 p1 p2 p3 p4 p5 k).trans ?_
  unfold R_ref33_Estimate
  simp only [lbbbaba_ref33_Estimate_ok, rbbbabax0_ref33_Estimate_ok]
def F_ref33_Estimate (β : Type) (L : Nat) (p0 : List (List V)) (p1 : Int) (p2 : Int) (p3 : Int) (p4 : Int) (p5 : Int) (k_fin : Int → Int → Option β) : Option β := R_ref33_Estimate F_ref33_in F_ref33_Count F_ref33_Bound L p0 p1 p2 p3 p4 p5 k_fin
def d_ref33_Estimate (F_ref33_Estimate : ∀ (β : Type), Nat → List (List V) → Int → Int → Int → Int → Int → (Int → Int → Option β) → Option β) (L : Nat) (β : Type) (args : List V) (bor : Bor) (k : V → Bor → Option β) : Option β := match args, bor with
  | [a0, a1, a2, a3, a4, a5], [] => aL 35 a0 fun p0 => aI .i64 a1 fun p1 => aI .i64 a2 fun p2 => aI .i64 a3 fun p3 => aI .i64 a4 fun p4 => aI .i64 a5 fun p5 => F_ref33_Estimate β L p0 p1 p2 p3 p4 p5 (fun p0_0 p0_1 => k (V.tup [(V.sc (.int .i64 p0_0)), (V.sc (.int .i64 p0_1))]) [])
  | _, _ => none
theorem d_ref33_Estimate_ok (L : Nat) (β : Type) (args : List V) (bor : Bor) (k : V → Bor → Option β) (r : β) (h : d_ref33_Estimate F_ref33_Estimate L β args bor k = some r) : funC sh_ref33_Estimate (cb_ref33_Estimate F_ref33_in F_ref33_Count F_ref33_Bound L) L cf_ref33_Estimate args bor k = some r := by
  unfold d_ref33_Estimate at h
  split at h
  · have q := aL_inv h; clear h; obtain ⟨p0, rfl, h⟩ := q
    have q := aI_inv h; clear h; obtain ⟨p1, rfl, h⟩ := q
    have q := aI_inv h; clear h; obtain ⟨p2, rfl, h⟩ := q
    have q := aI_inv h; clear h; obtain ⟨p3, rfl, h⟩ := q
    have q := aI_inv h; clear h; obtain ⟨p4, rfl, h⟩ := q
    have q := aI_inv h; clear h; obtain ⟨p5, rfl, h⟩ := q
    exact (R_ref33_Estimate_ok F_ref33_in F_ref33_Count F_ref33_Bound L p0 p1 p2 p3 p4 p5 k).trans h
  · cases h

end Go.Proofs.Ythplooifbkopgaa
