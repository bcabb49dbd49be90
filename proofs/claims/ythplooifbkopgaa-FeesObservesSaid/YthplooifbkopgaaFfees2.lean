/- The functions of this seat, as they compute on plain values. Printed by lift2.py. -/
import Derived.Test.YthplooifbkopgaaFfees1
namespace Go.Proofs.Ythplooifbkopgaa
set_option maxRecDepth 100000
set_option linter.unusedVariables false
/-! fees_Confirm : 232 -/
def cbbabaa_fees_Confirm : CC := (.seq (.reg [⟨(some 14), false, none, .bin .lss (.tmp 13) (.tmp 12)⟩])
 (.seq (.cond (.tmp 14)
 .skip
 (.seq (.mask (bl 1 40) (bl 1097364143743 40))
 (.exit 0)))
 (.seq (.block 1 (.seq (.reg [⟨(some 15), false, none, .move (.tmp 13) false⟩,
   ⟨(some 16), false, none, .indexAddrS 35 (.tmp 11) (.tmp 13)⟩,
   ⟨(some 17), false, none, .load true 35 (.tmp 16) false⟩,
   ⟨(some 8), false, none, .alloc true [(.sc (.int .u8 0)), (.sc (.int .u8 0)), (.sc (.int .u8 0)), (.sc (.int .u8 0)), (.sc (.int .u8 0)), (.sc (.int .u8 0)), (.sc (.int .u8 0)), (.sc (.int .u8 0)), (.sc (.int .u8 0)), (.sc (.int .u8 0)), (.sc (.int .u8 0)), (.sc (.int .u8 0)), (.sc (.int .u8 0)), (.sc (.int .u8 0)), (.sc (.int .u8 0)), (.sc (.int .u8 0)), (.sc (.int .u8 0)), (.sc (.int .u8 0)), (.sc (.int .u8 0)), (.sc (.int .u8 0)), (.sc (.int .u8 0)), (.sc (.int .u8 0)), (.sc (.int .u8 0)), (.sc (.int .u8 0)), (.sc (.int .u8 0)), (.sc (.int .u8 0)), (.sc (.int .u8 0)), (.sc (.int .u8 0)), (.sc (.int .u8 0)), (.sc (.int .u8 0)), (.sc (.int .u8 0)), (.sc (.int .u8 0)), (.sc (.int .i64 0)), (.sc (.int .i64 0)), (.sc (.int .i64 0))]⟩,
   ⟨(some 7), false, none, .move (.tmp 15) false⟩,
   ⟨none, false, none, .store 35 (.tmp 8) (.tmp 17)⟩])
 (.seq (.reg [⟨(some 18), false, none, .fieldAddr 34 (.tmp 8)⟩,
   ⟨(some 19), false, none, .load false 1 (.tmp 18) false⟩,
   ⟨(some 20), false, none, .bin .eql (.tmp 19) (.const (.sc (.int .i64 0)))⟩,
   ⟨(some 21), false, none, .move (.tmp 20) false⟩,
   ⟨(some 22), false, (some (21, true)), .fieldAddr 33 (.tmp 8)⟩,
   ⟨(some 23), false, (some (21, true)), .load false 1 (.tmp 22) false⟩,
   ⟨(some 24), false, (some (21, true)), .move (.tmp 2) false⟩,
   ⟨(some 25), false, (some (21, true)), .bin .lss (.tmp 23) (.tmp 24)⟩,
   ⟨(some 26), false, none, .pick (.tmp 21) (.tmp 25) (.const (.sc (.bool false)))⟩,
   ⟨(some 27), false, none, .move (.tmp 26) false⟩,
   ⟨(some 28), false, (some (27, true)), .move (.tmp 1) false⟩,
   ⟨(some 29), false, (some (27, true)), .fieldAddr 0 (.tmp 8)⟩,
   ⟨(some 30), false, (some (27, true)), .load true 32 (.tmp 29) false⟩,
   ⟨(some 31), false, (some (27, true)), .call 248 [((.tmp 28), 2), ((.tmp 30), 2)] []⟩,
   ⟨(some 32), false, none, .pick (.tmp 27) (.tmp 31) (.const (.sc (.bool false)))⟩])
 (.cond (.tmp 32)
 (.reg [⟨(some 33), false, none, .move (.tmp 0) false⟩,
   ⟨(some 34), false, none, .move (.tmp 7) false⟩,
   ⟨(some 35), false, none, .move (.tmp 2) false⟩,
   ⟨(some 36), false, none, .indexAddrS 35 (.tmp 33) (.tmp 34)⟩,
   ⟨(some 37), false, none, .fieldAddr 34 (.tmp 36)⟩,
   ⟨none, false, none, .store 1 (.tmp 37) (.tmp 35)⟩])
 .skip))))
 (.reg [⟨(some 38), false, none, .bin .add (.tmp 13) (.const (.sc (.int .i64 1)))⟩,
   ⟨(some 13), false, none, .move (.tmp 38) false⟩]))))
def cbbb_fees_Confirm : CC := (.seq (.reg [⟨(some 39), false, none, .move (.tmp 0) true⟩,
   ⟨(some 6), false, none, .move (.tmp 39) true⟩])
 .ret)
def cf_fees_Confirm : CF := ⟨40, [.tmp 6],
 (.seq (.reg [⟨(some 6), false, none, .move (.const (.gs 35 [])) true⟩])
 (.seq (.reg [⟨(some 9), false, none, .move (.tmp 0) false⟩,
   ⟨(some 10), true, none, .call 245 [((.tmp 9), 0)] []⟩,
   ⟨(some 0), false, none, .move (.tmp 10) true⟩])
 (.seq (.seq (.reg [⟨(some 11), false, none, .move (.tmp 0) false⟩,
   ⟨(some 12), false, none, .lenS (.tmp 11)⟩,
   ⟨(some 13), false, none, .move (.const (.sc (.int .i64 0))) false⟩])
 (.block 0 (.loop (bl 14343 40) (bl 1097364143743 40)
 cbbabaa_fees_Confirm)))
 cbbb_fees_Confirm)))⟩
def hint_fees_Confirm : Hint := ⟨[(0, 0), (1, 2), (5, 13), (8, 0), (8, 1)], [(1, 1)], [none, some ((bl 14343 40), (bl 1097364143743 40)), none, some ((bl 1 40), (bl 1097364143743 40)), none, none, none], [], [], false⟩
def sh_fees_Confirm : Nat → Sh := shOf [(19, (.int .i64)), (23, (.int .i64))]
def cb_fees_Confirm (F_slices_Clone_Lapi_Sample_api_Sample : T_slices_Clone_Lapi_Sample_api_Sample) (F_slices_Contains_Lapi_Hash_api_Hash : T_slices_Contains_Lapi_Hash_api_Hash) (L : Nat) : CBC := (addC 248 (d_slices_Contains_Lapi_Hash_api_Hash F_slices_Contains_Lapi_Hash_api_Hash L) (addC 245 (d_slices_Clone_Lapi_Sample_api_Sample F_slices_Clone_Lapi_Sample_api_Sample L) noC))
def mbbaba_fees_Confirm : St → St := maskN 0 (bl 14343 40) (bl 1097364143743 40)
def st_hbbaba_fees_Confirm (p0l : Nat) (p1 : List (List V)) (p2 : Int) (p11l : Nat) (p12 : Int) (p13 : Int) (b10 : List V) : St := ⟨[(V.own 10 0 p0l 35), (V.sl 32 p1), (V.sc (.int .i64 p2)), .junk, .junk, .junk, .junk, .junk, .junk, .junk, .junk, (V.own 10 0 p11l 35), (V.sc (.int .i64 p12)), (V.sc (.int .i64 p13)), .junk, .junk, .junk, .junk, .junk, .junk, .junk, .junk, .junk, .junk, .junk, .junk, .junk, .junk, .junk, .junk, .junk, .junk, .junk, .junk, .junk, .junk, .junk, .junk, .junk, .junk], [.gone, .gone, .gone, .gone, .gone, .gone, .gone, .gone, .gone, .gone, (.live true b10), .gone, .gone, .gone, .gone, .gone, .gone, .gone, .gone, .gone, .gone, .gone, .gone, .gone, .gone, .gone, .gone, .gone, .gone, .gone, .gone, .gone, .gone, .gone, .gone, .gone, .gone, .gone, .gone, .gone]⟩
def st_x0_fees_Confirm (p0l : Nat) (b10 : List V) : St := ⟨[(V.own 10 0 p0l 35), .junk, .junk, .junk, .junk, .junk, .junk, .junk, .junk, .junk, .junk, .junk, .junk, .junk, .junk, .junk, .junk, .junk, .junk, .junk, .junk, .junk, .junk, .junk, .junk, .junk, .junk, .junk, .junk, .junk, .junk, .junk, .junk, .junk, .junk, .junk, .junk, .junk, .junk, .junk], [.gone, .gone, .gone, .gone, .gone, .gone, .gone, .gone, .gone, .gone, (.live true b10), .gone, .gone, .gone, .gone, .gone, .gone, .gone, .gone, .gone, .gone, .gone, .gone, .gone, .gone, .gone, .gone, .gone, .gone, .gone, .gone, .gone, .gone, .gone, .gone, .gone, .gone, .gone, .gone, .gone]⟩
def e_fees_Confirm {β : Type} (F_slices_Clone_Lapi_Sample_api_Sample : T_slices_Clone_Lapi_Sample_api_Sample) (F_slices_Contains_Lapi_Hash_api_Hash : T_slices_Contains_Lapi_Hash_api_Hash) (L : Nat) (p0 : List (List V)) (p1 : List (List V)) (p2 : Int) (k_hbbaba : Nat → List (List V) → Int → Nat → Int → Int → List V → Option β) : Option β :=
 F_slices_Clone_Lapi_Sample_api_Sample β L p0 (fun v0 =>
 k_hbbaba (List.length v0) p1 p2 (List.length v0) (((List.length v0) : Nat) : Int) (0 : Int) (List.flatten v0))
theorem e_fees_Confirm_ok {β : Type} (F_slices_Clone_Lapi_Sample_api_Sample : T_slices_Clone_Lapi_Sample_api_Sample) (F_slices_Contains_Lapi_Hash_api_Hash : T_slices_Contains_Lapi_Hash_api_Hash) (L : Nat) (p0 : List (List V)) (p1 : List (List V)) (p2 : Int) (k : V → Bor → Option β) : funC sh_fees_Confirm (cb_fees_Confirm F_slices_Clone_Lapi_Sample_api_Sample F_slices_Contains_Lapi_Hash_api_Hash L) L cf_fees_Confirm [(V.sl 35 p0), (V.sl 32 p1), (V.sc (.int .i64 p2))] [] k = e_fees_Confirm F_slices_Clone_Lapi_Sample_api_Sample F_slices_Contains_Lapi_Hash_api_Hash L p0 p1 p2 (fun p0l p1 p2 p11l p12 p13 b10 => loopM (runC sh_fees_Confirm (cb_fees_Confirm F_slices_Clone_Lapi_Sample_api_Sample F_slices_Contains_Lapi_Hash_api_Hash L) 0 L cbbabaa_fees_Confirm) mbbaba_fees_Confirm L (st_hbbaba_fees_Confirm p0l p1 p2 p11l p12 p13 b10) (blockK 0 (seqK (runC sh_fees_Confirm (cb_fees_Confirm F_slices_Clone_Lapi_Sample_api_Sample F_slices_Contains_Lapi_Hash_api_Hash L) 0 L cbbb_fees_Confirm) (finK 0 (CF.res cf_fees_Confirm) k)))) := by kernel_rfl
def bbbaba_fees_Confirm {β : Type} (F_slices_Clone_Lapi_Sample_api_Sample : T_slices_Clone_Lapi_Sample_api_Sample) (F_slices_Contains_Lapi_Hash_api_Hash : T_slices_Contains_Lapi_Hash_api_Hash) (L : Nat) (p0l : Nat) (p1 : List (List V)) (p2 : Int) (p11l : Nat) (p12 : Int) (p13 : Int) (b10 : List V) (k_hbbaba : Nat → List (List V) → Int → Nat → Int → Int → List V → Option β) (k_x0 : Nat → List V → Option β) : Option β :=
 ifb (decide (p13 < p12)) (
 chk (0 ≤ p13 ∧ p13 < ((p11l : Nat) : Int)) (
 chk ((0 + ((Int.toNat p13) * 35)) + 35 ≤ (List.length b10)) (
 chk ((List.length (List.take 35 (List.drop (0 + ((Int.toNat p13) * 35)) b10))) = 35 ∧ 0 + 35 ≤ 35) (
 lt (setAt (List.replicate 32 (V.sc (.int .u8 (0 : Int))) ++ [(V.sc (.int .i64 (0 : Int))), (V.sc (.int .i64 (0 : Int))), (V.sc (.int .i64 (0 : Int)))]) 0 (List.take 35 (List.drop (0 + ((Int.toNat p13) * 35)) b10))) fun r1 =>
 cI .i64 r1 34 fun v2 =>
 ifb ((v2 : Int) == (0 : Int)) (
 cI .i64 r1 33 fun v3 =>
 ifb (decide (v3 < p2)) (
 chk (0 + 32 ≤ (List.length r1)) (
 F_slices_Contains_Lapi_Hash_api_Hash β L p1 (List.take 32 r1) (fun v4 =>
 ifb v4 (
 chk (0 ≤ p13 ∧ p13 < ((p0l : Nat) : Int)) (
 chk (1 = 1 ∧ ((0 + ((Int.toNat p13) * 35)) + 34) + 1 ≤ (List.length b10)) (
 lt (setAt b10 ((0 + ((Int.toNat p13) * 35)) + 34) [(V.sc (.int .i64 p2))]) fun r5 =>
 lt (IntKind.wrap .i64 ((p13 : Int) + (1 : Int))) fun x6 =>
 k_hbbaba p0l p1 p2 p11l p12 x6 r5))) (
 lt (IntKind.wrap .i64 ((p13 : Int) + (1 : Int))) fun x7 =>
 k_hbbaba p0l p1 p2 p11l p12 x7 b10)))) (
 lt (IntKind.wrap .i64 ((p13 : Int) + (1 : Int))) fun x8 =>
 k_hbbaba p0l p1 p2 p11l p12 x8 b10)) (
 lt (IntKind.wrap .i64 ((p13 : Int) + (1 : Int))) fun x9 =>
 k_hbbaba p0l p1 p2 p11l p12 x9 b10))))) (
 k_x0 p0l b10)
theorem bbbaba_fees_Confirm_ok {β : Type} (F_slices_Clone_Lapi_Sample_api_Sample : T_slices_Clone_Lapi_Sample_api_Sample) (F_slices_Contains_Lapi_Hash_api_Hash : T_slices_Contains_Lapi_Hash_api_Hash) (L : Nat) (p0l : Nat) (p1 : List (List V)) (p2 : Int) (p11l : Nat) (p12 : Int) (p13 : Int) (b10 : List V) (X : St → Option β) (K : KT β) : runC sh_fees_Confirm (cb_fees_Confirm F_slices_Clone_Lapi_Sample_api_Sample F_slices_Contains_Lapi_Hash_api_Hash L) 0 L cbbabaa_fees_Confirm (st_hbbaba_fees_Confirm p0l p1 p2 p11l p12 p13 b10) (loopK mbbaba_fees_Confirm X K) = bbbaba_fees_Confirm F_slices_Clone_Lapi_Sample_api_Sample F_slices_Contains_Lapi_Hash_api_Hash L p0l p1 p2 p11l p12 p13 b10 (fun p0l p1 p2 p11l p12 p13 b10 => X (st_hbbaba_fees_Confirm p0l p1 p2 p11l p12 p13 b10)) (fun p0l b10 => K (.exit 0) (st_x0_fees_Confirm p0l b10)) := by kernel_rfl
def rbbabax0_fees_Confirm {β : Type} (F_slices_Clone_Lapi_Sample_api_Sample : T_slices_Clone_Lapi_Sample_api_Sample) (F_slices_Contains_Lapi_Hash_api_Hash : T_slices_Contains_Lapi_Hash_api_Hash) (L : Nat) (p0l : Nat) (b10 : List V) (k_fin : List (List V) → Option β) : Option β :=
 chk (p0l ≠ 0 ∨ (List.length b10) = 0) (
 k_fin (chunks 35 p0l b10))
theorem rbbabax0_fees_Confirm_ok {β : Type} (F_slices_Clone_Lapi_Sample_api_Sample : T_slices_Clone_Lapi_Sample_api_Sample) (F_slices_Contains_Lapi_Hash_api_Hash : T_slices_Contains_Lapi_Hash_api_Hash) (L : Nat) (p0l : Nat) (b10 : List V) (k : V → Bor → Option β) : (blockK 0 (seqK (runC sh_fees_Confirm (cb_fees_Confirm F_slices_Clone_Lapi_Sample_api_Sample F_slices_Contains_Lapi_Hash_api_Hash L) 0 L cbbb_fees_Confirm) (finK 0 (CF.res cf_fees_Confirm) k))) (.exit 0) (st_x0_fees_Confirm p0l b10) = rbbabax0_fees_Confirm F_slices_Clone_Lapi_Sample_api_Sample F_slices_Contains_Lapi_Hash_api_Hash L p0l b10 (fun p0 => k (V.fr 35 p0) []) := by kernel_rfl
def lbbaba_fees_Confirm {β : Type} (F_slices_Clone_Lapi_Sample_api_Sample : T_slices_Clone_Lapi_Sample_api_Sample) (F_slices_Contains_Lapi_Hash_api_Hash : T_slices_Contains_Lapi_Hash_api_Hash) (L : Nat) (k_x0 : Nat → List V → Option β) : Nat → Nat → List (List V) → Int → Nat → Int → Int → List V → Option β
  | 0, _, _, _, _, _, _, _ => none
  | n + 1, p0l, p1, p2, p11l, p12, p13, b10 => bbbaba_fees_Confirm F_slices_Clone_Lapi_Sample_api_Sample F_slices_Contains_Lapi_Hash_api_Hash L p0l p1 p2 p11l p12 p13 b10 (fun p0l p1 p2 p11l p12 p13 b10 => lbbaba_fees_Confirm F_slices_Clone_Lapi_Sample_api_Sample F_slices_Contains_Lapi_Hash_api_Hash L k_x0 n p0l p1 p2 p11l p12 p13 b10) k_x0
theorem lbbaba_fees_Confirm_ok {β : Type} (F_slices_Clone_Lapi_Sample_api_Sample : T_slices_Clone_Lapi_Sample_api_Sample) (F_slices_Contains_Lapi_Hash_api_Hash : T_slices_Contains_Lapi_Hash_api_Hash) (L : Nat) (K : KT β) : ∀ (n : Nat) (p0l : Nat) (p1 : List (List V)) (p2 : Int) (p11l : Nat) (p12 : Int) (p13 : Int) (b10 : List V), loopM (runC sh_fees_Confirm (cb_fees_Confirm F_slices_Clone_Lapi_Sample_api_Sample F_slices_Contains_Lapi_Hash_api_Hash L) 0 L cbbabaa_fees_Confirm) mbbaba_fees_Confirm n (st_hbbaba_fees_Confirm p0l p1 p2 p11l p12 p13 b10) K = lbbaba_fees_Confirm F_slices_Clone_Lapi_Sample_api_Sample F_slices_Contains_Lapi_Hash_api_Hash L (fun p0l b10 => K (.exit 0) (st_x0_fees_Confirm p0l b10)) n p0l p1 p2 p11l p12 p13 b10 := by
  intro n
  induction n with
  | zero => intros; rfl
  | succ n ih =>
    intro p0l p1 p2 p11l p12 p13 b10
    refine (bbbaba_fees_Confirm_ok F_slices_Clone_Lapi_Sample_api_Sample F_slices_Contains_Lapi_Hash_api_Hash L p0l p1 p2 p11l p12 p13 b10 (fun σ => loopM (runC sh_fees_Confirm (cb_fees_Confirm F_slices_Clone_Lapi_Sample_api_Sample F_slices_Contains_Lapi_Hash_api_Hash L) 0 L cbbabaa_fees_Confirm) mbbaba_fees_Confirm n σ K) K).trans ?_
    simp only [ih]
    rfl
def R_fees_Confirm {β : Type} (F_slices_Clone_Lapi_Sample_api_Sample : T_slices_Clone_Lapi_Sample_api_Sample) (F_slices_Contains_Lapi_Hash_api_Hash : T_slices_Contains_Lapi_Hash_api_Hash) (L : Nat) (p0 : List (List V)) (p1 : List (List V)) (p2 : Int) (k_fin : List (List V) → Option β) : Option β :=
 e_fees_Confirm F_slices_Clone_Lapi_Sample_api_Sample F_slices_Contains_Lapi_Hash_api_Hash L p0 p1 p2 (fun p0l p1 p2 p11l p12 p13 b10 => lbbaba_fees_Confirm F_slices_Clone_Lapi_Sample_api_Sample F_slices_Contains_Lapi_Hash_api_Hash L (fun p0l b10 => rbbabax0_fees_Confirm F_slices_Clone_Lapi_Sample_api_Sample F_slices_Contains_Lapi_Hash_api_Hash L p0l b10 k_fin) L p0l p1 p2 p11l p12 p13 b10)
theorem R_fees_Confirm_ok {β : Type} (F_slices_Clone_Lapi_Sample_api_Sample : T_slices_Clone_Lapi_Sample_api_Sample) (F_slices_Contains_Lapi_Hash_api_Hash : T_slices_Contains_Lapi_Hash_api_Hash) (L : Nat) (p0 : List (List V)) (p1 : List (List V)) (p2 : Int) (k : V → Bor → Option β) : funC sh_fees_Confirm (cb_fees_Confirm F_slices_Clone_Lapi_Sample_api_Sample F_slices_Contains_Lapi_Hash_api_Hash L) L cf_fees_Confirm [(V.sl 35 p0), (V.sl 32 p1), (V.sc (.int .i64 p2))] [] k = R_fees_Confirm F_slices_Clone_Lapi_Sample_api_Sample F_slices_Contains_Lapi_Hash_api_Hash L p0 p1 p2 (fun p0 => k (V.fr 35 p0) []) := by
  refine (e_fees_Confirm_ok F_slices_Clone_Lapi_Sample_api_Sample F_slices_Contains_Lapi_Hash_api_Hash L p0 p1 p2 k).trans ?_
  unfold R_fees_Confirm
  simp only [lbbaba_fees_Confirm_ok, rbbabax0_fees_Confirm_ok]
abbrev T_fees_Confirm := ∀ (β : Type), Nat → List (List V) → List (List V) → Int → (List (List V) → Option β) → Option β
def F_fees_Confirm (β : Type) (L : Nat) (p0 : List (List V)) (p1 : List (List V)) (p2 : Int) (k_fin : List (List V) → Option β) : Option β := R_fees_Confirm F_slices_Clone_Lapi_Sample_api_Sample F_slices_Contains_Lapi_Hash_api_Hash L p0 p1 p2 k_fin
def d_fees_Confirm (F_fees_Confirm : T_fees_Confirm) (L : Nat) (β : Type) (args : List V) (bor : Bor) (k : V → Bor → Option β) : Option β := match args, bor with
  | [a0, a1, a2], [] => aL 35 a0 fun p0 => aL 32 a1 fun p1 => aI .i64 a2 fun p2 => F_fees_Confirm β L p0 p1 p2 (fun p0 => k (V.fr 35 p0) [])
  | _, _ => none
theorem d_fees_Confirm_ok (L : Nat) (β : Type) (args : List V) (bor : Bor) (k : V → Bor → Option β) (r : β) (h : d_fees_Confirm F_fees_Confirm L β args bor k = some r) : funC sh_fees_Confirm (cb_fees_Confirm F_slices_Clone_Lapi_Sample_api_Sample F_slices_Contains_Lapi_Hash_api_Hash L) L cf_fees_Confirm args bor k = some r := by
  unfold d_fees_Confirm at h
  split at h
  · have q := aL_inv h; clear h; obtain ⟨p0, rfl, h⟩ := q
    have q := aL_inv h; clear h; obtain ⟨p1, rfl, h⟩ := q
    have q := aI_inv h; clear h; obtain ⟨p2, rfl, h⟩ := q
    exact (R_fees_Confirm_ok F_slices_Clone_Lapi_Sample_api_Sample F_slices_Contains_Lapi_Hash_api_Hash L p0 p1 p2 k).trans h
  · cases h
/-! fees_Observe_1 : 249 -/
def cf_fees_Observe_1 : CF := ⟨8, [.tmp 3],
 (.seq (.reg [⟨(some 2), false, none, .box true (.tmp 0)⟩,
   ⟨(some 3), false, none, .move (.const (.sc (.bool false))) false⟩])
 (.seq (.reg [⟨(some 4), false, none, .fieldAddr 0 (.tmp 2)⟩,
   ⟨(some 5), false, none, .load true 32 (.tmp 4) false⟩,
   ⟨(some 6), false, none, .load true 32 (.tmp 1) false⟩,
   ⟨(some 7), false, none, .eqAgg false 32 (.tmp 5) (.tmp 6)⟩,
   ⟨(some 3), false, none, .move (.tmp 7) false⟩])
 .ret))⟩
def hint_fees_Observe_1 : Hint := ⟨[], [], [none], [], [], false⟩
def sh_fees_Observe_1 : Nat → Sh := shOf []
def cb_fees_Observe_1 (L : Nat) : CBC := noC
def R_fees_Observe_1 {β : Type} (L : Nat) (p0 : List V) (b0 : List V) (k_fin : Bool → List V → Option β) : Option β :=
 chk (0 + 32 ≤ (List.length p0)) (
 chk (0 + 32 ≤ (List.length b0)) (
 eqC 32 (List.take 32 p0) (List.take 32 b0) fun v0 =>
 k_fin v0 b0))
theorem R_fees_Observe_1_ok {β : Type} (L : Nat) (p0 : List V) (b0 : List V) (k : V → Bor → Option β) : funC sh_fees_Observe_1 (cb_fees_Observe_1 L) L cf_fees_Observe_1 [(V.agg p0), (V.ptr 0 0)] [(.live true b0)] k = R_fees_Observe_1 L p0 b0 (fun p0 b0 => k (V.sc (.bool p0)) [(.live true b0)]) := by kernel_rfl
abbrev T_fees_Observe_1 := ∀ (β : Type), Nat → List V → List V → (Bool → List V → Option β) → Option β
def F_fees_Observe_1 (β : Type) (L : Nat) (p0 : List V) (b0 : List V) (k_fin : Bool → List V → Option β) : Option β := R_fees_Observe_1 L p0 b0 k_fin
def d_fees_Observe_1 (F_fees_Observe_1 : T_fees_Observe_1) (L : Nat) (β : Type) (args : List V) (bor : Bor) (k : V → Bor → Option β) : Option β := match args, bor with
  | [a0, a1], [(.live true b0)] => aG a0 fun p0 => aP 0 0 a1 (F_fees_Observe_1 β L p0 b0 (fun p0 b0 => k (V.sc (.bool p0)) [(.live true b0)]))
  | _, _ => none
theorem d_fees_Observe_1_ok (L : Nat) (β : Type) (args : List V) (bor : Bor) (k : V → Bor → Option β) (r : β) (h : d_fees_Observe_1 F_fees_Observe_1 L β args bor k = some r) : funC sh_fees_Observe_1 (cb_fees_Observe_1 L) L cf_fees_Observe_1 args bor k = some r := by
  unfold d_fees_Observe_1 at h
  split at h
  · have q := aG_inv h; clear h; obtain ⟨p0, rfl, h⟩ := q
    have q := aP_inv h; clear h; obtain ⟨rfl, h⟩ := q
    exact (R_fees_Observe_1_ok L p0 _ k).trans h
  · cases h
/-! slices_IndexFunc_Lapi_Sample_api_Sample_1 : 253 -/
def cbabaa_slices_IndexFunc_Lapi_Sample_api_Sample_1 : CC := (.seq (.reg [⟨(some 9), false, none, .bin .lss (.tmp 8) (.tmp 7)⟩])
 (.seq (.cond (.tmp 9)
 .skip
 (.seq (.mask (bl 0 19) (bl 458703 19))
 (.exit 0)))
 (.seq (.block 1 (.seq (.reg [⟨(some 10), false, none, .move (.tmp 8) false⟩,
   ⟨(some 5), false, none, .move (.tmp 10) false⟩])
 (.seq (.reg [⟨(some 11), false, none, .move (.tmp 1) false⟩,
   ⟨(some 12), false, none, .move (.tmp 0) false⟩,
   ⟨(some 13), false, none, .move (.tmp 5) false⟩,
   ⟨(some 14), false, none, .indexAddrS 35 (.tmp 12) (.tmp 13)⟩,
   ⟨(some 15), false, none, .load true 35 (.tmp 14) false⟩,
   ⟨(some 16), false, none, .callv (.tmp 11) [((.tmp 15), 0)] []⟩])
 (.cond (.tmp 16)
 (.seq (.reg [⟨(some 17), false, none, .move (.tmp 5) false⟩,
   ⟨(some 4), false, none, .move (.tmp 17) false⟩])
 (.seq (.mask (bl 16 19) (bl 458719 19))
 .ret))
 .skip))))
 (.reg [⟨(some 18), false, none, .bin .add (.tmp 8) (.const (.sc (.int .i64 1)))⟩,
   ⟨(some 8), false, none, .move (.tmp 18) false⟩]))))
def cbb_slices_IndexFunc_Lapi_Sample_api_Sample_1 : CC := (.seq (.reg [⟨(some 4), false, none, .move (.const (.sc (.int .i64 (-1)))) false⟩])
 .ret)
def cf_slices_IndexFunc_Lapi_Sample_api_Sample_1 : CF := cf_slices_IndexFunc_Lapi_Sample_api_Sample
def sh_slices_IndexFunc_Lapi_Sample_api_Sample_1 : Nat → Sh := shOf []
def cb_slices_IndexFunc_Lapi_Sample_api_Sample_1 (F_fees_Observe_1 : T_fees_Observe_1) (L : Nat) : CBC := (addC 249 (d_fees_Observe_1 F_fees_Observe_1 L) noC)
def mbaba_slices_IndexFunc_Lapi_Sample_api_Sample_1 : St → St := maskN 1 (bl 387 19) (bl 458703 19)
def st_hbaba_slices_IndexFunc_Lapi_Sample_api_Sample_1 (p0 : List (List V)) (p7 : Int) (p8 : Int) (b0 : List V) : St := ⟨[(V.sl 35 p0), (V.fn 249 [(V.ptr 0 0)]), .junk, .junk, .junk, .junk, .junk, (V.sc (.int .i64 p7)), (V.sc (.int .i64 p8)), .junk, .junk, .junk, .junk, .junk, .junk, .junk, .junk, .junk, .junk], [(.live true b0), .gone, .gone, .gone, .gone, .gone, .gone, .gone, .gone, .gone, .gone, .gone, .gone, .gone, .gone, .gone, .gone, .gone, .gone, .gone]⟩
def st_ret_slices_IndexFunc_Lapi_Sample_api_Sample_1 (p4 : Int) (b0 : List V) : St := ⟨[.junk, .junk, .junk, .junk, (V.sc (.int .i64 p4)), .junk, .junk, .junk, .junk, .junk, .junk, .junk, .junk, .junk, .junk, .junk, .junk, .junk, .junk], [(.live true b0), .gone, .gone, .gone, .gone, .gone, .gone, .gone, .gone, .gone, .gone, .gone, .gone, .gone, .gone, .gone, .gone, .gone, .gone, .gone]⟩
def st_x0_slices_IndexFunc_Lapi_Sample_api_Sample_1 (b0 : List V) : St := ⟨[.junk, .junk, .junk, .junk, .junk, .junk, .junk, .junk, .junk, .junk, .junk, .junk, .junk, .junk, .junk, .junk, .junk, .junk, .junk], [(.live true b0), .gone, .gone, .gone, .gone, .gone, .gone, .gone, .gone, .gone, .gone, .gone, .gone, .gone, .gone, .gone, .gone, .gone, .gone, .gone]⟩
def e_slices_IndexFunc_Lapi_Sample_api_Sample_1 {β : Type} (F_fees_Observe_1 : T_fees_Observe_1) (L : Nat) (p0 : List (List V)) (b0 : List V) (k_hbaba : List (List V) → Int → Int → List V → Option β) : Option β :=
 k_hbaba p0 ((List.length p0 : Nat) : Int) (0 : Int) b0
theorem e_slices_IndexFunc_Lapi_Sample_api_Sample_1_ok {β : Type} (F_fees_Observe_1 : T_fees_Observe_1) (L : Nat) (p0 : List (List V)) (b0 : List V) (k : V → Bor → Option β) : funC sh_slices_IndexFunc_Lapi_Sample_api_Sample_1 (cb_slices_IndexFunc_Lapi_Sample_api_Sample_1 F_fees_Observe_1 L) L cf_slices_IndexFunc_Lapi_Sample_api_Sample_1 [(V.sl 35 p0), (V.fn 249 [(V.ptr 0 0)])] [(.live true b0)] k = e_slices_IndexFunc_Lapi_Sample_api_Sample_1 F_fees_Observe_1 L p0 b0 (fun p0 p7 p8 b0 => loopM (runC sh_slices_IndexFunc_Lapi_Sample_api_Sample_1 (cb_slices_IndexFunc_Lapi_Sample_api_Sample_1 F_fees_Observe_1 L) 1 L cbabaa_slices_IndexFunc_Lapi_Sample_api_Sample_1) mbaba_slices_IndexFunc_Lapi_Sample_api_Sample_1 L (st_hbaba_slices_IndexFunc_Lapi_Sample_api_Sample_1 p0 p7 p8 b0) (blockK 0 (seqK (runC sh_slices_IndexFunc_Lapi_Sample_api_Sample_1 (cb_slices_IndexFunc_Lapi_Sample_api_Sample_1 F_fees_Observe_1 L) 1 L cbb_slices_IndexFunc_Lapi_Sample_api_Sample_1) (finK 1 (CF.res cf_slices_IndexFunc_Lapi_Sample_api_Sample_1) k)))) := by kernel_rfl
def bbaba_slices_IndexFunc_Lapi_Sample_api_Sample_1 {β : Type} (F_fees_Observe_1 : T_fees_Observe_1) (L : Nat) (p0 : List (List V)) (p7 : Int) (p8 : Int) (b0 : List V) (k_ret : Int → List V → Option β) (k_hbaba : List (List V) → Int → Int → List V → Option β) (k_x0 : List V → Option β) : Option β :=
 ifb (decide (p8 < p7)) (
 idx p0 p8 fun c0 =>
 F_fees_Observe_1 β L (List.take 35 c0) b0 (fun v1 v2 =>
 chk ([(List.length v2)] = [(List.length b0)]) (
 ifb v1 (
 k_ret p8 v2) (
 lt (IntKind.wrap .i64 ((p8 : Int) + (1 : Int))) fun x3 =>
 k_hbaba p0 p7 x3 v2)))) (
 k_x0 b0)
theorem bbaba_slices_IndexFunc_Lapi_Sample_api_Sample_1_ok {β : Type} (F_fees_Observe_1 : T_fees_Observe_1) (L : Nat) (p0 : List (List V)) (p7 : Int) (p8 : Int) (b0 : List V) (X : St → Option β) (K : KT β) : runC sh_slices_IndexFunc_Lapi_Sample_api_Sample_1 (cb_slices_IndexFunc_Lapi_Sample_api_Sample_1 F_fees_Observe_1 L) 1 L cbabaa_slices_IndexFunc_Lapi_Sample_api_Sample_1 (st_hbaba_slices_IndexFunc_Lapi_Sample_api_Sample_1 p0 p7 p8 b0) (loopK mbaba_slices_IndexFunc_Lapi_Sample_api_Sample_1 X K) = bbaba_slices_IndexFunc_Lapi_Sample_api_Sample_1 F_fees_Observe_1 L p0 p7 p8 b0 (fun p4 b0 => K .ret (st_ret_slices_IndexFunc_Lapi_Sample_api_Sample_1 p4 b0)) (fun p0 p7 p8 b0 => X (st_hbaba_slices_IndexFunc_Lapi_Sample_api_Sample_1 p0 p7 p8 b0)) (fun b0 => K (.exit 0) (st_x0_slices_IndexFunc_Lapi_Sample_api_Sample_1 b0)) := by kernel_rfl
def rbabaret_slices_IndexFunc_Lapi_Sample_api_Sample_1 {β : Type} (F_fees_Observe_1 : T_fees_Observe_1) (L : Nat) (p4 : Int) (b0 : List V) (k_fin : Int → List V → Option β) : Option β :=
 k_fin p4 b0
theorem rbabaret_slices_IndexFunc_Lapi_Sample_api_Sample_1_ok {β : Type} (F_fees_Observe_1 : T_fees_Observe_1) (L : Nat) (p4 : Int) (b0 : List V) (k : V → Bor → Option β) : (blockK 0 (seqK (runC sh_slices_IndexFunc_Lapi_Sample_api_Sample_1 (cb_slices_IndexFunc_Lapi_Sample_api_Sample_1 F_fees_Observe_1 L) 1 L cbb_slices_IndexFunc_Lapi_Sample_api_Sample_1) (finK 1 (CF.res cf_slices_IndexFunc_Lapi_Sample_api_Sample_1) k))) .ret (st_ret_slices_IndexFunc_Lapi_Sample_api_Sample_1 p4 b0) = rbabaret_slices_IndexFunc_Lapi_Sample_api_Sample_1 F_fees_Observe_1 L p4 b0 (fun p0 b0 => k (V.sc (.int .i64 p0)) [(.live true b0)]) := by kernel_rfl
def rbabax0_slices_IndexFunc_Lapi_Sample_api_Sample_1 {β : Type} (F_fees_Observe_1 : T_fees_Observe_1) (L : Nat) (b0 : List V) (k_fin : Int → List V → Option β) : Option β :=
 k_fin (-1 : Int) b0
theorem rbabax0_slices_IndexFunc_Lapi_Sample_api_Sample_1_ok {β : Type} (F_fees_Observe_1 : T_fees_Observe_1) (L : Nat) (b0 : List V) (k : V → Bor → Option β) : (blockK 0 (seqK (runC sh_slices_IndexFunc_Lapi_Sample_api_Sample_1 (cb_slices_IndexFunc_Lapi_Sample_api_Sample_1 F_fees_Observe_1 L) 1 L cbb_slices_IndexFunc_Lapi_Sample_api_Sample_1) (finK 1 (CF.res cf_slices_IndexFunc_Lapi_Sample_api_Sample_1) k))) (.exit 0) (st_x0_slices_IndexFunc_Lapi_Sample_api_Sample_1 b0) = rbabax0_slices_IndexFunc_Lapi_Sample_api_Sample_1 F_fees_Observe_1 L b0 (fun p0 b0 => k (V.sc (.int .i64 p0)) [(.live true b0)]) := by kernel_rfl
def lbaba_slices_IndexFunc_Lapi_Sample_api_Sample_1 {β : Type} (F_fees_Observe_1 : T_fees_Observe_1) (L : Nat) (k_ret : Int → List V → Option β) (k_x0 : List V → Option β) : Nat → List (List V) → Int → Int → List V → Option β
  | 0, _, _, _, _ => none
  | n + 1, p0, p7, p8, b0 => bbaba_slices_IndexFunc_Lapi_Sample_api_Sample_1 F_fees_Observe_1 L p0 p7 p8 b0 k_ret (fun p0 p7 p8 b0 => lbaba_slices_IndexFunc_Lapi_Sample_api_Sample_1 F_fees_Observe_1 L k_ret k_x0 n p0 p7 p8 b0) k_x0
theorem lbaba_slices_IndexFunc_Lapi_Sample_api_Sample_1_ok {β : Type} (F_fees_Observe_1 : T_fees_Observe_1) (L : Nat) (K : KT β) : ∀ (n : Nat) (p0 : List (List V)) (p7 : Int) (p8 : Int) (b0 : List V), loopM (runC sh_slices_IndexFunc_Lapi_Sample_api_Sample_1 (cb_slices_IndexFunc_Lapi_Sample_api_Sample_1 F_fees_Observe_1 L) 1 L cbabaa_slices_IndexFunc_Lapi_Sample_api_Sample_1) mbaba_slices_IndexFunc_Lapi_Sample_api_Sample_1 n (st_hbaba_slices_IndexFunc_Lapi_Sample_api_Sample_1 p0 p7 p8 b0) K = lbaba_slices_IndexFunc_Lapi_Sample_api_Sample_1 F_fees_Observe_1 L (fun p4 b0 => K .ret (st_ret_slices_IndexFunc_Lapi_Sample_api_Sample_1 p4 b0)) (fun b0 => K (.exit 0) (st_x0_slices_IndexFunc_Lapi_Sample_api_Sample_1 b0)) n p0 p7 p8 b0 := by
  intro n
  induction n with
  | zero => intros; rfl
  | succ n ih =>
    intro p0 p7 p8 b0
    refine (bbaba_slices_IndexFunc_Lapi_Sample_api_Sample_1_ok F_fees_Observe_1 L p0 p7 p8 b0 (fun σ => loopM (runC sh_slices_IndexFunc_Lapi_Sample_api_Sample_1 (cb_slices_IndexFunc_Lapi_Sample_api_Sample_1 F_fees_Observe_1 L) 1 L cbabaa_slices_IndexFunc_Lapi_Sample_api_Sample_1) mbaba_slices_IndexFunc_Lapi_Sample_api_Sample_1 n σ K) K).trans ?_
    simp only [ih]
    rfl
def R_slices_IndexFunc_Lapi_Sample_api_Sample_1 {β : Type} (F_fees_Observe_1 : T_fees_Observe_1) (L : Nat) (p0 : List (List V)) (b0 : List V) (k_fin : Int → List V → Option β) : Option β :=
 e_slices_IndexFunc_Lapi_Sample_api_Sample_1 F_fees_Observe_1 L p0 b0 (fun p0 p7 p8 b0 => lbaba_slices_IndexFunc_Lapi_Sample_api_Sample_1 F_fees_Observe_1 L (fun p4 b0 => rbabaret_slices_IndexFunc_Lapi_Sample_api_Sample_1 F_fees_Observe_1 L p4 b0 k_fin) (fun b0 => rbabax0_slices_IndexFunc_Lapi_Sample_api_Sample_1 F_fees_Observe_1 L b0 k_fin) L p0 p7 p8 b0)
theorem R_slices_IndexFunc_Lapi_Sample_api_Sample_1_ok {β : Type} (F_fees_Observe_1 : T_fees_Observe_1) (L : Nat) (p0 : List (List V)) (b0 : List V) (k : V → Bor → Option β) : funC sh_slices_IndexFunc_Lapi_Sample_api_Sample_1 (cb_slices_IndexFunc_Lapi_Sample_api_Sample_1 F_fees_Observe_1 L) L cf_slices_IndexFunc_Lapi_Sample_api_Sample_1 [(V.sl 35 p0), (V.fn 249 [(V.ptr 0 0)])] [(.live true b0)] k = R_slices_IndexFunc_Lapi_Sample_api_Sample_1 F_fees_Observe_1 L p0 b0 (fun p0 b0 => k (V.sc (.int .i64 p0)) [(.live true b0)]) := by
  refine (e_slices_IndexFunc_Lapi_Sample_api_Sample_1_ok F_fees_Observe_1 L p0 b0 k).trans ?_
  unfold R_slices_IndexFunc_Lapi_Sample_api_Sample_1
  simp only [lbaba_slices_IndexFunc_Lapi_Sample_api_Sample_1_ok, rbabaret_slices_IndexFunc_Lapi_Sample_api_Sample_1_ok, rbabax0_slices_IndexFunc_Lapi_Sample_api_Sample_1_ok]
abbrev T_slices_IndexFunc_Lapi_Sample_api_Sample_1 := ∀ (β : Type), Nat → List (List V) → List V → (Int → List V → Option β) → Option β
def F_slices_IndexFunc_Lapi_Sample_api_Sample_1 (β : Type) (L : Nat) (p0 : List (List V)) (b0 : List V) (k_fin : Int → List V → Option β) : Option β := R_slices_IndexFunc_Lapi_Sample_api_Sample_1 F_fees_Observe_1 L p0 b0 k_fin
def d_slices_IndexFunc_Lapi_Sample_api_Sample_1 (F_slices_IndexFunc_Lapi_Sample_api_Sample_1 : T_slices_IndexFunc_Lapi_Sample_api_Sample_1) (L : Nat) (β : Type) (args : List V) (bor : Bor) (k : V → Bor → Option β) : Option β := match args, bor with
  | [a0, a1], [(.live true b0)] => aL 35 a0 fun p0 => aF 249 [(0, 0)] a1 (F_slices_IndexFunc_Lapi_Sample_api_Sample_1 β L p0 b0 (fun p0 b0 => k (V.sc (.int .i64 p0)) [(.live true b0)]))
  | _, _ => none
theorem d_slices_IndexFunc_Lapi_Sample_api_Sample_1_ok (L : Nat) (β : Type) (args : List V) (bor : Bor) (k : V → Bor → Option β) (r : β) (h : d_slices_IndexFunc_Lapi_Sample_api_Sample_1 F_slices_IndexFunc_Lapi_Sample_api_Sample_1 L β args bor k = some r) : funC sh_slices_IndexFunc_Lapi_Sample_api_Sample_1 (cb_slices_IndexFunc_Lapi_Sample_api_Sample_1 F_fees_Observe_1 L) L cf_slices_IndexFunc_Lapi_Sample_api_Sample_1 args bor k = some r := by
  unfold d_slices_IndexFunc_Lapi_Sample_api_Sample_1 at h
  split at h
  · have q := aL_inv h; clear h; obtain ⟨p0, rfl, h⟩ := q
    have q := aF_inv h; clear h; obtain ⟨rfl, h⟩ := q
    exact (R_slices_IndexFunc_Lapi_Sample_api_Sample_1_ok F_fees_Observe_1 L p0 _ k).trans h
  · cases h
/-! slices_ContainsFunc_Lapi_Sample_api_Sample : 250 -/
def cf_slices_ContainsFunc_Lapi_Sample_api_Sample : CF := ⟨9, [.tmp 4],
 (.seq (.reg [⟨(some 4), false, none, .move (.const (.sc (.bool false))) false⟩])
 (.seq (.reg [⟨(some 5), false, none, .move (.tmp 0) false⟩,
   ⟨(some 6), false, none, .move (.tmp 1) false⟩,
   ⟨(some 7), false, none, .call 253 [((.tmp 5), 2), ((.tmp 6), 2)] []⟩,
   ⟨(some 8), false, none, .bin .geq (.tmp 7) (.const (.sc (.int .i64 0)))⟩,
   ⟨(some 4), false, none, .move (.tmp 8) false⟩])
 .ret))⟩
def hint_slices_ContainsFunc_Lapi_Sample_api_Sample : Hint := ⟨[(1, 2)], [], [none], [], [], false⟩
def sh_slices_ContainsFunc_Lapi_Sample_api_Sample : Nat → Sh := shOf []
def cb_slices_ContainsFunc_Lapi_Sample_api_Sample (F_slices_IndexFunc_Lapi_Sample_api_Sample_1 : T_slices_IndexFunc_Lapi_Sample_api_Sample_1) (L : Nat) : CBC := (addC 253 (d_slices_IndexFunc_Lapi_Sample_api_Sample_1 F_slices_IndexFunc_Lapi_Sample_api_Sample_1 L) noC)
def R_slices_ContainsFunc_Lapi_Sample_api_Sample {β : Type} (F_slices_IndexFunc_Lapi_Sample_api_Sample_1 : T_slices_IndexFunc_Lapi_Sample_api_Sample_1) (L : Nat) (p0 : List (List V)) (b0 : List V) (k_fin : Bool → List V → Option β) : Option β :=
 F_slices_IndexFunc_Lapi_Sample_api_Sample_1 β L p0 b0 (fun v0 v1 =>
 chk ([(List.length v1)] = [(List.length b0)]) (
 k_fin (decide (v0 ≥ (0 : Int))) v1))
theorem R_slices_ContainsFunc_Lapi_Sample_api_Sample_ok {β : Type} (F_slices_IndexFunc_Lapi_Sample_api_Sample_1 : T_slices_IndexFunc_Lapi_Sample_api_Sample_1) (L : Nat) (p0 : List (List V)) (b0 : List V) (k : V → Bor → Option β) : funC sh_slices_ContainsFunc_Lapi_Sample_api_Sample (cb_slices_ContainsFunc_Lapi_Sample_api_Sample F_slices_IndexFunc_Lapi_Sample_api_Sample_1 L) L cf_slices_ContainsFunc_Lapi_Sample_api_Sample [(V.sl 35 p0), (V.fn 249 [(V.ptr 0 0)])] [(.live true b0)] k = R_slices_ContainsFunc_Lapi_Sample_api_Sample F_slices_IndexFunc_Lapi_Sample_api_Sample_1 L p0 b0 (fun p0 b0 => k (V.sc (.bool p0)) [(.live true b0)]) := by kernel_rfl
abbrev T_slices_ContainsFunc_Lapi_Sample_api_Sample := ∀ (β : Type), Nat → List (List V) → List V → (Bool → List V → Option β) → Option β
def F_slices_ContainsFunc_Lapi_Sample_api_Sample (β : Type) (L : Nat) (p0 : List (List V)) (b0 : List V) (k_fin : Bool → List V → Option β) : Option β := R_slices_ContainsFunc_Lapi_Sample_api_Sample F_slices_IndexFunc_Lapi_Sample_api_Sample_1 L p0 b0 k_fin
def d_slices_ContainsFunc_Lapi_Sample_api_Sample (F_slices_ContainsFunc_Lapi_Sample_api_Sample : T_slices_ContainsFunc_Lapi_Sample_api_Sample) (L : Nat) (β : Type) (args : List V) (bor : Bor) (k : V → Bor → Option β) : Option β := match args, bor with
  | [a0, a1], [(.live true b0)] => aL 35 a0 fun p0 => aF 249 [(0, 0)] a1 (F_slices_ContainsFunc_Lapi_Sample_api_Sample β L p0 b0 (fun p0 b0 => k (V.sc (.bool p0)) [(.live true b0)]))
  | _, _ => none
theorem d_slices_ContainsFunc_Lapi_Sample_api_Sample_ok (L : Nat) (β : Type) (args : List V) (bor : Bor) (k : V → Bor → Option β) (r : β) (h : d_slices_ContainsFunc_Lapi_Sample_api_Sample F_slices_ContainsFunc_Lapi_Sample_api_Sample L β args bor k = some r) : funC sh_slices_ContainsFunc_Lapi_Sample_api_Sample (cb_slices_ContainsFunc_Lapi_Sample_api_Sample F_slices_IndexFunc_Lapi_Sample_api_Sample_1 L) L cf_slices_ContainsFunc_Lapi_Sample_api_Sample args bor k = some r := by
  unfold d_slices_ContainsFunc_Lapi_Sample_api_Sample at h
  split at h
  · have q := aL_inv h; clear h; obtain ⟨p0, rfl, h⟩ := q
    have q := aF_inv h; clear h; obtain ⟨rfl, h⟩ := q
    exact (R_slices_ContainsFunc_Lapi_Sample_api_Sample_ok F_slices_IndexFunc_Lapi_Sample_api_Sample_1 L p0 _ k).trans h
  · cases h
/-! fees_Observe : 234 -/
def cf_fees_Observe : CF := ⟨42, [.tmp 8, .tmp 9],
 (.seq (.reg [⟨(some 5), false, none, .box true (.tmp 1)⟩,
   ⟨(some 8), false, none, .move (.const (.gs 35 [])) true⟩,
   ⟨(some 9), false, none, .move (.const (.sc (.int .i64 0))) false⟩])
 (.seq (.reg [⟨(some 12), false, none, .move (.tmp 2) false⟩,
   ⟨(some 13), false, none, .call 222 [((.tmp 12), 0)] []⟩,
   ⟨(some 10), false, none, .move (.tmp 13) false⟩])
 (.seq (.reg [⟨(some 14), false, none, .makeFunc 249 [(.tmp 5)]⟩,
   ⟨(some 11), false, none, .move (.tmp 14) false⟩])
 (.seq (.block 0 (.seq (.reg [⟨(some 16), false, none, .move (.tmp 10) false⟩,
   ⟨(some 17), false, none, .bin .lss (.tmp 16) (.const (.sc (.int .i64 0)))⟩,
   ⟨(some 18), false, none, .move (.tmp 17) false⟩,
   ⟨(some 19), false, (some (18, false)), .move (.tmp 3) false⟩,
   ⟨(some 20), false, (some (18, false)), .bin .lss (.tmp 19) (.const (.sc (.int .i64 1)))⟩,
   ⟨(some 21), false, none, .pick (.tmp 18) (.const (.sc (.bool true))) (.tmp 20)⟩,
   ⟨(some 22), false, none, .move (.tmp 21) false⟩,
   ⟨(some 23), false, (some (22, false)), .move (.tmp 3) false⟩,
   ⟨(some 24), false, (some (22, false)), .bin .gtr (.tmp 23) (.const (.sc (.int .i64 16777216)))⟩,
   ⟨(some 25), false, none, .pick (.tmp 22) (.const (.sc (.bool true))) (.tmp 24)⟩,
   ⟨(some 15), false, none, .move (.tmp 25) false⟩])
 (.cond (.tmp 15)
 (.seq (.reg [⟨(some 8), false, none, .move (.const (.gs 35 [])) true⟩,
   ⟨(some 9), false, none, .move (.const (.sc (.int .i64 5))) false⟩])
 .ret)
 (.seq (.reg [⟨(some 27), false, none, .move (.tmp 0) false⟩,
   ⟨(some 28), false, none, .move (.tmp 11) false⟩,
   ⟨(some 29), false, none, .call 250 [((.tmp 27), 2), ((.tmp 28), 2)] []⟩,
   ⟨(some 26), false, none, .move (.tmp 29) false⟩])
 (.cond (.tmp 26)
 (.seq (.reg [⟨(some 8), false, none, .move (.const (.gs 35 [])) true⟩,
   ⟨(some 9), false, none, .move (.const (.sc (.int .i64 150))) false⟩])
 .ret)
 (.seq (.reg [⟨(some 31), false, none, .move (.tmp 0) false⟩,
   ⟨(some 32), false, none, .lenS (.tmp 31)⟩,
   ⟨(some 33), false, none, .bin .geq (.tmp 32) (.const (.sc (.int .i64 2048)))⟩,
   ⟨(some 30), false, none, .move (.tmp 33) false⟩])
 (.cond (.tmp 30)
 (.seq (.reg [⟨(some 8), false, none, .move (.const (.gs 35 [])) true⟩,
   ⟨(some 9), false, none, .move (.const (.sc (.int .i64 380))) false⟩])
 .ret)
 .skip)))))))
 (.seq (.dreg [] [(⟨(some 34), false, none, .move (.tmp 0) false⟩, q0),
   (⟨(some 35), false, none, .call 245 [((.tmp 34), 0)] []⟩, q1),
   (⟨(some 36), false, none, .load true 32 (.tmp 5) false⟩, ⟨true, some 5, [], false⟩),
   (⟨(some 37), false, none, .move (.tmp 10) false⟩, q0),
   (⟨(some 38), false, none, .move (.tmp 3) false⟩, q0),
   (⟨(some 39), false, none, .build [(.sc (.int .u8 0)), (.sc (.int .u8 0)), (.sc (.int .u8 0)), (.sc (.int .u8 0)), (.sc (.int .u8 0)), (.sc (.int .u8 0)), (.sc (.int .u8 0)), (.sc (.int .u8 0)), (.sc (.int .u8 0)), (.sc (.int .u8 0)), (.sc (.int .u8 0)), (.sc (.int .u8 0)), (.sc (.int .u8 0)), (.sc (.int .u8 0)), (.sc (.int .u8 0)), (.sc (.int .u8 0)), (.sc (.int .u8 0)), (.sc (.int .u8 0)), (.sc (.int .u8 0)), (.sc (.int .u8 0)), (.sc (.int .u8 0)), (.sc (.int .u8 0)), (.sc (.int .u8 0)), (.sc (.int .u8 0)), (.sc (.int .u8 0)), (.sc (.int .u8 0)), (.sc (.int .u8 0)), (.sc (.int .u8 0)), (.sc (.int .u8 0)), (.sc (.int .u8 0)), (.sc (.int .u8 0)), (.sc (.int .u8 0)), (.sc (.int .i64 0)), (.sc (.int .i64 0)), (.sc (.int .i64 0))] [(0, 32, (.tmp 36)), (32, 1, (.tmp 37)), (33, 1, (.tmp 38))]⟩, q0),
   (⟨(some 40), false, none, .buildSlice 35 1 [(.sc (.int .u8 0)), (.sc (.int .u8 0)), (.sc (.int .u8 0)), (.sc (.int .u8 0)), (.sc (.int .u8 0)), (.sc (.int .u8 0)), (.sc (.int .u8 0)), (.sc (.int .u8 0)), (.sc (.int .u8 0)), (.sc (.int .u8 0)), (.sc (.int .u8 0)), (.sc (.int .u8 0)), (.sc (.int .u8 0)), (.sc (.int .u8 0)), (.sc (.int .u8 0)), (.sc (.int .u8 0)), (.sc (.int .u8 0)), (.sc (.int .u8 0)), (.sc (.int .u8 0)), (.sc (.int .u8 0)), (.sc (.int .u8 0)), (.sc (.int .u8 0)), (.sc (.int .u8 0)), (.sc (.int .u8 0)), (.sc (.int .u8 0)), (.sc (.int .u8 0)), (.sc (.int .u8 0)), (.sc (.int .u8 0)), (.sc (.int .u8 0)), (.sc (.int .u8 0)), (.sc (.int .u8 0)), (.sc (.int .u8 0)), (.sc (.int .i64 0)), (.sc (.int .i64 0)), (.sc (.int .i64 0))] [(0, 35, (.tmp 39))]⟩, q1),
   (⟨(some 41), false, none, .append 35 56 (.tmp 35) (.tmp 40)⟩, q0),
   (⟨(some 8), false, none, .move (.tmp 41) true⟩, q0),
   (⟨(some 9), false, none, .move (.const (.sc (.int .i64 0))) false⟩, q0)])
 .ret)))))⟩
def hint_fees_Observe : Hint := ⟨[(0, 1), (4, 0), (5, 2), (6, 0), (8, 0), (9, 8)], [], [none, none, none, none, none, none, none, none], [], [], false⟩
def sh_fees_Observe : Nat → Sh := shOf []
def cb_fees_Observe (F_fees_Class : T_fees_Class) (F_slices_ContainsFunc_Lapi_Sample_api_Sample : T_slices_ContainsFunc_Lapi_Sample_api_Sample) (F_slices_Clone_Lapi_Sample_api_Sample : T_slices_Clone_Lapi_Sample_api_Sample) (L : Nat) : CBC := (addC 245 (d_slices_Clone_Lapi_Sample_api_Sample F_slices_Clone_Lapi_Sample_api_Sample L) (addC 250 (d_slices_ContainsFunc_Lapi_Sample_api_Sample F_slices_ContainsFunc_Lapi_Sample_api_Sample L) (addC 222 (d_fees_Class F_fees_Class L) noC)))
def R_fees_Observe {β : Type} (F_fees_Class : T_fees_Class) (F_slices_ContainsFunc_Lapi_Sample_api_Sample : T_slices_ContainsFunc_Lapi_Sample_api_Sample) (F_slices_Clone_Lapi_Sample_api_Sample : T_slices_Clone_Lapi_Sample_api_Sample) (L : Nat) (p0 : List (List V)) (p1 : List V) (p2 : Int) (p3 : Int) (k_fin : List (List V) → Int → Option β) : Option β :=
 F_fees_Class β L p2 (fun v0 =>
 ifb (decide (v0 < (0 : Int))) (
 k_fin ([] : List (List V)) (5 : Int)) (
 ifb (decide (p3 < (1 : Int))) (
 k_fin ([] : List (List V)) (5 : Int)) (
 ifb (decide (p3 > (16777216 : Int))) (
 k_fin ([] : List (List V)) (5 : Int)) (
 F_slices_ContainsFunc_Lapi_Sample_api_Sample β L p0 p1 (fun v1 v2 =>
 chk ([(List.length v2)] = [(List.length p1)]) (
 ifb v1 (
 k_fin ([] : List (List V)) (150 : Int)) (
 ifb (decide (((List.length p0 : Nat) : Int) ≥ (2048 : Int))) (
 k_fin ([] : List (List V)) (380 : Int)) (
 F_slices_Clone_Lapi_Sample_api_Sample β L p0 (fun v3 =>
 chk (0 + 32 ≤ (List.length v2)) (
 chk ((List.length (List.take 32 v2)) = 32 ∧ 0 + 32 ≤ 35) (
 chk (1 = 1 ∧ 32 + 1 ≤ (List.length (setAt (List.replicate 32 (V.sc (.int .u8 (0 : Int))) ++ [(V.sc (.int .i64 (0 : Int))), (V.sc (.int .i64 (0 : Int))), (V.sc (.int .i64 (0 : Int)))]) 0 (List.take 32 v2)))) (
 chk (1 = 1 ∧ 33 + 1 ≤ (List.length (setAt (setAt (List.replicate 32 (V.sc (.int .u8 (0 : Int))) ++ [(V.sc (.int .i64 (0 : Int))), (V.sc (.int .i64 (0 : Int))), (V.sc (.int .i64 (0 : Int)))]) 0 (List.take 32 v2)) 32 [(V.sc (.int .i64 v0))]))) (
 chk ((List.length (setAt (setAt (setAt (List.replicate 32 (V.sc (.int .u8 (0 : Int))) ++ [(V.sc (.int .i64 (0 : Int))), (V.sc (.int .i64 (0 : Int))), (V.sc (.int .i64 (0 : Int)))]) 0 (List.take 32 v2)) 32 [(V.sc (.int .i64 v0))]) 33 [(V.sc (.int .i64 p3))])) = 35 ∧ 0 + 35 ≤ 35) (
 chk ((List.length v3 + List.length (chunks 35 1 (setAt (List.replicate 32 (V.sc (.int .u8 (0 : Int))) ++ [(V.sc (.int .i64 (0 : Int))), (V.sc (.int .i64 (0 : Int))), (V.sc (.int .i64 (0 : Int)))]) 0 (setAt (setAt (setAt (List.replicate 32 (V.sc (.int .u8 (0 : Int))) ++ [(V.sc (.int .i64 (0 : Int))), (V.sc (.int .i64 (0 : Int))), (V.sc (.int .i64 (0 : Int)))]) 0 (List.take 32 v2)) 32 [(V.sc (.int .i64 v0))]) 33 [(V.sc (.int .i64 p3))])))) * 56 ≤ sizeCap ∧ List.length v3 + List.length (chunks 35 1 (setAt (List.replicate 32 (V.sc (.int .u8 (0 : Int))) ++ [(V.sc (.int .i64 (0 : Int))), (V.sc (.int .i64 (0 : Int))), (V.sc (.int .i64 (0 : Int)))]) 0 (setAt (setAt (setAt (List.replicate 32 (V.sc (.int .u8 (0 : Int))) ++ [(V.sc (.int .i64 (0 : Int))), (V.sc (.int .i64 (0 : Int))), (V.sc (.int .i64 (0 : Int)))]) 0 (List.take 32 v2)) 32 [(V.sc (.int .i64 v0))]) 33 [(V.sc (.int .i64 p3))]))) ≤ sizeCap) (
 lt (v3 ++ (chunks 35 1 (setAt (List.replicate 32 (V.sc (.int .u8 (0 : Int))) ++ [(V.sc (.int .i64 (0 : Int))), (V.sc (.int .i64 (0 : Int))), (V.sc (.int .i64 (0 : Int)))]) 0 (setAt (setAt (setAt (List.replicate 32 (V.sc (.int .u8 (0 : Int))) ++ [(V.sc (.int .i64 (0 : Int))), (V.sc (.int .i64 (0 : Int))), (V.sc (.int .i64 (0 : Int)))]) 0 (List.take 32 v2)) 32 [(V.sc (.int .i64 v0))]) 33 [(V.sc (.int .i64 p3))])))) fun l4 =>
 k_fin l4 (0 : Int))))))))))))))))
theorem R_fees_Observe_ok {β : Type} (F_fees_Class : T_fees_Class) (F_slices_ContainsFunc_Lapi_Sample_api_Sample : T_slices_ContainsFunc_Lapi_Sample_api_Sample) (F_slices_Clone_Lapi_Sample_api_Sample : T_slices_Clone_Lapi_Sample_api_Sample) (L : Nat) (p0 : List (List V)) (p1 : List V) (p2 : Int) (p3 : Int) (k : V → Bor → Option β) : funC sh_fees_Observe (cb_fees_Observe F_fees_Class F_slices_ContainsFunc_Lapi_Sample_api_Sample F_slices_Clone_Lapi_Sample_api_Sample L) L cf_fees_Observe [(V.sl 35 p0), (V.agg p1), (V.sc (.int .i64 p2)), (V.sc (.int .i64 p3))] [] k = R_fees_Observe F_fees_Class F_slices_ContainsFunc_Lapi_Sample_api_Sample F_slices_Clone_Lapi_Sample_api_Sample L p0 p1 p2 p3 (fun p0_0 p0_1 => k (V.tup [(V.gs 35 p0_0), (V.sc (.int .i64 p0_1))]) []) := by kernel_rfl
abbrev T_fees_Observe := ∀ (β : Type), Nat → List (List V) → List V → Int → Int → (List (List V) → Int → Option β) → Option β
def F_fees_Observe (β : Type) (L : Nat) (p0 : List (List V)) (p1 : List V) (p2 : Int) (p3 : Int) (k_fin : List (List V) → Int → Option β) : Option β := R_fees_Observe F_fees_Class F_slices_ContainsFunc_Lapi_Sample_api_Sample F_slices_Clone_Lapi_Sample_api_Sample L p0 p1 p2 p3 k_fin
def d_fees_Observe (F_fees_Observe : T_fees_Observe) (L : Nat) (β : Type) (args : List V) (bor : Bor) (k : V → Bor → Option β) : Option β := match args, bor with
  | [a0, a1, a2, a3], [] => aL 35 a0 fun p0 => aG a1 fun p1 => aI .i64 a2 fun p2 => aI .i64 a3 fun p3 => F_fees_Observe β L p0 p1 p2 p3 (fun p0_0 p0_1 => k (V.tup [(V.gs 35 p0_0), (V.sc (.int .i64 p0_1))]) [])
  | _, _ => none
theorem d_fees_Observe_ok (L : Nat) (β : Type) (args : List V) (bor : Bor) (k : V → Bor → Option β) (r : β) (h : d_fees_Observe F_fees_Observe L β args bor k = some r) : funC sh_fees_Observe (cb_fees_Observe F_fees_Class F_slices_ContainsFunc_Lapi_Sample_api_Sample F_slices_Clone_Lapi_Sample_api_Sample L) L cf_fees_Observe args bor k = some r := by
  unfold d_fees_Observe at h
  split at h
  · have q := aL_inv h; clear h; obtain ⟨p0, rfl, h⟩ := q
    have q := aG_inv h; clear h; obtain ⟨p1, rfl, h⟩ := q
    have q := aI_inv h; clear h; obtain ⟨p2, rfl, h⟩ := q
    have q := aI_inv h; clear h; obtain ⟨p3, rfl, h⟩ := q
    exact (R_fees_Observe_ok F_fees_Class F_slices_ContainsFunc_Lapi_Sample_api_Sample F_slices_Clone_Lapi_Sample_api_Sample L p0 p1 p2 p3 k).trans h
  · cases h
/-! ref33_Same : 235 -/
def cbbabaa_ref33_Same : CC := (.seq (.seq (.reg [⟨(some 11), false, none, .move (.tmp 5) false⟩,
   ⟨(some 12), false, none, .move (.tmp 0) false⟩,
   ⟨(some 13), false, none, .lenS (.tmp 12)⟩,
   ⟨(some 14), false, none, .bin .lss (.tmp 11) (.tmp 13)⟩])
 (.cond (.tmp 14)
 .skip
 (.seq (.mask (bl 0 26) (bl 67100623 26))
 (.exit 0))))
 (.seq (.block 1 (.seq (.dreg [] [(⟨(some 17), false, none, .move (.tmp 0) false⟩, q0),
   (⟨(some 18), false, none, .move (.tmp 5) false⟩, q0),
   (⟨(some 19), false, none, .indexAddrS 35 (.tmp 17) (.tmp 18)⟩, q0),
   (⟨(some 20), false, none, .load true 35 (.tmp 19) false⟩, q1),
   (⟨(some 21), false, none, .move (.tmp 1) false⟩, q0),
   (⟨(some 22), false, none, .move (.tmp 5) false⟩, q0),
   (⟨(some 23), false, none, .indexAddrS 35 (.tmp 21) (.tmp 22)⟩, q0),
   (⟨(some 24), false, none, .load true 35 (.tmp 23) false⟩, q1),
   (⟨(some 25), false, none, .eqAgg true 35 (.tmp 20) (.tmp 24)⟩, q0)])
 (.cond (.tmp 25)
 (.seq (.reg [⟨(some 4), false, none, .move (.const (.sc (.bool false))) false⟩])
 (.seq (.mask (bl 16 26) (bl 67100639 26))
 .ret))
 .skip)))
 (.reg [⟨(some 15), false, none, .move (.tmp 5) false⟩,
   ⟨(some 16), false, none, .bin .add (.tmp 15) (.const (.sc (.int .i64 1)))⟩,
   ⟨(some 5), false, none, .move (.tmp 16) false⟩])))
def cbbb_ref33_Same : CC := (.seq (.reg [⟨(some 4), false, none, .move (.const (.sc (.bool true))) false⟩])
 .ret)
def cf_ref33_Same : CF := ⟨26, [.tmp 4],
 (.seq (.reg [⟨(some 4), false, none, .move (.const (.sc (.bool false))) false⟩])
 (.seq (.seq (.reg [⟨(some 6), false, none, .move (.tmp 0) false⟩,
   ⟨(some 7), false, none, .lenS (.tmp 6)⟩,
   ⟨(some 8), false, none, .move (.tmp 1) false⟩,
   ⟨(some 9), false, none, .lenS (.tmp 8)⟩,
   ⟨(some 10), false, none, .bin .neq (.tmp 7) (.tmp 9)⟩])
 (.cond (.tmp 10)
 (.seq (.reg [⟨(some 4), false, none, .move (.const (.sc (.bool false))) false⟩])
 .ret)
 .skip))
 (.seq (.seq (.reg [⟨(some 5), false, none, .move (.const (.sc (.int .i64 0))) false⟩])
 (.block 0 (.loop (bl 35 26) (bl 67100655 26)
 cbbabaa_ref33_Same)))
 cbbb_ref33_Same)))⟩
def hint_ref33_Same : Hint := ⟨[], [], [none, none, none, some ((bl 35 26), (bl 67100655 26)), none, some ((bl 0 26), (bl 67100623 26)), none, none, some ((bl 16 26), (bl 67100639 26)), none], [], [], false⟩
def sh_ref33_Same : Nat → Sh := shOf []
def cb_ref33_Same (L : Nat) : CBC := noC
def mbbaba_ref33_Same : St → St := maskN 0 (bl 35 26) (bl 67100655 26)
def st_hbbaba_ref33_Same (p0 : List (List V)) (p1 : List (List V)) (p5 : Int) : St := ⟨[(V.sl 35 p0), (V.sl 35 p1), .junk, .junk, .junk, (V.sc (.int .i64 p5)), .junk, .junk, .junk, .junk, .junk, .junk, .junk, .junk, .junk, .junk, .junk, .junk, .junk, .junk, .junk, .junk, .junk, .junk, .junk, .junk], [.gone, .gone, .gone, .gone, .gone, .gone, .gone, .gone, .gone, .gone, .gone, .gone, .gone, .gone, .gone, .gone, .gone, .gone, .gone, .gone, .gone, .gone, .gone, .gone, .gone, .gone]⟩
def st_ret_ref33_Same (p4 : Bool) : St := ⟨[.junk, .junk, .junk, .junk, (V.sc (.bool p4)), .junk, .junk, .junk, .junk, .junk, .junk, .junk, .junk, .junk, .junk, .junk, .junk, .junk, .junk, .junk, .junk, .junk, .junk, .junk, .junk, .junk], [.gone, .gone, .gone, .gone, .gone, .gone, .gone, .gone, .gone, .gone, .gone, .gone, .gone, .gone, .gone, .gone, .gone, .gone, .gone, .gone, .gone, .gone, .gone, .gone, .gone, .gone]⟩
def st_x0_ref33_Same : St := ⟨[.junk, .junk, .junk, .junk, .junk, .junk, .junk, .junk, .junk, .junk, .junk, .junk, .junk, .junk, .junk, .junk, .junk, .junk, .junk, .junk, .junk, .junk, .junk, .junk, .junk, .junk], [.gone, .gone, .gone, .gone, .gone, .gone, .gone, .gone, .gone, .gone, .gone, .gone, .gone, .gone, .gone, .gone, .gone, .gone, .gone, .gone, .gone, .gone, .gone, .gone, .gone, .gone]⟩
def e_ref33_Same {β : Type} (L : Nat) (p0 : List (List V)) (p1 : List (List V)) (k_fin : Bool → Option β) (k_hbbaba : List (List V) → List (List V) → Int → Option β) : Option β :=
 ifb ((((List.length p0 : Nat) : Int) : Int) != ((List.length p1 : Nat) : Int)) (
 k_fin false) (
 k_hbbaba p0 p1 (0 : Int))
theorem e_ref33_Same_ok {β : Type} (L : Nat) (p0 : List (List V)) (p1 : List (List V)) (k : V → Bor → Option β) : funC sh_ref33_Same (cb_ref33_Same L) L cf_ref33_Same [(V.sl 35 p0), (V.sl 35 p1)] [] k = e_ref33_Same L p0 p1 (fun p0 => k (V.sc (.bool p0)) []) (fun p0 p1 p5 => loopM (runC sh_ref33_Same (cb_ref33_Same L) 0 L cbbabaa_ref33_Same) mbbaba_ref33_Same L (st_hbbaba_ref33_Same p0 p1 p5) (blockK 0 (seqK (runC sh_ref33_Same (cb_ref33_Same L) 0 L cbbb_ref33_Same) (finK 0 (CF.res cf_ref33_Same) k)))) := by kernel_rfl
def bbbaba_ref33_Same {β : Type} (L : Nat) (p0 : List (List V)) (p1 : List (List V)) (p5 : Int) (k_ret : Bool → Option β) (k_hbbaba : List (List V) → List (List V) → Int → Option β) (k_x0 : Option β) : Option β :=
 ifb (decide (p5 < ((List.length p0 : Nat) : Int))) (
 idx p0 p5 fun c0 =>
 idx p1 p5 fun c1 =>
 eqC 35 (List.take 35 c0) (List.take 35 c1) fun v2 =>
 ifb (!v2) (
 k_ret false) (
 lt (IntKind.wrap .i64 ((p5 : Int) + (1 : Int))) fun x3 =>
 k_hbbaba p0 p1 x3)) (
 k_x0)
theorem bbbaba_ref33_Same_ok {β : Type} (L : Nat) (p0 : List (List V)) (p1 : List (List V)) (p5 : Int) (X : St → Option β) (K : KT β) : runC sh_ref33_Same (cb_ref33_Same L) 0 L cbbabaa_ref33_Same (st_hbbaba_ref33_Same p0 p1 p5) (loopK mbbaba_ref33_Same X K) = bbbaba_ref33_Same L p0 p1 p5 (fun p4 => K .ret (st_ret_ref33_Same p4)) (fun p0 p1 p5 => X (st_hbbaba_ref33_Same p0 p1 p5)) (K (.exit 0) (st_x0_ref33_Same)) := by kernel_rfl
def rbbabaret_ref33_Same {β : Type} (L : Nat) (p4 : Bool) (k_fin : Bool → Option β) : Option β :=
 k_fin p4
theorem rbbabaret_ref33_Same_ok {β : Type} (L : Nat) (p4 : Bool) (k : V → Bor → Option β) : (blockK 0 (seqK (runC sh_ref33_Same (cb_ref33_Same L) 0 L cbbb_ref33_Same) (finK 0 (CF.res cf_ref33_Same) k))) .ret (st_ret_ref33_Same p4) = rbbabaret_ref33_Same L p4 (fun p0 => k (V.sc (.bool p0)) []) := by kernel_rfl
def rbbabax0_ref33_Same {β : Type} (L : Nat) (k_fin : Bool → Option β) : Option β :=
 k_fin true
theorem rbbabax0_ref33_Same_ok {β : Type} (L : Nat) (k : V → Bor → Option β) : (blockK 0 (seqK (runC sh_ref33_Same (cb_ref33_Same L) 0 L cbbb_ref33_Same) (finK 0 (CF.res cf_ref33_Same) k))) (.exit 0) (st_x0_ref33_Same) = rbbabax0_ref33_Same L (fun p0 => k (V.sc (.bool p0)) []) := by kernel_rfl
def lbbaba_ref33_Same {β : Type} (L : Nat) (k_ret : Bool → Option β) (k_x0 : Option β) : Nat → List (List V) → List (List V) → Int → Option β
  | 0, _, _, _ => none
  | n + 1, p0, p1, p5 => bbbaba_ref33_Same L p0 p1 p5 k_ret (fun p0 p1 p5 => lbbaba_ref33_Same L k_ret k_x0 n p0 p1 p5) k_x0
theorem lbbaba_ref33_Same_ok {β : Type} (L : Nat) (K : KT β) : ∀ (n : Nat) (p0 : List (List V)) (p1 : List (List V)) (p5 : Int), loopM (runC sh_ref33_Same (cb_ref33_Same L) 0 L cbbabaa_ref33_Same) mbbaba_ref33_Same n (st_hbbaba_ref33_Same p0 p1 p5) K = lbbaba_ref33_Same L (fun p4 => K .ret (st_ret_ref33_Same p4)) (K (.exit 0) (st_x0_ref33_Same)) n p0 p1 p5 := by
  intro n
  induction n with
  | zero => intros; rfl
  | succ n ih =>
    intro p0 p1 p5
    refine (bbbaba_ref33_Same_ok L p0 p1 p5 (fun σ => loopM (runC sh_ref33_Same (cb_ref33_Same L) 0 L cbbabaa_ref33_Same) mbbaba_ref33_Same n σ K) K).trans ?_
    simp only [ih]
    rfl
def R_ref33_Same {β : Type} (L : Nat) (p0 : List (List V)) (p1 : List (List V)) (k_fin : Bool → Option β) : Option β :=
 e_ref33_Same L p0 p1 k_fin (fun p0 p1 p5 => lbbaba_ref33_Same L (fun p4 => rbbabaret_ref33_Same L p4 k_fin) (rbbabax0_ref33_Same L k_fin) L p0 p1 p5)
theorem R_ref33_Same_ok {β : Type} (L : Nat) (p0 : List (List V)) (p1 : List (List V)) (k : V → Bor → Option β) : funC sh_ref33_Same (cb_ref33_Same L) L cf_ref33_Same [(V.sl 35 p0), (V.sl 35 p1)] [] k = R_ref33_Same L p0 p1 (fun p0 => k (V.sc (.bool p0)) []) := by
  refine (e_ref33_Same_ok L p0 p1 k).trans ?_
  unfold R_ref33_Same
  simp only [lbbaba_ref33_Same_ok, rbbabaret_ref33_Same_ok, rbbabax0_ref33_Same_ok]
abbrev T_ref33_Same := ∀ (β : Type), Nat → List (List V) → List (List V) → (Bool → Option β) → Option β
def F_ref33_Same (β : Type) (L : Nat) (p0 : List (List V)) (p1 : List (List V)) (k_fin : Bool → Option β) : Option β := R_ref33_Same L p0 p1 k_fin
def d_ref33_Same (F_ref33_Same : T_ref33_Same) (L : Nat) (β : Type) (args : List V) (bor : Bor) (k : V → Bor → Option β) : Option β := match args, bor with
  | [a0, a1], [] => aL 35 a0 fun p0 => aL 35 a1 fun p1 => F_ref33_Same β L p0 p1 (fun p0 => k (V.sc (.bool p0)) [])
  | _, _ => none
theorem d_ref33_Same_ok (L : Nat) (β : Type) (args : List V) (bor : Bor) (k : V → Bor → Option β) (r : β) (h : d_ref33_Same F_ref33_Same L β args bor k = some r) : funC sh_ref33_Same (cb_ref33_Same L) L cf_ref33_Same args bor k = some r := by
  unfold d_ref33_Same at h
  split at h
  · have q := aL_inv h; clear h; obtain ⟨p0, rfl, h⟩ := q
    have q := aL_inv h; clear h; obtain ⟨p1, rfl, h⟩ := q
    exact (R_ref33_Same_ok L p0 p1 k).trans h
  · cases h
/-! law33_FeesUndone : 214 -/
def cbbbbbbabaa_law33_FeesUndone : CC := (.seq (.seq (.reg [⟨(some 26), false, none, .move (.tmp 9) false⟩,
   ⟨(some 27), false, none, .bin .gtr (.tmp 26) (.const (.sc (.int .i64 0)))⟩])
 (.cond (.tmp 27)
 .skip
 (.seq (.mask (bl 448 67) (bl 147050934113289630207 67))
 (.exit 0))))
 (.seq (.block 1 (.seq (.seq (.reg [⟨(some 30), false, none, .move (.tmp 5) false⟩,
   ⟨(some 31), false, none, .call 231 [((.tmp 30), 0), ((.const (.sc (.int .i64 2))), 0)] []⟩,
   ⟨(some 32), false, none, .bin .eql (.tmp 31) (.const (.sc (.int .i64 0)))⟩])
 (.cond (.tmp 32)
 (.seq (.reg [⟨(some 33), false, none, .move (.tmp 8) false⟩,
   ⟨(some 34), false, none, .move (.tmp 5) false⟩,
   ⟨(some 35), false, none, .call 233 [((.tmp 34), 0), ((.const (.sc (.int .i64 4))), 0)] []⟩,
   ⟨(some 36), false, none, .move (.tmp 6) false⟩,
   ⟨(some 37), false, none, .bin .add (.tmp 36) (.const (.sc (.int .i64 1)))⟩,
   ⟨(some 38), false, none, .move (.tmp 5) false⟩,
   ⟨(some 39), false, none, .call 231 [((.tmp 38), 0), ((.const (.sc (.int .i64 4))), 0)] []⟩,
   ⟨(some 40), false, none, .bin .add (.tmp 37) (.tmp 39)⟩,
   ⟨(some 41), false, none, .call 232 [((.tmp 33), 0), ((.tmp 35), 0), ((.tmp 40), 0)] []⟩,
   ⟨(some 8), false, none, .move (.tmp 41) false⟩])
 (.exit 1))
 .skip))
 (.seq (.reg [⟨(some 43), false, none, .move (.tmp 8) false⟩,
   ⟨(some 44), false, none, .move (.tmp 5) false⟩,
   ⟨(some 45), false, none, .call 231 [((.tmp 44), 0), ((.const (.sc (.int .i64 9))), 0)] []⟩,
   ⟨(some 46), false, none, .conv .u8 (.tmp 45)⟩,
   ⟨(some 47), false, none, .build (List.replicate 32 (.sc (.int .u8 0))) [(0, 1, (.const (.sc (.int .u8 9)))), (1, 1, (.tmp 46))]⟩,
   ⟨(some 48), false, none, .move (.tmp 5) false⟩,
   ⟨(some 49), false, none, .call 231 [((.tmp 48), 0), ((.const (.sc (.int .i64 50))), 0)] []⟩,
   ⟨(some 50), false, none, .bin .add (.const (.sc (.int .i64 10))) (.tmp 49)⟩,
   ⟨(some 51), false, none, .move (.tmp 6) false⟩,
   ⟨(some 52), false, none, .bin .add (.tmp 51) (.const (.sc (.int .i64 1)))⟩,
   ⟨(some 53), false, none, .move (.tmp 5) false⟩,
   ⟨(some 54), false, none, .call 231 [((.tmp 53), 0), ((.const (.sc (.int .i64 4))), 0)] []⟩,
   ⟨(some 55), false, none, .bin .add (.tmp 52) (.tmp 54)⟩,
   ⟨(some 56), false, none, .call 234 [((.tmp 43), 0), ((.tmp 47), 0), ((.tmp 50), 0), ((.tmp 55), 0)] []⟩,
   ⟨(some 42), false, none, .move (.tmp 56) true⟩,
   ⟨(some 57), false, none, .extract (.tmp 42) 0⟩,
   ⟨(some 58), false, none, .pull (.tmp 42) 1⟩,
   ⟨(some 10), false, none, .move (.tmp 57) false⟩,
   ⟨(some 11), false, none, .move (.tmp 58) false⟩])
 (.seq (.reg [⟨(some 59), false, none, .move (.tmp 11) false⟩,
   ⟨(some 60), false, none, .bin .eql (.tmp 59) (.const (.sc (.int .i64 0)))⟩])
 (.cond (.tmp 60)
 (.reg [⟨(some 61), false, none, .move (.tmp 10) false⟩,
   ⟨(some 8), false, none, .move (.tmp 61) false⟩])
 .skip)))))
 (.reg [⟨(some 28), false, none, .move (.tmp 9) false⟩,
   ⟨(some 29), false, none, .bin .sub (.tmp 28) (.const (.sc (.int .i64 1)))⟩,
   ⟨(some 9), false, none, .move (.tmp 29) false⟩])))
def cbbbbbbb_law33_FeesUndone : CC := (.seq (.reg [⟨(some 62), false, none, .move (.tmp 8) false⟩,
   ⟨(some 63), false, none, .move (.tmp 6) false⟩,
   ⟨(some 64), false, none, .call 230 [((.tmp 62), 0), ((.tmp 63), 0)] []⟩,
   ⟨(some 65), false, none, .move (.tmp 7) false⟩,
   ⟨(some 66), false, none, .call 235 [((.tmp 64), 0), ((.tmp 65), 0)] []⟩,
   ⟨(some 4), false, none, .move (.tmp 66) false⟩])
 .ret)
def cf_law33_FeesUndone : CF := ⟨67, [.tmp 4],
 (.seq (.reg [⟨(some 4), false, none, .move (.const (.sc (.bool false))) false⟩])
 (.seq (.seq (.reg [⟨(some 12), false, none, .call 216 [] []⟩,
   ⟨(some 13), false, none, .un .not (.tmp 12)⟩])
 (.cond (.tmp 13)
 (.seq (.reg [⟨(some 4), false, none, .move (.const (.sc (.bool false))) false⟩])
 .ret)
 .skip))
 (.seq (.reg [⟨(some 14), false, none, .move (.tmp 0) false⟩,
   ⟨(some 15), false, none, .call 225 [((.tmp 14), 0)] []⟩,
   ⟨(some 5), false, none, .move (.tmp 15) false⟩])
 (.seq (.reg [⟨(some 16), false, none, .move (.tmp 1) false⟩,
   ⟨(some 17), false, none, .call 217 [((.tmp 16), 0), ((.const (.sc (.int .i64 5))), 0)] []⟩,
   ⟨(some 18), false, none, .bin .add (.const (.sc (.int .i64 16))) (.tmp 17)⟩,
   ⟨(some 6), false, none, .move (.tmp 18) false⟩])
 (.seq (.reg [⟨(some 19), false, none, .move (.tmp 5) false⟩,
   ⟨(some 20), false, none, .call 224 [((.tmp 19), 0)] []⟩,
   ⟨(some 21), false, none, .move (.tmp 6) false⟩,
   ⟨(some 22), false, none, .call 230 [((.tmp 20), 0), ((.tmp 21), 0)] []⟩,
   ⟨(some 7), false, none, .move (.tmp 22) false⟩])
 (.seq (.reg [⟨(some 23), false, none, .move (.tmp 7) false⟩,
   ⟨(some 8), false, none, .move (.tmp 23) false⟩])
 (.seq (.seq (.reg [⟨(some 24), false, none, .move (.tmp 5) false⟩,
   ⟨(some 25), false, none, .call 231 [((.tmp 24), 0), ((.const (.sc (.int .i64 8))), 0)] []⟩,
   ⟨(some 9), false, none, .move (.tmp 25) false⟩])
 (.block 0 (.loop (bl 992 67) (bl 147050934113289630719 67)
 cbbbbbbabaa_law33_FeesUndone)))
 cbbbbbbb_law33_FeesUndone)))))))⟩
def hint_law33_FeesUndone : Hint := ⟨[(12, 14), (12, 15)], [], [none, none, none, some ((bl 992 67), (bl 147050934113289630719 67)), none, some ((bl 448 67), (bl 147050934113289630207 67)), none, none, none, none, none], [], [], false⟩
def sh_law33_FeesUndone : Nat → Sh := shOf []
def cb_law33_FeesUndone (F_law33_sane : T_law33_sane) (F_mill_New : T_mill_New) (F_mill_Mod : T_mill_Mod) (F_law33_samples : T_law33_samples) (F_fees_Rewind : T_fees_Rewind) (F_mill_Deck_Next : T_mill_Deck_Next) (F_mill_Hashes : T_mill_Hashes) (F_fees_Confirm : T_fees_Confirm) (F_fees_Observe : T_fees_Observe) (F_ref33_Same : T_ref33_Same) (L : Nat) : CBC := (addC 235 (d_ref33_Same F_ref33_Same L) (addC 234 (d_fees_Observe F_fees_Observe L) (addC 232 (d_fees_Confirm F_fees_Confirm L) (addC 233 (d_mill_Hashes F_mill_Hashes L) (addC 231 (d_mill_Deck_Next F_mill_Deck_Next L) (addC 230 (d_fees_Rewind F_fees_Rewind L) (addC 224 (d_law33_samples F_law33_samples L) (addC 217 (d_mill_Mod F_mill_Mod L) (addC 225 (d_mill_New F_mill_New L) (addC 216 (d_law33_sane F_law33_sane L) noC))))))))))
def mbbbbbbaba_law33_FeesUndone : St → St := maskN 0 (bl 992 67) (bl 147050934113289630719 67)
def st_hbbbbbbaba_law33_FeesUndone (p6 : Int) (p7 : List (List V)) (p8 : List (List V)) (p9 : Int) (b15_0 : List (List V)) (b15_1 : Int) : St := ⟨[.junk, .junk, .junk, .junk, .junk, (V.ptr 15 0), (V.sc (.int .i64 p6)), (V.sl 35 p7), (V.sl 35 p8), (V.sc (.int .i64 p9)), .junk, .junk, .junk, .junk, .junk, .junk, .junk, .junk, .junk, .junk, .junk, .junk, .junk, .junk, .junk, .junk, .junk, .junk, .junk, .junk, .junk, .junk, .junk, .junk, .junk, .junk, .junk, .junk, .junk, .junk, .junk, .junk, .junk, .junk, .junk, .junk, .junk, .junk, .junk, .junk, .junk, .junk, .junk, .junk, .junk, .junk, .junk, .junk, .junk, .junk, .junk, .junk, .junk, .junk, .junk, .junk, .junk], [.gone, .gone, .gone, .gone, .gone, .gone, .gone, .gone, .gone, .gone, .gone, .gone, .gone, .gone, .gone, (.live false [(V.sl 1 b15_0), (V.sc (.int .i64 b15_1))]), .gone, .gone, .gone, .gone, .gone, .gone, .gone, .gone, .gone, .gone, .gone, .gone, .gone, .gone, .gone, .gone, .gone, .gone, .gone, .gone, .gone, .gone, .gone, .gone, .gone, .gone, .gone, .gone, .gone, .gone, .gone, .gone, .gone, .gone, .gone, .gone, .gone, .gone, .gone, .gone, .gone, .gone, .gone, .gone, .gone, .gone, .gone, .gone, .gone, .gone, .gone]⟩
def st_x0_law33_FeesUndone (p6 : Int) (p7 : List (List V)) (p8 : List (List V)) (b15_0 : List (List V)) (b15_1 : Int) : St := ⟨[.junk, .junk, .junk, .junk, .junk, .junk, (V.sc (.int .i64 p6)), (V.sl 35 p7), (V.sl 35 p8), .junk, .junk, .junk, .junk, .junk, .junk, .junk, .junk, .junk, .junk, .junk, .junk, .junk, .junk, .junk, .junk, .junk, .junk, .junk, .junk, .junk, .junk, .junk, .junk, .junk, .junk, .junk, .junk, .junk, .junk, .junk, .junk, .junk, .junk, .junk, .junk, .junk, .junk, .junk, .junk, .junk, .junk, .junk, .junk, .junk, .junk, .junk, .junk, .junk, .junk, .junk, .junk, .junk, .junk, .junk, .junk, .junk, .junk], [.gone, .gone, .gone, .gone, .gone, .gone, .gone, .gone, .gone, .gone, .gone, .gone, .gone, .gone, .gone, (.live false [(V.sl 1 b15_0), (V.sc (.int .i64 b15_1))]), .gone, .gone, .gone, .gone, .gone, .gone, .gone, .gone, .gone, .gone, .gone, .gone, .gone, .gone, .gone, .gone, .gone, .gone, .gone, .gone, .gone, .gone, .gone, .gone, .gone, .gone, .gone, .gone, .gone, .gone, .gone, .gone, .gone, .gone, .gone, .gone, .gone, .gone, .gone, .gone, .gone, .gone, .gone, .gone, .gone, .gone, .gone, .gone, .gone, .gone, .gone]⟩
def e_law33_FeesUndone {β : Type} (F_law33_sane : T_law33_sane) (F_mill_New : T_mill_New) (F_mill_Mod : T_mill_Mod) (F_law33_samples : T_law33_samples) (F_fees_Rewind : T_fees_Rewind) (F_mill_Deck_Next : T_mill_Deck_Next) (F_mill_Hashes : T_mill_Hashes) (F_fees_Confirm : T_fees_Confirm) (F_fees_Observe : T_fees_Observe) (F_ref33_Same : T_ref33_Same) (L : Nat) (p0 : List (List V)) (p1 : Int) (k_fin : Bool → Option β) (k_hbbbbbbaba : Int → List (List V) → List (List V) → Int → List (List V) → Int → Option β) : Option β :=
 F_law33_sane β L  (fun v0 =>
 ifb (!v0) (
 k_fin false) (
 F_mill_New β L p0 (fun v1 v2 =>
 F_mill_Mod β L p1 (5 : Int) (fun v3 =>
 lt (IntKind.wrap .i64 (((16 : Int) : Int) + v3)) fun x4 =>
 F_law33_samples β L v1 v2 (fun v5 v6 v7 =>
 F_fees_Rewind β L v5 x4 (fun v8 =>
 F_mill_Deck_Next β L (8 : Int) v6 v7 (fun v9 v10 v11 =>
 k_hbbbbbbaba x4 v8 v8 v9 v10 v11)))))))
theorem e_law33_FeesUndone_ok {β : Type} (F_law33_sane : T_law33_sane) (F_mill_New : T_mill_New) (F_mill_Mod : T_mill_Mod) (F_law33_samples : T_law33_samples) (F_fees_Rewind : T_fees_Rewind) (F_mill_Deck_Next : T_mill_Deck_Next) (F_mill_Hashes : T_mill_Hashes) (F_fees_Confirm : T_fees_Confirm) (F_fees_Observe : T_fees_Observe) (F_ref33_Same : T_ref33_Same) (L : Nat) (p0 : List (List V)) (p1 : Int) (k : V → Bor → Option β) : funC sh_law33_FeesUndone (cb_law33_FeesUndone F_law33_sane F_mill_New F_mill_Mod F_law33_samples F_fees_Rewind F_mill_Deck_Next F_mill_Hashes F_fees_Confirm F_fees_Observe F_ref33_Same L) L cf_law33_FeesUndone [(V.sl 1 p0), (V.sc (.int .i64 p1))] [] k = e_law33_FeesUndone F_law33_sane F_mill_New F_mill_Mod F_law33_samples F_fees_Rewind F_mill_Deck_Next F_mill_Hashes F_fees_Confirm F_fees_Observe F_ref33_Same L p0 p1 (fun p0 => k (V.sc (.bool p0)) []) (fun p6 p7 p8 p9 b15_0 b15_1 => loopM (runC sh_law33_FeesUndone (cb_law33_FeesUndone F_law33_sane F_mill_New F_mill_Mod F_law33_samples F_fees_Rewind F_mill_Deck_Next F_mill_Hashes F_fees_Confirm F_fees_Observe F_ref33_Same L) 0 L cbbbbbbabaa_law33_FeesUndone) mbbbbbbaba_law33_FeesUndone L (st_hbbbbbbaba_law33_FeesUndone p6 p7 p8 p9 b15_0 b15_1) (blockK 0 (seqK (runC sh_law33_FeesUndone (cb_law33_FeesUndone F_law33_sane F_mill_New F_mill_Mod F_law33_samples F_fees_Rewind F_mill_Deck_Next F_mill_Hashes F_fees_Confirm F_fees_Observe F_ref33_Same L) 0 L cbbbbbbb_law33_FeesUndone) (finK 0 (CF.res cf_law33_FeesUndone) k)))) := by kernel_rfl
def bbbbbbbaba_law33_FeesUndone {β : Type} (F_law33_sane : T_law33_sane) (F_mill_New : T_mill_New) (F_mill_Mod : T_mill_Mod) (F_law33_samples : T_law33_samples) (F_fees_Rewind : T_fees_Rewind) (F_mill_Deck_Next : T_mill_Deck_Next) (F_mill_Hashes : T_mill_Hashes) (F_fees_Confirm : T_fees_Confirm) (F_fees_Observe : T_fees_Observe) (F_ref33_Same : T_ref33_Same) (L : Nat) (p6 : Int) (p7 : List (List V)) (p8 : List (List V)) (p9 : Int) (b15_0 : List (List V)) (b15_1 : Int) (k_hbbbbbbaba : Int → List (List V) → List (List V) → Int → List (List V) → Int → Option β) (k_x0 : Int → List (List V) → List (List V) → List (List V) → Int → Option β) : Option β :=
 ifb (decide (p9 > (0 : Int))) (
 F_mill_Deck_Next β L (2 : Int) b15_0 b15_1 (fun v12 v13 v14 =>
 ifb ((v12 : Int) == (0 : Int)) (
 F_mill_Hashes β L (4 : Int) v13 v14 (fun v15 v16 v17 =>
 lt (IntKind.wrap .i64 ((p6 : Int) + (1 : Int))) fun x18 =>
 F_mill_Deck_Next β L (4 : Int) v16 v17 (fun v19 v20 v21 =>
 lt (IntKind.wrap .i64 ((x18 : Int) + v19)) fun x22 =>
 F_fees_Confirm β L p8 v15 x22 (fun v23 =>
 lt (IntKind.wrap .i64 ((p9 : Int) - (1 : Int))) fun x24 =>
 k_hbbbbbbaba p6 p7 v23 x24 v20 v21)))) (
 F_mill_Deck_Next β L (9 : Int) v13 v14 (fun v25 v26 v27 =>
 lt (IntKind.wrap .u8 v25) fun x28 =>
 F_mill_Deck_Next β L (50 : Int) v26 v27 (fun v29 v30 v31 =>
 lt (IntKind.wrap .i64 (((10 : Int) : Int) + v29)) fun x32 =>
 lt (IntKind.wrap .i64 ((p6 : Int) + (1 : Int))) fun x33 =>
 F_mill_Deck_Next β L (4 : Int) v30 v31 (fun v34 v35 v36 =>
 lt (IntKind.wrap .i64 ((x33 : Int) + v34)) fun x37 =>
 F_fees_Observe β L p8 ([(V.sc (.int .u8 (9 : Int))), (V.sc (.int .u8 x28))] ++ List.replicate 30 (V.sc (.int .u8 (0 : Int)))) x32 x37 (fun v38 v39 =>
 ifb ((v39 : Int) == (0 : Int)) (
 lt (IntKind.wrap .i64 ((p9 : Int) - (1 : Int))) fun x40 =>
 k_hbbbbbbaba p6 p7 v38 x40 v35 v36) (
 lt (IntKind.wrap .i64 ((p9 : Int) - (1 : Int))) fun x41 =>
 k_hbbbbbbaba p6 p7 p8 x41 v35 v36)))))))) (
 k_x0 p6 p7 p8 b15_0 b15_1)
theorem bbbbbbbaba_law33_FeesUndone_ok {β : Type} (F_law33_sane : T_law33_sane) (F_mill_New : T_mill_New) (F_mill_Mod : T_mill_Mod) (F_law33_samples : T_law33_samples) (F_fees_Rewind : T_fees_Rewind) (F_mill_Deck_Next : T_mill_Deck_Next) (F_mill_Hashes : T_mill_Hashes) (F_fees_Confirm : T_fees_Confirm) (F_fees_Observe : T_fees_Observe) (F_ref33_Same : T_ref33_Same) (L : Nat) (p6 : Int) (p7 : List (List V)) (p8 : List (List V)) (p9 : Int) (b15_0 : List (List V)) (b15_1 : Int) (X : St → Option β) (K : KT β) : runC sh_law33_FeesUndone (cb_law33_FeesUndone F_law33_sane F_mill_New F_mill_Mod F_law33_samples F_fees_Rewind F_mill_Deck_Next F_mill_Hashes F_fees_Confirm F_fees_Observe F_ref33_Same L) 0 L cbbbbbbabaa_law33_FeesUndone (st_hbbbbbbaba_law33_FeesUndone p6 p7 p8 p9 b15_0 b15_1) (loopK mbbbbbbaba_law33_FeesUndone X K) = bbbbbbbaba_law33_FeesUndone F_law33_sane F_mill_New F_mill_Mod F_law33_samples F_fees_Rewind F_mill_Deck_Next F_mill_Hashes F_fees_Confirm F_fees_Observe F_ref33_Same L p6 p7 p8 p9 b15_0 b15_1 (fun p6 p7 p8 p9 b15_0 b15_1 => X (st_hbbbbbbaba_law33_FeesUndone p6 p7 p8 p9 b15_0 b15_1)) (fun p6 p7 p8 b15_0 b15_1 => K (.exit 0) (st_x0_law33_FeesUndone p6 p7 p8 b15_0 b15_1)) := by kernel_rfl
def rbbbbbbabax0_law33_FeesUndone {β : Type} (F_law33_sane : T_law33_sane) (F_mill_New : T_mill_New) (F_mill_Mod : T_mill_Mod) (F_law33_samples : T_law33_samples) (F_fees_Rewind : T_fees_Rewind) (F_mill_Deck_Next : T_mill_Deck_Next) (F_mill_Hashes : T_mill_Hashes) (F_fees_Confirm : T_fees_Confirm) (F_fees_Observe : T_fees_Observe) (F_ref33_Same : T_ref33_Same) (L : Nat) (p6 : Int) (p7 : List (List V)) (p8 : List (List V)) (b15_0 : List (List V)) (b15_1 : Int) (k_fin : Bool → Option β) : Option β :=
 F_fees_Rewind β L p8 p6 (fun v42 =>
 F_ref33_Same β L v42 p7 (fun v43 =>
 k_fin v43))
theorem rbbbbbbabax0_law33_FeesUndone_ok {β : Type} (F_law33_sane : T_law33_sane) (F_mill_New : T_mill_New) (F_mill_Mod : T_mill_Mod) (F_law33_samples : T_law33_samples) (F_fees_Rewind : T_fees_Rewind) (F_mill_Deck_Next : T_mill_Deck_Next) (F_mill_Hashes : T_mill_Hashes) (F_fees_Confirm : T_fees_Confirm) (F_fees_Observe : T_fees_Observe) (F_ref33_Same : T_ref33_Same) (L : Nat) (p6 : Int) (p7 : List (List V)) (p8 : List (List V)) (b15_0 : List (List V)) (b15_1 : Int) (k : V → Bor → Option β) : (blockK 0 (seqK (runC sh_law33_FeesUndone (cb_law33_FeesUndone F_law33_sane F_mill_New F_mill_Mod F_law33_samples F_fees_Rewind F_mill_Deck_Next F_mill_Hashes F_fees_Confirm F_fees_Observe F_ref33_Same L) 0 L cbbbbbbb_law33_FeesUndone) (finK 0 (CF.res cf_law33_FeesUndone) k))) (.exit 0) (st_x0_law33_FeesUndone p6 p7 p8 b15_0 b15_1) = rbbbbbbabax0_law33_FeesUndone F_law33_sane F_mill_New F_mill_Mod F_law33_samples F_fees_Rewind F_mill_Deck_Next F_mill_Hashes F_fees_Confirm F_fees_Observe F_ref33_Same L p6 p7 p8 b15_0 b15_1 (fun p0 => k (V.sc (.bool p0)) []) := by kernel_rfl
def lbbbbbbaba_law33_FeesUndone {β : Type} (F_law33_sane : T_law33_sane) (F_mill_New : T_mill_New) (F_mill_Mod : T_mill_Mod) (F_law33_samples : T_law33_samples) (F_fees_Rewind : T_fees_Rewind) (F_mill_Deck_Next : T_mill_Deck_Next) (F_mill_Hashes : T_mill_Hashes) (F_fees_Confirm : T_fees_Confirm) (F_fees_Observe : T_fees_Observe) (F_ref33_Same : T_ref33_Same) (L : Nat) (k_x0 : Int → List (List V) → List (List V) → List (List V) → Int → Option β) : Nat → Int → List (List V) → List (List V) → Int → List (List V) → Int → Option β
  | 0, _, _, _, _, _, _ => none
  | n + 1, p6, p7, p8, p9, b15_0, b15_1 => bbbbbbbaba_law33_FeesUndone F_law33_sane F_mill_New F_mill_Mod F_law33_samples F_fees_Rewind F_mill_Deck_Next F_mill_Hashes F_fees_Confirm F_fees_Observe F_ref33_Same L p6 p7 p8 p9 b15_0 b15_1 (fun p6 p7 p8 p9 b15_0 b15_1 => lbbbbbbaba_law33_FeesUndone F_law33_sane F_mill_New F_mill_Mod F_law33_samples F_fees_Rewind F_mill_Deck_Next F_mill_Hashes F_fees_Confirm F_fees_Observe F_ref33_Same L k_x0 n p6 p7 p8 p9 b15_0 b15_1) k_x0
theorem lbbbbbbaba_law33_FeesUndone_ok {β : Type} (F_law33_sane : T_law33_sane) (F_mill_New : T_mill_New) (F_mill_Mod : T_mill_Mod) (F_law33_samples : T_law33_samples) (F_fees_Rewind : T_fees_Rewind) (F_mill_Deck_Next : T_mill_Deck_Next) (F_mill_Hashes : T_mill_Hashes) (F_fees_Confirm : T_fees_Confirm) (F_fees_Observe : T_fees_Observe) (F_ref33_Same : T_ref33_Same) (L : Nat) (K : KT β) : ∀ (n : Nat) (p6 : Int) (p7 : List (List V)) (p8 : List (List V)) (p9 : Int) (b15_0 : List (List V)) (b15_1 : Int), loopM (runC sh_law33_FeesUndone (cb_law33_FeesUndone F_law33_sane F_mill_New F_mill_Mod F_law33_samples F_fees_Rewind F_mill_Deck_Next F_mill_Hashes F_fees_Confirm F_fees_Observe F_ref33_Same L) 0 L cbbbbbbabaa_law33_FeesUndone) mbbbbbbaba_law33_FeesUndone n (st_hbbbbbbaba_law33_FeesUndone p6 p7 p8 p9 b15_0 b15_1) K = lbbbbbbaba_law33_FeesUndone F_law33_sane F_mill_New F_mill_Mod F_law33_samples F_fees_Rewind F_mill_Deck_Next F_mill_Hashes F_fees_Confirm F_fees_Observe F_ref33_Same L (fun p6 p7 p8 b15_0 b15_1 => K (.exit 0) (st_x0_law33_FeesUndone p6 p7 p8 b15_0 b15_1)) n p6 p7 p8 p9 b15_0 b15_1 := by
  intro n
  induction n with
  | zero => intros; rfl
  | succ n ih =>
    intro p6 p7 p8 p9 b15_0 b15_1
    refine (bbbbbbbaba_law33_FeesUndone_ok F_law33_sane F_mill_New F_mill_Mod F_law33_samples F_fees_Rewind F_mill_Deck_Next F_mill_Hashes F_fees_Confirm F_fees_Observe F_ref33_Same L p6 p7 p8 p9 b15_0 b15_1 (fun σ => loopM (runC sh_law33_FeesUndone (cb_law33_FeesUndone F_law33_sane F_mill_New F_mill_Mod F_law33_samples F_fees_Rewind F_mill_Deck_Next F_mill_Hashes F_fees_Confirm F_fees_Observe F_ref33_Same L) 0 L cbbbbbbabaa_law33_FeesUndone) mbbbbbbaba_law33_FeesUndone n σ K) K).trans ?_
    simp only [ih]
    rfl
def R_law33_FeesUndone {β : Type} (F_law33_sane : T_law33_sane) (F_mill_New : T_mill_New) (F_mill_Mod : T_mill_Mod) (F_law33_samples : T_law33_samples) (F_fees_Rewind : T_fees_Rewind) (F_mill_Deck_Next : T_mill_Deck_Next) (F_mill_Hashes : T_mill_Hashes) (F_fees_Confirm : T_fees_Confirm) (F_fees_Observe : T_fees_Observe) (F_ref33_Same : T_ref33_Same) (L : Nat) (p0 : List (List V)) (p1 : Int) (k_fin : Bool → Option β) : Option β :=
 e_law33_FeesUndone F_law33_sane F_mill_New F_mill_Mod F_law33_samples F_fees_Rewind F_mill_Deck_Next F_mill_Hashes F_fees_Confirm F_fees_Observe F_ref33_Same L p0 p1 k_fin (fun p6 p7 p8 p9 b15_0 b15_1 => lbbbbbbaba_law33_FeesUndone F_law33_sane F_mill_New F_mill_Mod F_law33_samples F_fees_Rewind F_mill_Deck_Next F_mill_Hashes F_fees_Confirm F_fees_Observe F_ref33_Same L (fun p6 p7 p8 b15_0 b15_1 => rbbbbbbabax0_law33_FeesUndone F_law33_sane F_mill_New F_mill_Mod F_law33_samples F_fees_Rewind F_mill_Deck_Next F_mill_Hashes F_fees_Confirm F_fees_Observe F_ref33_Same L p6 p7 p8 b15_0 b15_1 k_fin) L p6 p7 p8 p9 b15_0 b15_1)
theorem R_law33_FeesUndone_ok {β : Type} (F_law33_sane : T_law33_sane) (F_mill_New : T_mill_New) (F_mill_Mod : T_mill_Mod) (F_law33_samples : T_law33_samples) (F_fees_Rewind : T_fees_Rewind) (F_mill_Deck_Next : T_mill_Deck_Next) (F_mill_Hashes : T_mill_Hashes) (F_fees_Confirm : T_fees_Confirm) (F_fees_Observe : T_fees_Observe) (F_ref33_Same : T_ref33_Same) (L : Nat) (p0 : List (List V)) (p1 : Int) (k : V → Bor → Option β) : funC sh_law33_FeesUndone (cb_law33_FeesUndone F_law33_sane F_mill_New F_mill_Mod F_law33_samples F_fees_Rewind F_mill_Deck_Next F_mill_Hashes F_fees_Confirm F_fees_Observe F_ref33_Same L) L cf_law33_FeesUndone [(V.sl 1 p0), (V.sc (.int .i64 p1))] [] k = R_law33_FeesUndone F_law33_sane F_mill_New F_mill_Mod F_law33_samples F_fees_Rewind F_mill_Deck_Next F_mill_Hashes F_fees_Confirm F_fees_Observe F_ref33_Same L p0 p1 (fun p0 => k (V.sc (.bool p0)) []) := by
  refine (e_law33_FeesUndone_ok F_law33_sane F_mill_New F_mill_Mod F_law33_samples F_fees_Rewind F_mill_Deck_Next F_mill_Hashes F_fees_Confirm F_fees_Observe F_ref33_Same L p0 p1 k).trans ?_
  unfold R_law33_FeesUndone
  simp only [lbbbbbbaba_law33_FeesUndone_ok, rbbbbbbabax0_law33_FeesUndone_ok]
abbrev T_law33_FeesUndone := ∀ (β : Type), Nat → List (List V) → Int → (Bool → Option β) → Option β
def F_law33_FeesUndone (β : Type) (L : Nat) (p0 : List (List V)) (p1 : Int) (k_fin : Bool → Option β) : Option β := R_law33_FeesUndone F_law33_sane F_mill_New F_mill_Mod F_law33_samples F_fees_Rewind F_mill_Deck_Next F_mill_Hashes F_fees_Confirm F_fees_Observe F_ref33_Same L p0 p1 k_fin
def d_law33_FeesUndone (F_law33_FeesUndone : T_law33_FeesUndone) (L : Nat) (β : Type) (args : List V) (bor : Bor) (k : V → Bor → Option β) : Option β := match args, bor with
  | [a0, a1], [] => aL 1 a0 fun p0 => aI .i64 a1 fun p1 => F_law33_FeesUndone β L p0 p1 (fun p0 => k (V.sc (.bool p0)) [])
  | _, _ => none
theorem d_law33_FeesUndone_ok (L : Nat) (β : Type) (args : List V) (bor : Bor) (k : V → Bor → Option β) (r : β) (h : d_law33_FeesUndone F_law33_FeesUndone L β args bor k = some r) : funC sh_law33_FeesUndone (cb_law33_FeesUndone F_law33_sane F_mill_New F_mill_Mod F_law33_samples F_fees_Rewind F_mill_Deck_Next F_mill_Hashes F_fees_Confirm F_fees_Observe F_ref33_Same L) L cf_law33_FeesUndone args bor k = some r := by
  unfold d_law33_FeesUndone at h
  split at h
  · have q := aL_inv h; clear h; obtain ⟨p0, rfl, h⟩ := q
    have q := aI_inv h; clear h; obtain ⟨p1, rfl, h⟩ := q
    exact (R_law33_FeesUndone_ok F_law33_sane F_mill_New F_mill_Mod F_law33_samples F_fees_Rewind F_mill_Deck_Next F_mill_Hashes F_fees_Confirm F_fees_Observe F_ref33_Same L p0 p1 k).trans h
  · cases h
/-! ref33_Rewind : 239 -/
def cbbabaa_ref33_Rewind : CC := (.seq (.seq (.reg [⟨(some 8), false, none, .move (.tmp 6) false⟩,
   ⟨(some 9), false, none, .move (.tmp 0) false⟩,
   ⟨(some 10), false, none, .lenS (.tmp 9)⟩,
   ⟨(some 11), false, none, .bin .lss (.tmp 8) (.tmp 10)⟩])
 (.cond (.tmp 11)
 .skip
 (.seq (.mask (bl 32 32) (bl 2684353343 32))
 (.exit 0))))
 (.seq (.block 1 (.seq (.reg [⟨(some 14), false, none, .move (.tmp 0) false⟩,
   ⟨(some 15), false, none, .move (.tmp 6) false⟩,
   ⟨(some 16), false, none, .indexAddrS 35 (.tmp 14) (.tmp 15)⟩,
   ⟨(some 17), false, none, .load true 35 (.tmp 16) false⟩,
   ⟨(some 7), false, none, .alloc true [(.sc (.int .u8 0)), (.sc (.int .u8 0)), (.sc (.int .u8 0)), (.sc (.int .u8 0)), (.sc (.int .u8 0)), (.sc (.int .u8 0)), (.sc (.int .u8 0)), (.sc (.int .u8 0)), (.sc (.int .u8 0)), (.sc (.int .u8 0)), (.sc (.int .u8 0)), (.sc (.int .u8 0)), (.sc (.int .u8 0)), (.sc (.int .u8 0)), (.sc (.int .u8 0)), (.sc (.int .u8 0)), (.sc (.int .u8 0)), (.sc (.int .u8 0)), (.sc (.int .u8 0)), (.sc (.int .u8 0)), (.sc (.int .u8 0)), (.sc (.int .u8 0)), (.sc (.int .u8 0)), (.sc (.int .u8 0)), (.sc (.int .u8 0)), (.sc (.int .u8 0)), (.sc (.int .u8 0)), (.sc (.int .u8 0)), (.sc (.int .u8 0)), (.sc (.int .u8 0)), (.sc (.int .u8 0)), (.sc (.int .u8 0)), (.sc (.int .i64 0)), (.sc (.int .i64 0)), (.sc (.int .i64 0))]⟩,
   ⟨none, false, none, .store 35 (.tmp 7) (.tmp 17)⟩])
 (.seq (.seq (.reg [⟨(some 18), false, none, .fieldAddr 33 (.tmp 7)⟩,
   ⟨(some 19), false, none, .load false 1 (.tmp 18) false⟩,
   ⟨(some 20), false, none, .move (.tmp 1) false⟩,
   ⟨(some 21), false, none, .bin .gtr (.tmp 19) (.tmp 20)⟩])
 (.cond (.tmp 21)
 (.exit 1)
 .skip))
 (.seq (.seq (.reg [⟨(some 22), false, none, .fieldAddr 34 (.tmp 7)⟩,
   ⟨(some 23), false, none, .load false 1 (.tmp 22) false⟩,
   ⟨(some 24), false, none, .move (.tmp 1) false⟩,
   ⟨(some 25), false, none, .bin .gtr (.tmp 23) (.tmp 24)⟩])
 (.cond (.tmp 25)
 (.reg [⟨(some 26), false, none, .fieldAddr 34 (.tmp 7)⟩,
   ⟨none, false, none, .store 1 (.tmp 26) (.const (.sc (.int .i64 0)))⟩])
 .skip))
 (.reg [⟨(some 27), false, none, .move (.tmp 5) true⟩,
   ⟨(some 28), false, none, .load true 35 (.tmp 7) false⟩,
   ⟨(some 29), false, none, .buildSlice 35 1 [(.sc (.int .u8 0)), (.sc (.int .u8 0)), (.sc (.int .u8 0)), (.sc (.int .u8 0)), (.sc (.int .u8 0)), (.sc (.int .u8 0)), (.sc (.int .u8 0)), (.sc (.int .u8 0)), (.sc (.int .u8 0)), (.sc (.int .u8 0)), (.sc (.int .u8 0)), (.sc (.int .u8 0)), (.sc (.int .u8 0)), (.sc (.int .u8 0)), (.sc (.int .u8 0)), (.sc (.int .u8 0)), (.sc (.int .u8 0)), (.sc (.int .u8 0)), (.sc (.int .u8 0)), (.sc (.int .u8 0)), (.sc (.int .u8 0)), (.sc (.int .u8 0)), (.sc (.int .u8 0)), (.sc (.int .u8 0)), (.sc (.int .u8 0)), (.sc (.int .u8 0)), (.sc (.int .u8 0)), (.sc (.int .u8 0)), (.sc (.int .u8 0)), (.sc (.int .u8 0)), (.sc (.int .u8 0)), (.sc (.int .u8 0)), (.sc (.int .i64 0)), (.sc (.int .i64 0)), (.sc (.int .i64 0))] [(0, 35, (.tmp 28))]⟩,
   ⟨(some 30), false, none, .append 35 56 (.tmp 27) (.tmp 29)⟩,
   ⟨(some 5), false, none, .move (.tmp 30) true⟩])))))
 (.reg [⟨(some 12), false, none, .move (.tmp 6) false⟩,
   ⟨(some 13), false, none, .bin .add (.tmp 12) (.const (.sc (.int .i64 1)))⟩,
   ⟨(some 6), false, none, .move (.tmp 13) false⟩])))
def cbbb_ref33_Rewind : CC := (.seq (.reg [⟨(some 31), false, none, .move (.tmp 5) true⟩,
   ⟨(some 4), false, none, .move (.tmp 31) true⟩])
 .ret)
def cf_ref33_Rewind : CF := ⟨32, [.tmp 4],
 (.seq (.reg [⟨(some 4), false, none, .move (.const (.gs 35 [])) true⟩])
 (.seq (.reg [⟨(some 5), false, none, .move (.const (.gs 35 [])) true⟩])
 (.seq (.seq (.reg [⟨(some 6), false, none, .move (.const (.sc (.int .i64 0))) false⟩])
 (.block 0 (.loop (bl 99 32) (bl 2684353407 32)
 cbbabaa_ref33_Rewind)))
 cbbb_ref33_Rewind)))⟩
def hint_ref33_Rewind : Hint := ⟨[(0, 0), (1, 0), (9, 0), (9, 4), (10, 0), (10, 1)], [], [none, some ((bl 99 32), (bl 2684353407 32)), none, some ((bl 32 32), (bl 2684353343 32)), none, none, none, none, none], [], [], false⟩
def sh_ref33_Rewind : Nat → Sh := shOf [(19, (.int .i64)), (23, (.int .i64))]
def cb_ref33_Rewind (L : Nat) : CBC := noC
def mbbaba_ref33_Rewind : St → St := maskN 0 (bl 99 32) (bl 2684353407 32)
def st_hbbaba_ref33_Rewind (p0 : List (List V)) (p1 : Int) (p5 : List (List V)) (p6 : Int) : St := ⟨[(V.sl 35 p0), (V.sc (.int .i64 p1)), .junk, .junk, .junk, (V.gs 35 p5), (V.sc (.int .i64 p6)), .junk, .junk, .junk, .junk, .junk, .junk, .junk, .junk, .junk, .junk, .junk, .junk, .junk, .junk, .junk, .junk, .junk, .junk, .junk, .junk, .junk, .junk, .junk, .junk, .junk], [.gone, .gone, .gone, .gone, .gone, .gone, .gone, .gone, .gone, .gone, .gone, .gone, .gone, .gone, .gone, .gone, .gone, .gone, .gone, .gone, .gone, .gone, .gone, .gone, .gone, .gone, .gone, .gone, .gone, .gone, .gone, .gone]⟩
def st_x0_ref33_Rewind (p5 : List (List V)) : St := ⟨[.junk, .junk, .junk, .junk, .junk, (V.gs 35 p5), .junk, .junk, .junk, .junk, .junk, .junk, .junk, .junk, .junk, .junk, .junk, .junk, .junk, .junk, .junk, .junk, .junk, .junk, .junk, .junk, .junk, .junk, .junk, .junk, .junk, .junk], [.gone, .gone, .gone, .gone, .gone, .gone, .gone, .gone, .gone, .gone, .gone, .gone, .gone, .gone, .gone, .gone, .gone, .gone, .gone, .gone, .gone, .gone, .gone, .gone, .gone, .gone, .gone, .gone, .gone, .gone, .gone, .gone]⟩
def e_ref33_Rewind {β : Type} (L : Nat) (p0 : List (List V)) (p1 : Int) (k_hbbaba : List (List V) → Int → List (List V) → Int → Option β) : Option β :=
 k_hbbaba p0 p1 ([] : List (List V)) (0 : Int)
theorem e_ref33_Rewind_ok {β : Type} (L : Nat) (p0 : List (List V)) (p1 : Int) (k : V → Bor → Option β) : funC sh_ref33_Rewind (cb_ref33_Rewind L) L cf_ref33_Rewind [(V.sl 35 p0), (V.sc (.int .i64 p1))] [] k = e_ref33_Rewind L p0 p1 (fun p0 p1 p5 p6 => loopM (runC sh_ref33_Rewind (cb_ref33_Rewind L) 0 L cbbabaa_ref33_Rewind) mbbaba_ref33_Rewind L (st_hbbaba_ref33_Rewind p0 p1 p5 p6) (blockK 0 (seqK (runC sh_ref33_Rewind (cb_ref33_Rewind L) 0 L cbbb_ref33_Rewind) (finK 0 (CF.res cf_ref33_Rewind) k)))) := by kernel_rfl
def bbbaba_ref33_Rewind {β : Type} (L : Nat) (p0 : List (List V)) (p1 : Int) (p5 : List (List V)) (p6 : Int) (k_hbbaba : List (List V) → Int → List (List V) → Int → Option β) (k_x0 : List (List V) → Option β) : Option β :=
 ifb (decide (p6 < ((List.length p0 : Nat) : Int))) (
 idx p0 p6 fun c0 =>
 chk ((List.length (List.take 35 c0)) = 35 ∧ 0 + 35 ≤ 35) (
 lt (setAt (List.replicate 32 (V.sc (.int .u8 (0 : Int))) ++ [(V.sc (.int .i64 (0 : Int))), (V.sc (.int .i64 (0 : Int))), (V.sc (.int .i64 (0 : Int)))]) 0 (List.take 35 c0)) fun r1 =>
 cI .i64 r1 33 fun v2 =>
 ifb (decide (v2 > p1)) (
 lt (IntKind.wrap .i64 ((p6 : Int) + (1 : Int))) fun x3 =>
 k_hbbaba p0 p1 p5 x3) (
 cI .i64 r1 34 fun v4 =>
 ifb (decide (v4 > p1)) (
 chk (1 = 1 ∧ 34 + 1 ≤ (List.length r1)) (
 lt (setAt r1 34 [(V.sc (.int .i64 (0 : Int)))]) fun r5 =>
 chk (0 + 35 ≤ (List.length r5)) (
 chk ((List.length (List.take 35 r5)) = 35 ∧ 0 + 35 ≤ 35) (
 chk ((List.length p5 + List.length (chunks 35 1 (setAt (List.replicate 32 (V.sc (.int .u8 (0 : Int))) ++ [(V.sc (.int .i64 (0 : Int))), (V.sc (.int .i64 (0 : Int))), (V.sc (.int .i64 (0 : Int)))]) 0 (List.take 35 r5)))) * 56 ≤ sizeCap ∧ List.length p5 + List.length (chunks 35 1 (setAt (List.replicate 32 (V.sc (.int .u8 (0 : Int))) ++ [(V.sc (.int .i64 (0 : Int))), (V.sc (.int .i64 (0 : Int))), (V.sc (.int .i64 (0 : Int)))]) 0 (List.take 35 r5))) ≤ sizeCap) (
 lt (p5 ++ (chunks 35 1 (setAt (List.replicate 32 (V.sc (.int .u8 (0 : Int))) ++ [(V.sc (.int .i64 (0 : Int))), (V.sc (.int .i64 (0 : Int))), (V.sc (.int .i64 (0 : Int)))]) 0 (List.take 35 r5)))) fun l6 =>
 lt (IntKind.wrap .i64 ((p6 : Int) + (1 : Int))) fun x7 =>
 k_hbbaba p0 p1 l6 x7))))) (
 chk (0 + 35 ≤ (List.length r1)) (
 chk ((List.length (List.take 35 r1)) = 35 ∧ 0 + 35 ≤ 35) (
 chk ((List.length p5 + List.length (chunks 35 1 (setAt (List.replicate 32 (V.sc (.int .u8 (0 : Int))) ++ [(V.sc (.int .i64 (0 : Int))), (V.sc (.int .i64 (0 : Int))), (V.sc (.int .i64 (0 : Int)))]) 0 (List.take 35 r1)))) * 56 ≤ sizeCap ∧ List.length p5 + List.length (chunks 35 1 (setAt (List.replicate 32 (V.sc (.int .u8 (0 : Int))) ++ [(V.sc (.int .i64 (0 : Int))), (V.sc (.int .i64 (0 : Int))), (V.sc (.int .i64 (0 : Int)))]) 0 (List.take 35 r1))) ≤ sizeCap) (
 lt (p5 ++ (chunks 35 1 (setAt (List.replicate 32 (V.sc (.int .u8 (0 : Int))) ++ [(V.sc (.int .i64 (0 : Int))), (V.sc (.int .i64 (0 : Int))), (V.sc (.int .i64 (0 : Int)))]) 0 (List.take 35 r1)))) fun l8 =>
 lt (IntKind.wrap .i64 ((p6 : Int) + (1 : Int))) fun x9 =>
 k_hbbaba p0 p1 l8 x9))))))) (
 k_x0 p5)
theorem bbbaba_ref33_Rewind_ok {β : Type} (L : Nat) (p0 : List (List V)) (p1 : Int) (p5 : List (List V)) (p6 : Int) (X : St → Option β) (K : KT β) : runC sh_ref33_Rewind (cb_ref33_Rewind L) 0 L cbbabaa_ref33_Rewind (st_hbbaba_ref33_Rewind p0 p1 p5 p6) (loopK mbbaba_ref33_Rewind X K) = bbbaba_ref33_Rewind L p0 p1 p5 p6 (fun p0 p1 p5 p6 => X (st_hbbaba_ref33_Rewind p0 p1 p5 p6)) (fun p5 => K (.exit 0) (st_x0_ref33_Rewind p5)) := by kernel_rfl
def rbbabax0_ref33_Rewind {β : Type} (L : Nat) (p5 : List (List V)) (k_fin : List (List V) → Option β) : Option β :=
 k_fin p5
theorem rbbabax0_ref33_Rewind_ok {β : Type} (L : Nat) (p5 : List (List V)) (k : V → Bor → Option β) : (blockK 0 (seqK (runC sh_ref33_Rewind (cb_ref33_Rewind L) 0 L cbbb_ref33_Rewind) (finK 0 (CF.res cf_ref33_Rewind) k))) (.exit 0) (st_x0_ref33_Rewind p5) = rbbabax0_ref33_Rewind L p5 (fun p0 => k (V.gs 35 p0) []) := by kernel_rfl
def lbbaba_ref33_Rewind {β : Type} (L : Nat) (k_x0 : List (List V) → Option β) : Nat → List (List V) → Int → List (List V) → Int → Option β
  | 0, _, _, _, _ => none
  | n + 1, p0, p1, p5, p6 => bbbaba_ref33_Rewind L p0 p1 p5 p6 (fun p0 p1 p5 p6 => lbbaba_ref33_Rewind L k_x0 n p0 p1 p5 p6) k_x0
theorem lbbaba_ref33_Rewind_ok {β : Type} (L : Nat) (K : KT β) : ∀ (n : Nat) (p0 : List (List V)) (p1 : Int) (p5 : List (List V)) (p6 : Int), loopM (runC sh_ref33_Rewind (cb_ref33_Rewind L) 0 L cbbabaa_ref33_Rewind) mbbaba_ref33_Rewind n (st_hbbaba_ref33_Rewind p0 p1 p5 p6) K = lbbaba_ref33_Rewind L (fun p5 => K (.exit 0) (st_x0_ref33_Rewind p5)) n p0 p1 p5 p6 := by
  intro n
  induction n with
  | zero => intros; rfl
  | succ n ih =>
    intro p0 p1 p5 p6
    refine (bbbaba_ref33_Rewind_ok L p0 p1 p5 p6 (fun σ => loopM (runC sh_ref33_Rewind (cb_ref33_Rewind L) 0 L cbbabaa_ref33_Rewind) mbbaba_ref33_Rewind n σ K) K).trans ?_
    simp only [ih]
    rfl
def R_ref33_Rewind {β : Type} (L : Nat) (p0 : List (List V)) (p1 : Int) (k_fin : List (List V) → Option β) : Option β :=
 e_ref33_Rewind L p0 p1 (fun p0 p1 p5 p6 => lbbaba_ref33_Rewind L (fun p5 => rbbabax0_ref33_Rewind L p5 k_fin) L p0 p1 p5 p6)
theorem R_ref33_Rewind_ok {β : Type} (L : Nat) (p0 : List (List V)) (p1 : Int) (k : V → Bor → Option β) : funC sh_ref33_Rewind (cb_ref33_Rewind L) L cf_ref33_Rewind [(V.sl 35 p0), (V.sc (.int .i64 p1))] [] k = R_ref33_Rewind L p0 p1 (fun p0 => k (V.gs 35 p0) []) := by
  refine (e_ref33_Rewind_ok L p0 p1 k).trans ?_
  unfold R_ref33_Rewind
  simp only [lbbaba_ref33_Rewind_ok, rbbabax0_ref33_Rewind_ok]
abbrev T_ref33_Rewind := ∀ (β : Type), Nat → List (List V) → Int → (List (List V) → Option β) → Option β
def F_ref33_Rewind (β : Type) (L : Nat) (p0 : List (List V)) (p1 : Int) (k_fin : List (List V) → Option β) : Option β := R_ref33_Rewind L p0 p1 k_fin
def d_ref33_Rewind (F_ref33_Rewind : T_ref33_Rewind) (L : Nat) (β : Type) (args : List V) (bor : Bor) (k : V → Bor → Option β) : Option β := match args, bor with
  | [a0, a1], [] => aL 35 a0 fun p0 => aI .i64 a1 fun p1 => F_ref33_Rewind β L p0 p1 (fun p0 => k (V.gs 35 p0) [])
  | _, _ => none
theorem d_ref33_Rewind_ok (L : Nat) (β : Type) (args : List V) (bor : Bor) (k : V → Bor → Option β) (r : β) (h : d_ref33_Rewind F_ref33_Rewind L β args bor k = some r) : funC sh_ref33_Rewind (cb_ref33_Rewind L) L cf_ref33_Rewind args bor k = some r := by
  unfold d_ref33_Rewind at h
  split at h
  · have q := aL_inv h; clear h; obtain ⟨p0, rfl, h⟩ := q
    have q := aI_inv h; clear h; obtain ⟨p1, rfl, h⟩ := q
    exact (R_ref33_Rewind_ok L p0 p1 k).trans h
  · cases h
/-! fees_Expire_1 : 252 -/
def cf_fees_Expire_1 : CF := ⟨9, [.tmp 3],
 (.seq (.reg [⟨(some 2), false, none, .box true (.tmp 0)⟩,
   ⟨(some 3), false, none, .move (.const (.sc (.bool false))) false⟩])
 (.seq (.reg [⟨(some 4), false, none, .fieldAddr 33 (.tmp 2)⟩,
   ⟨(some 5), false, none, .load false 1 (.tmp 4) false⟩,
   ⟨(some 6), false, none, .load false 1 (.tmp 1) false⟩,
   ⟨(some 7), false, none, .bin .sub (.tmp 6) (.const (.sc (.int .i64 96)))⟩,
   ⟨(some 8), false, none, .bin .lss (.tmp 5) (.tmp 7)⟩,
   ⟨(some 3), false, none, .move (.tmp 8) false⟩])
 .ret))⟩
def hint_fees_Expire_1 : Hint := ⟨[], [], [none], [], [], false⟩
def sh_fees_Expire_1 : Nat → Sh := shOf [(5, (.int .i64))]
def cb_fees_Expire_1 (L : Nat) : CBC := noC
def R_fees_Expire_1 {β : Type} (L : Nat) (p0 : List V) (b0_0 : Int) (k_fin : Bool → Int → Option β) : Option β :=
 cI .i64 p0 33 fun v0 =>
 lt (IntKind.wrap .i64 ((b0_0 : Int) - (96 : Int))) fun x1 =>
 k_fin (decide (v0 < x1)) b0_0
theorem R_fees_Expire_1_ok {β : Type} (L : Nat) (p0 : List V) (b0_0 : Int) (k : V → Bor → Option β) : funC sh_fees_Expire_1 (cb_fees_Expire_1 L) L cf_fees_Expire_1 [(V.agg p0), (V.ptr 0 0)] [(.live true [(V.sc (.int .i64 b0_0))])] k = R_fees_Expire_1 L p0 b0_0 (fun p0 b0_0 => k (V.sc (.bool p0)) [(.live true [(V.sc (.int .i64 b0_0))])]) := by kernel_rfl
abbrev T_fees_Expire_1 := ∀ (β : Type), Nat → List V → Int → (Bool → Int → Option β) → Option β
def F_fees_Expire_1 (β : Type) (L : Nat) (p0 : List V) (b0_0 : Int) (k_fin : Bool → Int → Option β) : Option β := R_fees_Expire_1 L p0 b0_0 k_fin
def d_fees_Expire_1 (F_fees_Expire_1 : T_fees_Expire_1) (L : Nat) (β : Type) (args : List V) (bor : Bor) (k : V → Bor → Option β) : Option β := match args, bor with
  | [a0, a1], [(.live true [w0_0])] => aG a0 fun p0 => aP 0 0 a1 (aI .i64 w0_0 fun b0_0 => F_fees_Expire_1 β L p0 b0_0 (fun p0 b0_0 => k (V.sc (.bool p0)) [(.live true [(V.sc (.int .i64 b0_0))])]))
  | _, _ => none
theorem d_fees_Expire_1_ok (L : Nat) (β : Type) (args : List V) (bor : Bor) (k : V → Bor → Option β) (r : β) (h : d_fees_Expire_1 F_fees_Expire_1 L β args bor k = some r) : funC sh_fees_Expire_1 (cb_fees_Expire_1 L) L cf_fees_Expire_1 args bor k = some r := by
  unfold d_fees_Expire_1 at h
  split at h
  · have q := aG_inv h; clear h; obtain ⟨p0, rfl, h⟩ := q
    have q := aP_inv h; clear h; obtain ⟨rfl, h⟩ := q
    have q := aI_inv h; clear h; obtain ⟨b0_0, rfl, h⟩ := q
    exact (R_fees_Expire_1_ok L p0 b0_0 k).trans h
  · cases h
/-! slices_IndexFunc_Lapi_Sample_api_Sample_2 : 253 -/
def cbabaa_slices_IndexFunc_Lapi_Sample_api_Sample_2 : CC := (.seq (.reg [⟨(some 9), false, none, .bin .lss (.tmp 8) (.tmp 7)⟩])
 (.seq (.cond (.tmp 9)
 .skip
 (.seq (.mask (bl 0 19) (bl 458703 19))
 (.exit 0)))
 (.seq (.block 1 (.seq (.reg [⟨(some 10), false, none, .move (.tmp 8) false⟩,
   ⟨(some 5), false, none, .move (.tmp 10) false⟩])
 (.seq (.reg [⟨(some 11), false, none, .move (.tmp 1) false⟩,
   ⟨(some 12), false, none, .move (.tmp 0) false⟩,
   ⟨(some 13), false, none, .move (.tmp 5) false⟩,
   ⟨(some 14), false, none, .indexAddrS 35 (.tmp 12) (.tmp 13)⟩,
   ⟨(some 15), false, none, .load true 35 (.tmp 14) false⟩,
   ⟨(some 16), false, none, .callv (.tmp 11) [((.tmp 15), 0)] []⟩])
 (.cond (.tmp 16)
 (.seq (.reg [⟨(some 17), false, none, .move (.tmp 5) false⟩,
   ⟨(some 4), false, none, .move (.tmp 17) false⟩])
 (.seq (.mask (bl 16 19) (bl 458719 19))
 .ret))
 .skip))))
 (.reg [⟨(some 18), false, none, .bin .add (.tmp 8) (.const (.sc (.int .i64 1)))⟩,
   ⟨(some 8), false, none, .move (.tmp 18) false⟩]))))
def cbb_slices_IndexFunc_Lapi_Sample_api_Sample_2 : CC := (.seq (.reg [⟨(some 4), false, none, .move (.const (.sc (.int .i64 (-1)))) false⟩])
 .ret)
def cf_slices_IndexFunc_Lapi_Sample_api_Sample_2 : CF := cf_slices_IndexFunc_Lapi_Sample_api_Sample
def sh_slices_IndexFunc_Lapi_Sample_api_Sample_2 : Nat → Sh := shOf []
def cb_slices_IndexFunc_Lapi_Sample_api_Sample_2 (F_fees_Expire_1 : T_fees_Expire_1) (L : Nat) : CBC := (addC 252 (d_fees_Expire_1 F_fees_Expire_1 L) noC)
def mbaba_slices_IndexFunc_Lapi_Sample_api_Sample_2 : St → St := maskN 2 (bl 387 19) (bl 458703 19)
def st_hbaba_slices_IndexFunc_Lapi_Sample_api_Sample_2 (p0l : Nat) (p7 : Int) (p8 : Int) (b0 : List V) (b1_0 : Int) : St := ⟨[(V.own 0 0 p0l 35), (V.fn 252 [(V.ptr 1 0)]), .junk, .junk, .junk, .junk, .junk, (V.sc (.int .i64 p7)), (V.sc (.int .i64 p8)), .junk, .junk, .junk, .junk, .junk, .junk, .junk, .junk, .junk, .junk], [(.live true b0), (.live true [(V.sc (.int .i64 b1_0))]), .gone, .gone, .gone, .gone, .gone, .gone, .gone, .gone, .gone, .gone, .gone, .gone, .gone, .gone, .gone, .gone, .gone, .gone, .gone]⟩
def st_ret_slices_IndexFunc_Lapi_Sample_api_Sample_2 (p4 : Int) (b0 : List V) (b1_0 : Int) : St := ⟨[.junk, .junk, .junk, .junk, (V.sc (.int .i64 p4)), .junk, .junk, .junk, .junk, .junk, .junk, .junk, .junk, .junk, .junk, .junk, .junk, .junk, .junk], [(.live true b0), (.live true [(V.sc (.int .i64 b1_0))]), .gone, .gone, .gone, .gone, .gone, .gone, .gone, .gone, .gone, .gone, .gone, .gone, .gone, .gone, .gone, .gone, .gone, .gone, .gone]⟩
def st_x0_slices_IndexFunc_Lapi_Sample_api_Sample_2 (b0 : List V) (b1_0 : Int) : St := ⟨[.junk, .junk, .junk, .junk, .junk, .junk, .junk, .junk, .junk, .junk, .junk, .junk, .junk, .junk, .junk, .junk, .junk, .junk, .junk], [(.live true b0), (.live true [(V.sc (.int .i64 b1_0))]), .gone, .gone, .gone, .gone, .gone, .gone, .gone, .gone, .gone, .gone, .gone, .gone, .gone, .gone, .gone, .gone, .gone, .gone, .gone]⟩
def e_slices_IndexFunc_Lapi_Sample_api_Sample_2 {β : Type} (F_fees_Expire_1 : T_fees_Expire_1) (L : Nat) (p0l : Nat) (b0 : List V) (b1_0 : Int) (k_hbaba : Nat → Int → Int → List V → Int → Option β) : Option β :=
 k_hbaba p0l ((p0l : Nat) : Int) (0 : Int) b0 b1_0
theorem e_slices_IndexFunc_Lapi_Sample_api_Sample_2_ok {β : Type} (F_fees_Expire_1 : T_fees_Expire_1) (L : Nat) (p0l : Nat) (b0 : List V) (b1_0 : Int) (k : V → Bor → Option β) : funC sh_slices_IndexFunc_Lapi_Sample_api_Sample_2 (cb_slices_IndexFunc_Lapi_Sample_api_Sample_2 F_fees_Expire_1 L) L cf_slices_IndexFunc_Lapi_Sample_api_Sample_2 [(V.own 0 0 p0l 35), (V.fn 252 [(V.ptr 1 0)])] [(.live true b0), (.live true [(V.sc (.int .i64 b1_0))])] k = e_slices_IndexFunc_Lapi_Sample_api_Sample_2 F_fees_Expire_1 L p0l b0 b1_0 (fun p0l p7 p8 b0 b1_0 => loopM (runC sh_slices_IndexFunc_Lapi_Sample_api_Sample_2 (cb_slices_IndexFunc_Lapi_Sample_api_Sample_2 F_fees_Expire_1 L) 2 L cbabaa_slices_IndexFunc_Lapi_Sample_api_Sample_2) mbaba_slices_IndexFunc_Lapi_Sample_api_Sample_2 L (st_hbaba_slices_IndexFunc_Lapi_Sample_api_Sample_2 p0l p7 p8 b0 b1_0) (blockK 0 (seqK (runC sh_slices_IndexFunc_Lapi_Sample_api_Sample_2 (cb_slices_IndexFunc_Lapi_Sample_api_Sample_2 F_fees_Expire_1 L) 2 L cbb_slices_IndexFunc_Lapi_Sample_api_Sample_2) (finK 2 (CF.res cf_slices_IndexFunc_Lapi_Sample_api_Sample_2) k)))) := by kernel_rfl
def bbaba_slices_IndexFunc_Lapi_Sample_api_Sample_2 {β : Type} (F_fees_Expire_1 : T_fees_Expire_1) (L : Nat) (p0l : Nat) (p7 : Int) (p8 : Int) (b0 : List V) (b1_0 : Int) (k_ret : Int → List V → Int → Option β) (k_hbaba : Nat → Int → Int → List V → Int → Option β) (k_x0 : List V → Int → Option β) : Option β :=
 ifb (decide (p8 < p7)) (
 chk (0 ≤ p8 ∧ p8 < ((p0l : Nat) : Int)) (
 chk ((0 + ((Int.toNat p8) * 35)) + 35 ≤ (List.length b0)) (
 F_fees_Expire_1 β L (List.take 35 (List.drop (0 + ((Int.toNat p8) * 35)) b0)) b1_0 (fun v0 v1 =>
 ifb v0 (
 k_ret p8 b0 v1) (
 lt (IntKind.wrap .i64 ((p8 : Int) + (1 : Int))) fun x2 =>
 k_hbaba p0l p7 x2 b0 v1))))) (
 k_x0 b0 b1_0)
theorem bbaba_slices_IndexFunc_Lapi_Sample_api_Sample_2_ok {β : Type} (F_fees_Expire_1 : T_fees_Expire_1) (L : Nat) (p0l : Nat) (p7 : Int) (p8 : Int) (b0 : List V) (b1_0 : Int) (X : St → Option β) (K : KT β) : runC sh_slices_IndexFunc_Lapi_Sample_api_Sample_2 (cb_slices_IndexFunc_Lapi_Sample_api_Sample_2 F_fees_Expire_1 L) 2 L cbabaa_slices_IndexFunc_Lapi_Sample_api_Sample_2 (st_hbaba_slices_IndexFunc_Lapi_Sample_api_Sample_2 p0l p7 p8 b0 b1_0) (loopK mbaba_slices_IndexFunc_Lapi_Sample_api_Sample_2 X K) = bbaba_slices_IndexFunc_Lapi_Sample_api_Sample_2 F_fees_Expire_1 L p0l p7 p8 b0 b1_0 (fun p4 b0 b1_0 => K .ret (st_ret_slices_IndexFunc_Lapi_Sample_api_Sample_2 p4 b0 b1_0)) (fun p0l p7 p8 b0 b1_0 => X (st_hbaba_slices_IndexFunc_Lapi_Sample_api_Sample_2 p0l p7 p8 b0 b1_0)) (fun b0 b1_0 => K (.exit 0) (st_x0_slices_IndexFunc_Lapi_Sample_api_Sample_2 b0 b1_0)) := by kernel_rfl
def rbabaret_slices_IndexFunc_Lapi_Sample_api_Sample_2 {β : Type} (F_fees_Expire_1 : T_fees_Expire_1) (L : Nat) (p4 : Int) (b0 : List V) (b1_0 : Int) (k_fin : Int → List V → Int → Option β) : Option β :=
 k_fin p4 b0 b1_0
theorem rbabaret_slices_IndexFunc_Lapi_Sample_api_Sample_2_ok {β : Type} (F_fees_Expire_1 : T_fees_Expire_1) (L : Nat) (p4 : Int) (b0 : List V) (b1_0 : Int) (k : V → Bor → Option β) : (blockK 0 (seqK (runC sh_slices_IndexFunc_Lapi_Sample_api_Sample_2 (cb_slices_IndexFunc_Lapi_Sample_api_Sample_2 F_fees_Expire_1 L) 2 L cbb_slices_IndexFunc_Lapi_Sample_api_Sample_2) (finK 2 (CF.res cf_slices_IndexFunc_Lapi_Sample_api_Sample_2) k))) .ret (st_ret_slices_IndexFunc_Lapi_Sample_api_Sample_2 p4 b0 b1_0) = rbabaret_slices_IndexFunc_Lapi_Sample_api_Sample_2 F_fees_Expire_1 L p4 b0 b1_0 (fun p0 b0 b1_0 => k (V.sc (.int .i64 p0)) [(.live true b0), (.live true [(V.sc (.int .i64 b1_0))])]) := by kernel_rfl
def rbabax0_slices_IndexFunc_Lapi_Sample_api_Sample_2 {β : Type} (F_fees_Expire_1 : T_fees_Expire_1) (L : Nat) (b0 : List V) (b1_0 : Int) (k_fin : Int → List V → Int → Option β) : Option β :=
 k_fin (-1 : Int) b0 b1_0
theorem rbabax0_slices_IndexFunc_Lapi_Sample_api_Sample_2_ok {β : Type} (F_fees_Expire_1 : T_fees_Expire_1) (L : Nat) (b0 : List V) (b1_0 : Int) (k : V → Bor → Option β) : (blockK 0 (seqK (runC sh_slices_IndexFunc_Lapi_Sample_api_Sample_2 (cb_slices_IndexFunc_Lapi_Sample_api_Sample_2 F_fees_Expire_1 L) 2 L cbb_slices_IndexFunc_Lapi_Sample_api_Sample_2) (finK 2 (CF.res cf_slices_IndexFunc_Lapi_Sample_api_Sample_2) k))) (.exit 0) (st_x0_slices_IndexFunc_Lapi_Sample_api_Sample_2 b0 b1_0) = rbabax0_slices_IndexFunc_Lapi_Sample_api_Sample_2 F_fees_Expire_1 L b0 b1_0 (fun p0 b0 b1_0 => k (V.sc (.int .i64 p0)) [(.live true b0), (.live true [(V.sc (.int .i64 b1_0))])]) := by kernel_rfl
def lbaba_slices_IndexFunc_Lapi_Sample_api_Sample_2 {β : Type} (F_fees_Expire_1 : T_fees_Expire_1) (L : Nat) (k_ret : Int → List V → Int → Option β) (k_x0 : List V → Int → Option β) : Nat → Nat → Int → Int → List V → Int → Option β
  | 0, _, _, _, _, _ => none
  | n + 1, p0l, p7, p8, b0, b1_0 => bbaba_slices_IndexFunc_Lapi_Sample_api_Sample_2 F_fees_Expire_1 L p0l p7 p8 b0 b1_0 k_ret (fun p0l p7 p8 b0 b1_0 => lbaba_slices_IndexFunc_Lapi_Sample_api_Sample_2 F_fees_Expire_1 L k_ret k_x0 n p0l p7 p8 b0 b1_0) k_x0
theorem lbaba_slices_IndexFunc_Lapi_Sample_api_Sample_2_ok {β : Type} (F_fees_Expire_1 : T_fees_Expire_1) (L : Nat) (K : KT β) : ∀ (n : Nat) (p0l : Nat) (p7 : Int) (p8 : Int) (b0 : List V) (b1_0 : Int), loopM (runC sh_slices_IndexFunc_Lapi_Sample_api_Sample_2 (cb_slices_IndexFunc_Lapi_Sample_api_Sample_2 F_fees_Expire_1 L) 2 L cbabaa_slices_IndexFunc_Lapi_Sample_api_Sample_2) mbaba_slices_IndexFunc_Lapi_Sample_api_Sample_2 n (st_hbaba_slices_IndexFunc_Lapi_Sample_api_Sample_2 p0l p7 p8 b0 b1_0) K = lbaba_slices_IndexFunc_Lapi_Sample_api_Sample_2 F_fees_Expire_1 L (fun p4 b0 b1_0 => K .ret (st_ret_slices_IndexFunc_Lapi_Sample_api_Sample_2 p4 b0 b1_0)) (fun b0 b1_0 => K (.exit 0) (st_x0_slices_IndexFunc_Lapi_Sample_api_Sample_2 b0 b1_0)) n p0l p7 p8 b0 b1_0 := by
  intro n
  induction n with
  | zero => intros; rfl
  | succ n ih =>
    intro p0l p7 p8 b0 b1_0
    refine (bbaba_slices_IndexFunc_Lapi_Sample_api_Sample_2_ok F_fees_Expire_1 L p0l p7 p8 b0 b1_0 (fun σ => loopM (runC sh_slices_IndexFunc_Lapi_Sample_api_Sample_2 (cb_slices_IndexFunc_Lapi_Sample_api_Sample_2 F_fees_Expire_1 L) 2 L cbabaa_slices_IndexFunc_Lapi_Sample_api_Sample_2) mbaba_slices_IndexFunc_Lapi_Sample_api_Sample_2 n σ K) K).trans ?_
    simp only [ih]
    rfl
def R_slices_IndexFunc_Lapi_Sample_api_Sample_2 {β : Type} (F_fees_Expire_1 : T_fees_Expire_1) (L : Nat) (p0l : Nat) (b0 : List V) (b1_0 : Int) (k_fin : Int → List V → Int → Option β) : Option β :=
 e_slices_IndexFunc_Lapi_Sample_api_Sample_2 F_fees_Expire_1 L p0l b0 b1_0 (fun p0l p7 p8 b0 b1_0 => lbaba_slices_IndexFunc_Lapi_Sample_api_Sample_2 F_fees_Expire_1 L (fun p4 b0 b1_0 => rbabaret_slices_IndexFunc_Lapi_Sample_api_Sample_2 F_fees_Expire_1 L p4 b0 b1_0 k_fin) (fun b0 b1_0 => rbabax0_slices_IndexFunc_Lapi_Sample_api_Sample_2 F_fees_Expire_1 L b0 b1_0 k_fin) L p0l p7 p8 b0 b1_0)
theorem R_slices_IndexFunc_Lapi_Sample_api_Sample_2_ok {β : Type} (F_fees_Expire_1 : T_fees_Expire_1) (L : Nat) (p0l : Nat) (b0 : List V) (b1_0 : Int) (k : V → Bor → Option β) : funC sh_slices_IndexFunc_Lapi_Sample_api_Sample_2 (cb_slices_IndexFunc_Lapi_Sample_api_Sample_2 F_fees_Expire_1 L) L cf_slices_IndexFunc_Lapi_Sample_api_Sample_2 [(V.own 0 0 p0l 35), (V.fn 252 [(V.ptr 1 0)])] [(.live true b0), (.live true [(V.sc (.int .i64 b1_0))])] k = R_slices_IndexFunc_Lapi_Sample_api_Sample_2 F_fees_Expire_1 L p0l b0 b1_0 (fun p0 b0 b1_0 => k (V.sc (.int .i64 p0)) [(.live true b0), (.live true [(V.sc (.int .i64 b1_0))])]) := by
  refine (e_slices_IndexFunc_Lapi_Sample_api_Sample_2_ok F_fees_Expire_1 L p0l b0 b1_0 k).trans ?_
  unfold R_slices_IndexFunc_Lapi_Sample_api_Sample_2
  simp only [lbaba_slices_IndexFunc_Lapi_Sample_api_Sample_2_ok, rbabaret_slices_IndexFunc_Lapi_Sample_api_Sample_2_ok, rbabax0_slices_IndexFunc_Lapi_Sample_api_Sample_2_ok]
abbrev T_slices_IndexFunc_Lapi_Sample_api_Sample_2 := ∀ (β : Type), Nat → Nat → List V → Int → (Int → List V → Int → Option β) → Option β
def F_slices_IndexFunc_Lapi_Sample_api_Sample_2 (β : Type) (L : Nat) (p0l : Nat) (b0 : List V) (b1_0 : Int) (k_fin : Int → List V → Int → Option β) : Option β := R_slices_IndexFunc_Lapi_Sample_api_Sample_2 F_fees_Expire_1 L p0l b0 b1_0 k_fin
def d_slices_IndexFunc_Lapi_Sample_api_Sample_2 (F_slices_IndexFunc_Lapi_Sample_api_Sample_2 : T_slices_IndexFunc_Lapi_Sample_api_Sample_2) (L : Nat) (β : Type) (args : List V) (bor : Bor) (k : V → Bor → Option β) : Option β := match args, bor with
  | [a0, a1], [(.live true b0), (.live true [w1_0])] => aO0 0 35 a0 fun p0l => aF 252 [(1, 0)] a1 (aI .i64 w1_0 fun b1_0 => F_slices_IndexFunc_Lapi_Sample_api_Sample_2 β L p0l b0 b1_0 (fun p0 b0 b1_0 => k (V.sc (.int .i64 p0)) [(.live true b0), (.live true [(V.sc (.int .i64 b1_0))])]))
  | _, _ => none
theorem d_slices_IndexFunc_Lapi_Sample_api_Sample_2_ok (L : Nat) (β : Type) (args : List V) (bor : Bor) (k : V → Bor → Option β) (r : β) (h : d_slices_IndexFunc_Lapi_Sample_api_Sample_2 F_slices_IndexFunc_Lapi_Sample_api_Sample_2 L β args bor k = some r) : funC sh_slices_IndexFunc_Lapi_Sample_api_Sample_2 (cb_slices_IndexFunc_Lapi_Sample_api_Sample_2 F_fees_Expire_1 L) L cf_slices_IndexFunc_Lapi_Sample_api_Sample_2 args bor k = some r := by
  unfold d_slices_IndexFunc_Lapi_Sample_api_Sample_2 at h
  split at h
  · have q := aO0_inv h; clear h; obtain ⟨p0l, rfl, h⟩ := q
    have q := aF_inv h; clear h; obtain ⟨rfl, h⟩ := q
    have q := aI_inv h; clear h; obtain ⟨b1_0, rfl, h⟩ := q
    exact (R_slices_IndexFunc_Lapi_Sample_api_Sample_2_ok F_fees_Expire_1 L p0l _ b1_0 k).trans h
  · cases h
/-! slices_DeleteFunc_Lapi_Sample_api_Sample_1 : 244 -/
def cbbbabaa_slices_DeleteFunc_Lapi_Sample_api_Sample_1 : CC := (.seq (.seq (.reg [⟨(some 16), false, none, .move (.tmp 6) false⟩,
   ⟨(some 17), false, none, .move (.tmp 0) false⟩,
   ⟨(some 18), false, none, .lenS (.tmp 17)⟩,
   ⟨(some 19), false, none, .bin .lss (.tmp 16) (.tmp 18)⟩])
 (.cond (.tmp 19)
 .skip
 (.seq (.mask (bl 33 42) (bl 4397777813311 42))
 (.exit 0))))
 (.seq (.block 1 (.seq (.reg [⟨(some 22), false, none, .move (.tmp 0) false⟩,
   ⟨(some 23), false, none, .move (.tmp 6) false⟩,
   ⟨(some 24), false, none, .indexAddrS 35 (.tmp 22) (.tmp 23)⟩,
   ⟨(some 25), false, none, .load true 35 (.tmp 24) false⟩,
   ⟨(some 7), false, none, .alloc true [(.sc (.int .u8 0)), (.sc (.int .u8 0)), (.sc (.int .u8 0)), (.sc (.int .u8 0)), (.sc (.int .u8 0)), (.sc (.int .u8 0)), (.sc (.int .u8 0)), (.sc (.int .u8 0)), (.sc (.int .u8 0)), (.sc (.int .u8 0)), (.sc (.int .u8 0)), (.sc (.int .u8 0)), (.sc (.int .u8 0)), (.sc (.int .u8 0)), (.sc (.int .u8 0)), (.sc (.int .u8 0)), (.sc (.int .u8 0)), (.sc (.int .u8 0)), (.sc (.int .u8 0)), (.sc (.int .u8 0)), (.sc (.int .u8 0)), (.sc (.int .u8 0)), (.sc (.int .u8 0)), (.sc (.int .u8 0)), (.sc (.int .u8 0)), (.sc (.int .u8 0)), (.sc (.int .u8 0)), (.sc (.int .u8 0)), (.sc (.int .u8 0)), (.sc (.int .u8 0)), (.sc (.int .u8 0)), (.sc (.int .u8 0)), (.sc (.int .i64 0)), (.sc (.int .i64 0)), (.sc (.int .i64 0))]⟩,
   ⟨none, false, none, .store 35 (.tmp 7) (.tmp 25)⟩])
 (.seq (.reg [⟨(some 26), false, none, .move (.tmp 1) false⟩,
   ⟨(some 27), false, none, .load true 35 (.tmp 7) false⟩,
   ⟨(some 28), false, none, .callv (.tmp 26) [((.tmp 27), 0)] []⟩,
   ⟨(some 29), false, none, .un .not (.tmp 28)⟩])
 (.cond (.tmp 29)
 (.seq (.reg [⟨(some 30), false, none, .move (.tmp 0) false⟩,
   ⟨(some 31), false, none, .move (.tmp 5) false⟩,
   ⟨(some 32), false, none, .load true 35 (.tmp 7) false⟩,
   ⟨(some 33), false, none, .indexAddrS 35 (.tmp 30) (.tmp 31)⟩,
   ⟨none, false, none, .store 35 (.tmp 33) (.tmp 32)⟩])
 (.reg [⟨(some 34), false, none, .move (.tmp 5) false⟩,
   ⟨(some 35), false, none, .bin .add (.tmp 34) (.const (.sc (.int .i64 1)))⟩,
   ⟨(some 5), false, none, .move (.tmp 35) false⟩]))
 .skip))))
 (.reg [⟨(some 20), false, none, .move (.tmp 6) false⟩,
   ⟨(some 21), false, none, .bin .add (.tmp 20) (.const (.sc (.int .i64 1)))⟩,
   ⟨(some 6), false, none, .move (.tmp 21) false⟩])))
def cbbbb_slices_DeleteFunc_Lapi_Sample_api_Sample_1 : CC := (.seq (.reg [⟨(some 36), false, none, .move (.tmp 0) false⟩,
   ⟨(some 37), false, none, .move (.tmp 5) false⟩,
   ⟨(some 38), false, none, .sliceS 35 (.tmp 36) (some (.tmp 37)) none none⟩,
   ⟨none, false, none, .clear 35 [(.sc (.int .u8 0)), (.sc (.int .u8 0)), (.sc (.int .u8 0)), (.sc (.int .u8 0)), (.sc (.int .u8 0)), (.sc (.int .u8 0)), (.sc (.int .u8 0)), (.sc (.int .u8 0)), (.sc (.int .u8 0)), (.sc (.int .u8 0)), (.sc (.int .u8 0)), (.sc (.int .u8 0)), (.sc (.int .u8 0)), (.sc (.int .u8 0)), (.sc (.int .u8 0)), (.sc (.int .u8 0)), (.sc (.int .u8 0)), (.sc (.int .u8 0)), (.sc (.int .u8 0)), (.sc (.int .u8 0)), (.sc (.int .u8 0)), (.sc (.int .u8 0)), (.sc (.int .u8 0)), (.sc (.int .u8 0)), (.sc (.int .u8 0)), (.sc (.int .u8 0)), (.sc (.int .u8 0)), (.sc (.int .u8 0)), (.sc (.int .u8 0)), (.sc (.int .u8 0)), (.sc (.int .u8 0)), (.sc (.int .u8 0)), (.sc (.int .i64 0)), (.sc (.int .i64 0)), (.sc (.int .i64 0))] (.tmp 38)⟩])
 (.seq (.reg [⟨(some 39), false, none, .move (.tmp 0) true⟩,
   ⟨(some 40), false, none, .move (.tmp 5) false⟩,
   ⟨(some 41), false, none, .sliceS 35 (.tmp 39) none (some (.tmp 40)) none⟩,
   ⟨(some 4), false, none, .move (.tmp 41) true⟩])
 .ret))
def cf_slices_DeleteFunc_Lapi_Sample_api_Sample_1 : CF := cf_slices_DeleteFunc_Lapi_Sample_api_Sample
def sh_slices_DeleteFunc_Lapi_Sample_api_Sample_1 : Nat → Sh := shOf []
def cb_slices_DeleteFunc_Lapi_Sample_api_Sample_1 (F_slices_IndexFunc_Lapi_Sample_api_Sample_2 : T_slices_IndexFunc_Lapi_Sample_api_Sample_2) (F_fees_Expire_1 : T_fees_Expire_1) (L : Nat) : CBC := (addC 252 (d_fees_Expire_1 F_fees_Expire_1 L) (addC 253 (d_slices_IndexFunc_Lapi_Sample_api_Sample_2 F_slices_IndexFunc_Lapi_Sample_api_Sample_2 L) noC))
def mbbbaba_slices_DeleteFunc_Lapi_Sample_api_Sample_1 : St → St := maskN 2 (bl 99 42) (bl 4397777813375 42)
def st_hbbbaba_slices_DeleteFunc_Lapi_Sample_api_Sample_1 (p0l : Nat) (p5 : Int) (p6 : Int) (b0 : List V) (b1_0 : Int) : St := ⟨[(V.own 0 0 p0l 35), (V.fn 252 [(V.ptr 1 0)]), .junk, .junk, .junk, (V.sc (.int .i64 p5)), (V.sc (.int .i64 p6)), .junk, .junk, .junk, .junk, .junk, .junk, .junk, .junk, .junk, .junk, .junk, .junk, .junk, .junk, .junk, .junk, .junk, .junk, .junk, .junk, .junk, .junk, .junk, .junk, .junk, .junk, .junk, .junk, .junk, .junk, .junk, .junk, .junk, .junk, .junk], [(.live true b0), (.live true [(V.sc (.int .i64 b1_0))]), .gone, .gone, .gone, .gone, .gone, .gone, .gone, .gone, .gone, .gone, .gone, .gone, .gone, .gone, .gone, .gone, .gone, .gone, .gone, .gone, .gone, .gone, .gone, .gone, .gone, .gone, .gone, .gone, .gone, .gone, .gone, .gone, .gone, .gone, .gone, .gone, .gone, .gone, .gone, .gone, .gone, .gone]⟩
def st_x0_slices_DeleteFunc_Lapi_Sample_api_Sample_1 (p0l : Nat) (p5 : Int) (b0 : List V) (b1_0 : Int) : St := ⟨[(V.own 0 0 p0l 35), .junk, .junk, .junk, .junk, (V.sc (.int .i64 p5)), .junk, .junk, .junk, .junk, .junk, .junk, .junk, .junk, .junk, .junk, .junk, .junk, .junk, .junk, .junk, .junk, .junk, .junk, .junk, .junk, .junk, .junk, .junk, .junk, .junk, .junk, .junk, .junk, .junk, .junk, .junk, .junk, .junk, .junk, .junk, .junk], [(.live true b0), (.live true [(V.sc (.int .i64 b1_0))]), .gone, .gone, .gone, .gone, .gone, .gone, .gone, .gone, .gone, .gone, .gone, .gone, .gone, .gone, .gone, .gone, .gone, .gone, .gone, .gone, .gone, .gone, .gone, .gone, .gone, .gone, .gone, .gone, .gone, .gone, .gone, .gone, .gone, .gone, .gone, .gone, .gone, .gone, .gone, .gone, .gone, .gone]⟩
def e_slices_DeleteFunc_Lapi_Sample_api_Sample_1 {β : Type} (F_slices_IndexFunc_Lapi_Sample_api_Sample_2 : T_slices_IndexFunc_Lapi_Sample_api_Sample_2) (F_fees_Expire_1 : T_fees_Expire_1) (L : Nat) (p0l : Nat) (b0 : List V) (b1_0 : Int) (k_fin : Nat → List V → Int → Option β) (k_hbbbaba : Nat → Int → Int → List V → Int → Option β) : Option β :=
 F_slices_IndexFunc_Lapi_Sample_api_Sample_2 β L p0l b0 b1_0 (fun v0 v1 v2 =>
 chk ([(List.length v1), 1] = [(List.length b0), 1]) (
 ifb ((v0 : Int) == (-1 : Int)) (
 k_fin p0l v1 v2) (
 lt (IntKind.wrap .i64 ((v0 : Int) + (1 : Int))) fun x3 =>
 k_hbbbaba p0l v0 x3 v1 v2)))
theorem e_slices_DeleteFunc_Lapi_Sample_api_Sample_1_ok {β : Type} (F_slices_IndexFunc_Lapi_Sample_api_Sample_2 : T_slices_IndexFunc_Lapi_Sample_api_Sample_2) (F_fees_Expire_1 : T_fees_Expire_1) (L : Nat) (p0l : Nat) (b0 : List V) (b1_0 : Int) (k : V → Bor → Option β) : funC sh_slices_DeleteFunc_Lapi_Sample_api_Sample_1 (cb_slices_DeleteFunc_Lapi_Sample_api_Sample_1 F_slices_IndexFunc_Lapi_Sample_api_Sample_2 F_fees_Expire_1 L) L cf_slices_DeleteFunc_Lapi_Sample_api_Sample_1 [(V.own 0 0 p0l 35), (V.fn 252 [(V.ptr 1 0)])] [(.live true b0), (.live true [(V.sc (.int .i64 b1_0))])] k = e_slices_DeleteFunc_Lapi_Sample_api_Sample_1 F_slices_IndexFunc_Lapi_Sample_api_Sample_2 F_fees_Expire_1 L p0l b0 b1_0 (fun p0l b0 b1_0 => k (V.own 0 0 p0l 35) [(.live true b0), (.live true [(V.sc (.int .i64 b1_0))])]) (fun p0l p5 p6 b0 b1_0 => loopM (runC sh_slices_DeleteFunc_Lapi_Sample_api_Sample_1 (cb_slices_DeleteFunc_Lapi_Sample_api_Sample_1 F_slices_IndexFunc_Lapi_Sample_api_Sample_2 F_fees_Expire_1 L) 2 L cbbbabaa_slices_DeleteFunc_Lapi_Sample_api_Sample_1) mbbbaba_slices_DeleteFunc_Lapi_Sample_api_Sample_1 L (st_hbbbaba_slices_DeleteFunc_Lapi_Sample_api_Sample_1 p0l p5 p6 b0 b1_0) (blockK 0 (seqK (runC sh_slices_DeleteFunc_Lapi_Sample_api_Sample_1 (cb_slices_DeleteFunc_Lapi_Sample_api_Sample_1 F_slices_IndexFunc_Lapi_Sample_api_Sample_2 F_fees_Expire_1 L) 2 L cbbbb_slices_DeleteFunc_Lapi_Sample_api_Sample_1) (finK 2 (CF.res cf_slices_DeleteFunc_Lapi_Sample_api_Sample_1) k)))) := by kernel_rfl
def bbbbaba_slices_DeleteFunc_Lapi_Sample_api_Sample_1 {β : Type} (F_slices_IndexFunc_Lapi_Sample_api_Sample_2 : T_slices_IndexFunc_Lapi_Sample_api_Sample_2) (F_fees_Expire_1 : T_fees_Expire_1) (L : Nat) (p0l : Nat) (p5 : Int) (p6 : Int) (b0 : List V) (b1_0 : Int) (k_hbbbaba : Nat → Int → Int → List V → Int → Option β) (k_x0 : Nat → Int → List V → Int → Option β) : Option β :=
 ifb (decide (p6 < ((p0l : Nat) : Int))) (
 chk (0 ≤ p6 ∧ p6 < ((p0l : Nat) : Int)) (
 chk ((0 + ((Int.toNat p6) * 35)) + 35 ≤ (List.length b0)) (
 chk ((List.length (List.take 35 (List.drop (0 + ((Int.toNat p6) * 35)) b0))) = 35 ∧ 0 + 35 ≤ 35) (
 lt (setAt (List.replicate 32 (V.sc (.int .u8 (0 : Int))) ++ [(V.sc (.int .i64 (0 : Int))), (V.sc (.int .i64 (0 : Int))), (V.sc (.int .i64 (0 : Int)))]) 0 (List.take 35 (List.drop (0 + ((Int.toNat p6) * 35)) b0))) fun r4 =>
 chk (0 + 35 ≤ (List.length r4)) (
 F_fees_Expire_1 β L (List.take 35 r4) b1_0 (fun v5 v6 =>
 ifb (!v5) (
 chk (0 + 35 ≤ (List.length r4)) (
 chk (0 ≤ p5 ∧ p5 < ((p0l : Nat) : Int)) (
 chk ((List.length (List.take 35 r4)) = 35 ∧ (0 + ((Int.toNat p5) * 35)) + 35 ≤ (List.length b0)) (
 lt (setAt b0 (0 + ((Int.toNat p5) * 35)) (List.take 35 r4)) fun r7 =>
 lt (IntKind.wrap .i64 ((p5 : Int) + (1 : Int))) fun x8 =>
 lt (IntKind.wrap .i64 ((p6 : Int) + (1 : Int))) fun x9 =>
 k_hbbbaba p0l x8 x9 r7 v6)))) (
 lt (IntKind.wrap .i64 ((p6 : Int) + (1 : Int))) fun x10 =>
 k_hbbbaba p0l p5 x10 b0 v6))))))) (
 k_x0 p0l p5 b0 b1_0)
theorem bbbbaba_slices_DeleteFunc_Lapi_Sample_api_Sample_1_ok {β : Type} (F_slices_IndexFunc_Lapi_Sample_api_Sample_2 : T_slices_IndexFunc_Lapi_Sample_api_Sample_2) (F_fees_Expire_1 : T_fees_Expire_1) (L : Nat) (p0l : Nat) (p5 : Int) (p6 : Int) (b0 : List V) (b1_0 : Int) (X : St → Option β) (K : KT β) : runC sh_slices_DeleteFunc_Lapi_Sample_api_Sample_1 (cb_slices_DeleteFunc_Lapi_Sample_api_Sample_1 F_slices_IndexFunc_Lapi_Sample_api_Sample_2 F_fees_Expire_1 L) 2 L cbbbabaa_slices_DeleteFunc_Lapi_Sample_api_Sample_1 (st_hbbbaba_slices_DeleteFunc_Lapi_Sample_api_Sample_1 p0l p5 p6 b0 b1_0) (loopK mbbbaba_slices_DeleteFunc_Lapi_Sample_api_Sample_1 X K) = bbbbaba_slices_DeleteFunc_Lapi_Sample_api_Sample_1 F_slices_IndexFunc_Lapi_Sample_api_Sample_2 F_fees_Expire_1 L p0l p5 p6 b0 b1_0 (fun p0l p5 p6 b0 b1_0 => X (st_hbbbaba_slices_DeleteFunc_Lapi_Sample_api_Sample_1 p0l p5 p6 b0 b1_0)) (fun p0l p5 b0 b1_0 => K (.exit 0) (st_x0_slices_DeleteFunc_Lapi_Sample_api_Sample_1 p0l p5 b0 b1_0)) := by kernel_rfl
def rbbbabax0_slices_DeleteFunc_Lapi_Sample_api_Sample_1 {β : Type} (F_slices_IndexFunc_Lapi_Sample_api_Sample_2 : T_slices_IndexFunc_Lapi_Sample_api_Sample_2) (F_fees_Expire_1 : T_fees_Expire_1) (L : Nat) (p0l : Nat) (p5 : Int) (b0 : List V) (b1_0 : Int) (k_fin : Nat → List V → Int → Option β) : Option β :=
 chk (0 ≤ p5 ∧ p5 ≤ ((p0l : Nat) : Int)) (
 lt (setAt b0 (0 + ((Int.toNat p5) * 35)) (List.flatten (List.replicate (p0l - (Int.toNat p5)) (List.replicate 32 (V.sc (.int .u8 (0 : Int))) ++ [(V.sc (.int .i64 (0 : Int))), (V.sc (.int .i64 (0 : Int))), (V.sc (.int .i64 (0 : Int)))])))) fun r11 =>
 chk (0 ≤ p5 ∧ p5 ≤ ((p0l : Nat) : Int)) (
 k_fin ((Int.toNat p5) - 0) r11 b1_0))
theorem rbbbabax0_slices_DeleteFunc_Lapi_Sample_api_Sample_1_ok {β : Type} (F_slices_IndexFunc_Lapi_Sample_api_Sample_2 : T_slices_IndexFunc_Lapi_Sample_api_Sample_2) (F_fees_Expire_1 : T_fees_Expire_1) (L : Nat) (p0l : Nat) (p5 : Int) (b0 : List V) (b1_0 : Int) (k : V → Bor → Option β) : (blockK 0 (seqK (runC sh_slices_DeleteFunc_Lapi_Sample_api_Sample_1 (cb_slices_DeleteFunc_Lapi_Sample_api_Sample_1 F_slices_IndexFunc_Lapi_Sample_api_Sample_2 F_fees_Expire_1 L) 2 L cbbbb_slices_DeleteFunc_Lapi_Sample_api_Sample_1) (finK 2 (CF.res cf_slices_DeleteFunc_Lapi_Sample_api_Sample_1) k))) (.exit 0) (st_x0_slices_DeleteFunc_Lapi_Sample_api_Sample_1 p0l p5 b0 b1_0) = rbbbabax0_slices_DeleteFunc_Lapi_Sample_api_Sample_1 F_slices_IndexFunc_Lapi_Sample_api_Sample_2 F_fees_Expire_1 L p0l p5 b0 b1_0 (fun p0l b0 b1_0 => k (V.own 0 0 p0l 35) [(.live true b0), (.live true [(V.sc (.int .i64 b1_0))])]) := by kernel_rfl
def lbbbaba_slices_DeleteFunc_Lapi_Sample_api_Sample_1 {β : Type} (F_slices_IndexFunc_Lapi_Sample_api_Sample_2 : T_slices_IndexFunc_Lapi_Sample_api_Sample_2) (F_fees_Expire_1 : T_fees_Expire_1) (L : Nat) (k_x0 : Nat → Int → List V → Int → Option β) : Nat → Nat → Int → Int → List V → Int → Option β
  | 0, _, _, _, _, _ => none
  | n + 1, p0l, p5, p6, b0, b1_0 => bbbbaba_slices_DeleteFunc_Lapi_Sample_api_Sample_1 F_slices_IndexFunc_Lapi_Sample_api_Sample_2 F_fees_Expire_1 L p0l p5 p6 b0 b1_0 (fun p0l p5 p6 b0 b1_0 => lbbbaba_slices_DeleteFunc_Lapi_Sample_api_Sample_1 F_slices_IndexFunc_Lapi_Sample_api_Sample_2 F_fees_Expire_1 L k_x0 n p0l p5 p6 b0 b1_0) k_x0
theorem lbbbaba_slices_DeleteFunc_Lapi_Sample_api_Sample_1_ok {β : Type} (F_slices_IndexFunc_Lapi_Sample_api_Sample_2 : T_slices_IndexFunc_Lapi_Sample_api_Sample_2) (F_fees_Expire_1 : T_fees_Expire_1) (L : Nat) (K : KT β) : ∀ (n : Nat) (p0l : Nat) (p5 : Int) (p6 : Int) (b0 : List V) (b1_0 : Int), loopM (runC sh_slices_DeleteFunc_Lapi_Sample_api_Sample_1 (cb_slices_DeleteFunc_Lapi_Sample_api_Sample_1 F_slices_IndexFunc_Lapi_Sample_api_Sample_2 F_fees_Expire_1 L) 2 L cbbbabaa_slices_DeleteFunc_Lapi_Sample_api_Sample_1) mbbbaba_slices_DeleteFunc_Lapi_Sample_api_Sample_1 n (st_hbbbaba_slices_DeleteFunc_Lapi_Sample_api_Sample_1 p0l p5 p6 b0 b1_0) K = lbbbaba_slices_DeleteFunc_Lapi_Sample_api_Sample_1 F_slices_IndexFunc_Lapi_Sample_api_Sample_2 F_fees_Expire_1 L (fun p0l p5 b0 b1_0 => K (.exit 0) (st_x0_slices_DeleteFunc_Lapi_Sample_api_Sample_1 p0l p5 b0 b1_0)) n p0l p5 p6 b0 b1_0 := by
  intro n
  induction n with
  | zero => intros; rfl
  | succ n ih =>
    intro p0l p5 p6 b0 b1_0
    refine (bbbbaba_slices_DeleteFunc_Lapi_Sample_api_Sample_1_ok F_slices_IndexFunc_Lapi_Sample_api_Sample_2 F_fees_Expire_1 L p0l p5 p6 b0 b1_0 (fun σ => loopM (runC sh_slices_DeleteFunc_Lapi_Sample_api_Sample_1 (cb_slices_DeleteFunc_Lapi_Sample_api_Sample_1 F_slices_IndexFunc_Lapi_Sample_api_Sample_2 F_fees_Expire_1 L) 2 L cbbbabaa_slices_DeleteFunc_Lapi_Sample_api_Sample_1) mbbbaba_slices_DeleteFunc_Lapi_Sample_api_Sample_1 n σ K) K).trans ?_
    simp only [ih]
    rfl
def R_slices_DeleteFunc_Lapi_Sample_api_Sample_1 {β : Type} (F_slices_IndexFunc_Lapi_Sample_api_Sample_2 : T_slices_IndexFunc_Lapi_Sample_api_Sample_2) (F_fees_Expire_1 : T_fees_Expire_1) (L : Nat) (p0l : Nat) (b0 : List V) (b1_0 : Int) (k_fin : Nat → List V → Int → Option β) : Option β :=
 e_slices_DeleteFunc_Lapi_Sample_api_Sample_1 F_slices_IndexFunc_Lapi_Sample_api_Sample_2 F_fees_Expire_1 L p0l b0 b1_0 k_fin (fun p0l p5 p6 b0 b1_0 => lbbbaba_slices_DeleteFunc_Lapi_Sample_api_Sample_1 F_slices_IndexFunc_Lapi_Sample_api_Sample_2 F_fees_Expire_1 L (fun p0l p5 b0 b1_0 => rbbbabax0_slices_DeleteFunc_Lapi_Sample_api_Sample_1 F_slices_IndexFunc_Lapi_Sample_api_Sample_2 F_fees_Expire_1 L p0l p5 b0 b1_0 k_fin) L p0l p5 p6 b0 b1_0)
theorem R_slices_DeleteFunc_Lapi_Sample_api_Sample_1_ok {β : Type} (F_slices_IndexFunc_Lapi_Sample_api_Sample_2 : T_slices_IndexFunc_Lapi_Sample_api_Sample_2) (F_fees_Expire_1 : T_fees_Expire_1) (L : Nat) (p0l : Nat) (b0 : List V) (b1_0 : Int) (k : V → Bor → Option β) : funC sh_slices_DeleteFunc_Lapi_Sample_api_Sample_1 (cb_slices_DeleteFunc_Lapi_Sample_api_Sample_1 F_slices_IndexFunc_Lapi_Sample_api_Sample_2 F_fees_Expire_1 L) L cf_slices_DeleteFunc_Lapi_Sample_api_Sample_1 [(V.own 0 0 p0l 35), (V.fn 252 [(V.ptr 1 0)])] [(.live true b0), (.live true [(V.sc (.int .i64 b1_0))])] k = R_slices_DeleteFunc_Lapi_Sample_api_Sample_1 F_slices_IndexFunc_Lapi_Sample_api_Sample_2 F_fees_Expire_1 L p0l b0 b1_0 (fun p0l b0 b1_0 => k (V.own 0 0 p0l 35) [(.live true b0), (.live true [(V.sc (.int .i64 b1_0))])]) := by
  refine (e_slices_DeleteFunc_Lapi_Sample_api_Sample_1_ok F_slices_IndexFunc_Lapi_Sample_api_Sample_2 F_fees_Expire_1 L p0l b0 b1_0 k).trans ?_
  unfold R_slices_DeleteFunc_Lapi_Sample_api_Sample_1
  simp only [lbbbaba_slices_DeleteFunc_Lapi_Sample_api_Sample_1_ok, rbbbabax0_slices_DeleteFunc_Lapi_Sample_api_Sample_1_ok]
abbrev T_slices_DeleteFunc_Lapi_Sample_api_Sample_1 := ∀ (β : Type), Nat → Nat → List V → Int → (Nat → List V → Int → Option β) → Option β
def F_slices_DeleteFunc_Lapi_Sample_api_Sample_1 (β : Type) (L : Nat) (p0l : Nat) (b0 : List V) (b1_0 : Int) (k_fin : Nat → List V → Int → Option β) : Option β := R_slices_DeleteFunc_Lapi_Sample_api_Sample_1 F_slices_IndexFunc_Lapi_Sample_api_Sample_2 F_fees_Expire_1 L p0l b0 b1_0 k_fin
def d_slices_DeleteFunc_Lapi_Sample_api_Sample_1 (F_slices_DeleteFunc_Lapi_Sample_api_Sample_1 : T_slices_DeleteFunc_Lapi_Sample_api_Sample_1) (L : Nat) (β : Type) (args : List V) (bor : Bor) (k : V → Bor → Option β) : Option β := match args, bor with
  | [a0, a1], [(.live true b0), (.live true [w1_0])] => aO0 0 35 a0 fun p0l => aF 252 [(1, 0)] a1 (aI .i64 w1_0 fun b1_0 => F_slices_DeleteFunc_Lapi_Sample_api_Sample_1 β L p0l b0 b1_0 (fun p0l b0 b1_0 => k (V.own 0 0 p0l 35) [(.live true b0), (.live true [(V.sc (.int .i64 b1_0))])]))
  | _, _ => none
theorem d_slices_DeleteFunc_Lapi_Sample_api_Sample_1_ok (L : Nat) (β : Type) (args : List V) (bor : Bor) (k : V → Bor → Option β) (r : β) (h : d_slices_DeleteFunc_Lapi_Sample_api_Sample_1 F_slices_DeleteFunc_Lapi_Sample_api_Sample_1 L β args bor k = some r) : funC sh_slices_DeleteFunc_Lapi_Sample_api_Sample_1 (cb_slices_DeleteFunc_Lapi_Sample_api_Sample_1 F_slices_IndexFunc_Lapi_Sample_api_Sample_2 F_fees_Expire_1 L) L cf_slices_DeleteFunc_Lapi_Sample_api_Sample_1 args bor k = some r := by
  unfold d_slices_DeleteFunc_Lapi_Sample_api_Sample_1 at h
  split at h
  · have q := aO0_inv h; clear h; obtain ⟨p0l, rfl, h⟩ := q
    have q := aF_inv h; clear h; obtain ⟨rfl, h⟩ := q
    have q := aI_inv h; clear h; obtain ⟨b1_0, rfl, h⟩ := q
    exact (R_slices_DeleteFunc_Lapi_Sample_api_Sample_1_ok F_slices_IndexFunc_Lapi_Sample_api_Sample_2 F_fees_Expire_1 L p0l _ b1_0 k).trans h
  · cases h
/-! fees_Expire : 240 -/
def cf_fees_Expire : CF := ⟨9, [.tmpP 4],
 (.seq (.reg [⟨(some 3), false, none, .box true (.tmp 1)⟩,
   ⟨(some 4), false, none, .move (.const (.gs 35 [])) true⟩])
 (.seq (.reg [⟨(some 5), false, none, .move (.tmp 0) false⟩,
   ⟨(some 6), true, none, .call 245 [((.tmp 5), 0)] []⟩,
   ⟨(some 7), false, none, .makeFunc 252 [(.tmp 3)]⟩,
   ⟨(some 8), false, none, .call 244 [((.tmp 6), 2), ((.tmp 7), 2)] []⟩,
   ⟨(some 4), false, none, .move (.tmp 8) true⟩])
 .ret))⟩
def hint_fees_Expire : Hint := ⟨[(0, 1), (1, 3), (1, 4)], [(1, 1)], [none], [], [], true⟩
def sh_fees_Expire : Nat → Sh := shOf []
def cb_fees_Expire (F_slices_Clone_Lapi_Sample_api_Sample : T_slices_Clone_Lapi_Sample_api_Sample) (F_slices_DeleteFunc_Lapi_Sample_api_Sample_1 : T_slices_DeleteFunc_Lapi_Sample_api_Sample_1) (L : Nat) : CBC := (addC 244 (d_slices_DeleteFunc_Lapi_Sample_api_Sample_1 F_slices_DeleteFunc_Lapi_Sample_api_Sample_1 L) (addC 245 (d_slices_Clone_Lapi_Sample_api_Sample F_slices_Clone_Lapi_Sample_api_Sample L) noC))
def R_fees_Expire {β : Type} (F_slices_Clone_Lapi_Sample_api_Sample : T_slices_Clone_Lapi_Sample_api_Sample) (F_slices_DeleteFunc_Lapi_Sample_api_Sample_1 : T_slices_DeleteFunc_Lapi_Sample_api_Sample_1) (L : Nat) (p0 : List (List V)) (p1 : Int) (k_fin : List (List V) → Option β) : Option β :=
 F_slices_Clone_Lapi_Sample_api_Sample β L p0 (fun v0 =>
 F_slices_DeleteFunc_Lapi_Sample_api_Sample_1 β L (List.length v0) (List.flatten v0) p1 (fun v1 v2 v3 =>
 chk ([(List.length v2), 1] = [(List.length (List.flatten v0)), 1]) (
 k_fin (chunks 35 v1 v2))))
theorem R_fees_Expire_ok {β : Type} (F_slices_Clone_Lapi_Sample_api_Sample : T_slices_Clone_Lapi_Sample_api_Sample) (F_slices_DeleteFunc_Lapi_Sample_api_Sample_1 : T_slices_DeleteFunc_Lapi_Sample_api_Sample_1) (L : Nat) (p0 : List (List V)) (p1 : Int) (k : V → Bor → Option β) : funC sh_fees_Expire (cb_fees_Expire F_slices_Clone_Lapi_Sample_api_Sample F_slices_DeleteFunc_Lapi_Sample_api_Sample_1 L) L cf_fees_Expire [(V.sl 35 p0), (V.sc (.int .i64 p1))] [] k = R_fees_Expire F_slices_Clone_Lapi_Sample_api_Sample F_slices_DeleteFunc_Lapi_Sample_api_Sample_1 L p0 p1 (fun p0 => k (V.gs 35 p0) []) := by kernel_rfl
abbrev T_fees_Expire := ∀ (β : Type), Nat → List (List V) → Int → (List (List V) → Option β) → Option β
def F_fees_Expire (β : Type) (L : Nat) (p0 : List (List V)) (p1 : Int) (k_fin : List (List V) → Option β) : Option β := R_fees_Expire F_slices_Clone_Lapi_Sample_api_Sample F_slices_DeleteFunc_Lapi_Sample_api_Sample_1 L p0 p1 k_fin
def d_fees_Expire (F_fees_Expire : T_fees_Expire) (L : Nat) (β : Type) (args : List V) (bor : Bor) (k : V → Bor → Option β) : Option β := match args, bor with
  | [a0, a1], [] => aL 35 a0 fun p0 => aI .i64 a1 fun p1 => F_fees_Expire β L p0 p1 (fun p0 => k (V.gs 35 p0) [])
  | _, _ => none
theorem d_fees_Expire_ok (L : Nat) (β : Type) (args : List V) (bor : Bor) (k : V → Bor → Option β) (r : β) (h : d_fees_Expire F_fees_Expire L β args bor k = some r) : funC sh_fees_Expire (cb_fees_Expire F_slices_Clone_Lapi_Sample_api_Sample F_slices_DeleteFunc_Lapi_Sample_api_Sample_1 L) L cf_fees_Expire args bor k = some r := by
  unfold d_fees_Expire at h
  split at h
  · have q := aL_inv h; clear h; obtain ⟨p0, rfl, h⟩ := q
    have q := aI_inv h; clear h; obtain ⟨p1, rfl, h⟩ := q
    exact (R_fees_Expire_ok F_slices_Clone_Lapi_Sample_api_Sample F_slices_DeleteFunc_Lapi_Sample_api_Sample_1 L p0 p1 k).trans h
  · cases h
/-! ref33_Expire : 241 -/
def cbbabaa_ref33_Expire : CC := (.seq (.seq (.reg [⟨(some 7), false, none, .move (.tmp 6) false⟩,
   ⟨(some 8), false, none, .move (.tmp 0) false⟩,
   ⟨(some 9), false, none, .lenS (.tmp 8)⟩,
   ⟨(some 10), false, none, .bin .lss (.tmp 7) (.tmp 9)⟩])
 (.cond (.tmp 10)
 .skip
 (.seq (.mask (bl 32 29) (bl 335543743 29))
 (.exit 0))))
 (.seq (.block 1 (.seq (.reg [⟨(some 13), false, none, .move (.tmp 0) false⟩,
   ⟨(some 14), false, none, .move (.tmp 6) false⟩,
   ⟨(some 15), false, none, .indexAddrS 35 (.tmp 13) (.tmp 14)⟩,
   ⟨(some 16), false, none, .fieldAddr 33 (.tmp 15)⟩,
   ⟨(some 17), false, none, .load false 1 (.tmp 16) false⟩,
   ⟨(some 18), false, none, .move (.tmp 1) false⟩,
   ⟨(some 19), false, none, .bin .sub (.tmp 18) (.const (.sc (.int .i64 96)))⟩,
   ⟨(some 20), false, none, .bin .geq (.tmp 17) (.tmp 19)⟩])
 (.cond (.tmp 20)
 (.reg [⟨(some 21), false, none, .move (.tmp 5) true⟩,
   ⟨(some 22), false, none, .move (.tmp 0) false⟩,
   ⟨(some 23), false, none, .move (.tmp 6) false⟩,
   ⟨(some 24), false, none, .indexAddrS 35 (.tmp 22) (.tmp 23)⟩,
   ⟨(some 25), false, none, .load true 35 (.tmp 24) false⟩,
   ⟨(some 26), false, none, .buildSlice 35 1 [(.sc (.int .u8 0)), (.sc (.int .u8 0)), (.sc (.int .u8 0)), (.sc (.int .u8 0)), (.sc (.int .u8 0)), (.sc (.int .u8 0)), (.sc (.int .u8 0)), (.sc (.int .u8 0)), (.sc (.int .u8 0)), (.sc (.int .u8 0)), (.sc (.int .u8 0)), (.sc (.int .u8 0)), (.sc (.int .u8 0)), (.sc (.int .u8 0)), (.sc (.int .u8 0)), (.sc (.int .u8 0)), (.sc (.int .u8 0)), (.sc (.int .u8 0)), (.sc (.int .u8 0)), (.sc (.int .u8 0)), (.sc (.int .u8 0)), (.sc (.int .u8 0)), (.sc (.int .u8 0)), (.sc (.int .u8 0)), (.sc (.int .u8 0)), (.sc (.int .u8 0)), (.sc (.int .u8 0)), (.sc (.int .u8 0)), (.sc (.int .u8 0)), (.sc (.int .u8 0)), (.sc (.int .u8 0)), (.sc (.int .u8 0)), (.sc (.int .i64 0)), (.sc (.int .i64 0)), (.sc (.int .i64 0))] [(0, 35, (.tmp 25))]⟩,
   ⟨(some 27), false, none, .append 35 56 (.tmp 21) (.tmp 26)⟩,
   ⟨(some 5), false, none, .move (.tmp 27) true⟩])
 .skip)))
 (.reg [⟨(some 11), false, none, .move (.tmp 6) false⟩,
   ⟨(some 12), false, none, .bin .add (.tmp 11) (.const (.sc (.int .i64 1)))⟩,
   ⟨(some 6), false, none, .move (.tmp 12) false⟩])))
def cbbb_ref33_Expire : CC := (.seq (.reg [⟨(some 28), false, none, .move (.tmp 5) true⟩,
   ⟨(some 4), false, none, .move (.tmp 28) true⟩])
 .ret)
def cf_ref33_Expire : CF := ⟨29, [.tmp 4],
 (.seq (.reg [⟨(some 4), false, none, .move (.const (.gs 35 [])) true⟩])
 (.seq (.reg [⟨(some 5), false, none, .move (.const (.gs 35 [])) true⟩])
 (.seq (.seq (.reg [⟨(some 6), false, none, .move (.const (.sc (.int .i64 0))) false⟩])
 (.block 0 (.loop (bl 99 29) (bl 335543807 29)
 cbbabaa_ref33_Expire)))
 cbbb_ref33_Expire)))⟩
def hint_ref33_Expire : Hint := ⟨[(0, 0), (1, 0), (6, 0), (6, 7), (7, 0), (7, 1)], [], [none, some ((bl 99 29), (bl 335543807 29)), none, some ((bl 32 29), (bl 335543743 29)), none, none, none], [], [], false⟩
def sh_ref33_Expire : Nat → Sh := shOf [(17, (.int .i64))]
def cb_ref33_Expire (L : Nat) : CBC := noC
def mbbaba_ref33_Expire : St → St := maskN 0 (bl 99 29) (bl 335543807 29)
def st_hbbaba_ref33_Expire (p0 : List (List V)) (p1 : Int) (p5 : List (List V)) (p6 : Int) : St := ⟨[(V.sl 35 p0), (V.sc (.int .i64 p1)), .junk, .junk, .junk, (V.gs 35 p5), (V.sc (.int .i64 p6)), .junk, .junk, .junk, .junk, .junk, .junk, .junk, .junk, .junk, .junk, .junk, .junk, .junk, .junk, .junk, .junk, .junk, .junk, .junk, .junk, .junk, .junk], [.gone, .gone, .gone, .gone, .gone, .gone, .gone, .gone, .gone, .gone, .gone, .gone, .gone, .gone, .gone, .gone, .gone, .gone, .gone, .gone, .gone, .gone, .gone, .gone, .gone, .gone, .gone, .gone, .gone]⟩
def st_x0_ref33_Expire (p5 : List (List V)) : St := ⟨[.junk, .junk, .junk, .junk, .junk, (V.gs 35 p5), .junk, .junk, .junk, .junk, .junk, .junk, .junk, .junk, .junk, .junk, .junk, .junk, .junk, .junk, .junk, .junk, .junk, .junk, .junk, .junk, .junk, .junk, .junk], [.gone, .gone, .gone, .gone, .gone, .gone, .gone, .gone, .gone, .gone, .gone, .gone, .gone, .gone, .gone, .gone, .gone, .gone, .gone, .gone, .gone, .gone, .gone, .gone, .gone, .gone, .gone, .gone, .gone]⟩
def e_ref33_Expire {β : Type} (L : Nat) (p0 : List (List V)) (p1 : Int) (k_hbbaba : List (List V) → Int → List (List V) → Int → Option β) : Option β :=
 k_hbbaba p0 p1 ([] : List (List V)) (0 : Int)
theorem e_ref33_Expire_ok {β : Type} (L : Nat) (p0 : List (List V)) (p1 : Int) (k : V → Bor → Option β) : funC sh_ref33_Expire (cb_ref33_Expire L) L cf_ref33_Expire [(V.sl 35 p0), (V.sc (.int .i64 p1))] [] k = e_ref33_Expire L p0 p1 (fun p0 p1 p5 p6 => loopM (runC sh_ref33_Expire (cb_ref33_Expire L) 0 L cbbabaa_ref33_Expire) mbbaba_ref33_Expire L (st_hbbaba_ref33_Expire p0 p1 p5 p6) (blockK 0 (seqK (runC sh_ref33_Expire (cb_ref33_Expire L) 0 L cbbb_ref33_Expire) (finK 0 (CF.res cf_ref33_Expire) k)))) := by kernel_rfl
def bbbaba_ref33_Expire {β : Type} (L : Nat) (p0 : List (List V)) (p1 : Int) (p5 : List (List V)) (p6 : Int) (k_hbbaba : List (List V) → Int → List (List V) → Int → Option β) (k_x0 : List (List V) → Option β) : Option β :=
 ifb (decide (p6 < ((List.length p0 : Nat) : Int))) (
 idx p0 p6 fun c0 =>
 cI .i64 (List.drop 33 c0) 0 fun v1 =>
 lt (IntKind.wrap .i64 ((p1 : Int) - (96 : Int))) fun x2 =>
 ifb (decide (v1 ≥ x2)) (
 idx p0 p6 fun c3 =>
 chk ((List.length (List.take 35 c3)) = 35 ∧ 0 + 35 ≤ 35) (
 chk ((List.length p5 + List.length (chunks 35 1 (setAt (List.replicate 32 (V.sc (.int .u8 (0 : Int))) ++ [(V.sc (.int .i64 (0 : Int))), (V.sc (.int .i64 (0 : Int))), (V.sc (.int .i64 (0 : Int)))]) 0 (List.take 35 c3)))) * 56 ≤ sizeCap ∧ List.length p5 + List.length (chunks 35 1 (setAt (List.replicate 32 (V.sc (.int .u8 (0 : Int))) ++ [(V.sc (.int .i64 (0 : Int))), (V.sc (.int .i64 (0 : Int))), (V.sc (.int .i64 (0 : Int)))]) 0 (List.take 35 c3))) ≤ sizeCap) (
 lt (p5 ++ (chunks 35 1 (setAt (List.replicate 32 (V.sc (.int .u8 (0 : Int))) ++ [(V.sc (.int .i64 (0 : Int))), (V.sc (.int .i64 (0 : Int))), (V.sc (.int .i64 (0 : Int)))]) 0 (List.take 35 c3)))) fun l4 =>
 lt (IntKind.wrap .i64 ((p6 : Int) + (1 : Int))) fun x5 =>
 k_hbbaba p0 p1 l4 x5))) (
 lt (IntKind.wrap .i64 ((p6 : Int) + (1 : Int))) fun x6 =>
 k_hbbaba p0 p1 p5 x6)) (
 k_x0 p5)
theorem bbbaba_ref33_Expire_ok {β : Type} (L : Nat) (p0 : List (List V)) (p1 : Int) (p5 : List (List V)) (p6 : Int) (X : St → Option β) (K : KT β) : runC sh_ref33_Expire (cb_ref33_Expire L) 0 L cbbabaa_ref33_Expire (st_hbbaba_ref33_Expire p0 p1 p5 p6) (loopK mbbaba_ref33_Expire X K) = bbbaba_ref33_Expire L p0 p1 p5 p6 (fun p0 p1 p5 p6 => X (st_hbbaba_ref33_Expire p0 p1 p5 p6)) (fun p5 => K (.exit 0) (st_x0_ref33_Expire p5)) := by kernel_rfl
def rbbabax0_ref33_Expire {β : Type} (L : Nat) (p5 : List (List V)) (k_fin : List (List V) → Option β) : Option β :=
 k_fin p5
theorem rbbabax0_ref33_Expire_ok {β : Type} (L : Nat) (p5 : List (List V)) (k : V → Bor → Option β) : (blockK 0 (seqK (runC sh_ref33_Expire (cb_ref33_Expire L) 0 L cbbb_ref33_Expire) (finK 0 (CF.res cf_ref33_Expire) k))) (.exit 0) (st_x0_ref33_Expire p5) = rbbabax0_ref33_Expire L p5 (fun p0 => k (V.gs 35 p0) []) := by kernel_rfl
def lbbaba_ref33_Expire {β : Type} (L : Nat) (k_x0 : List (List V) → Option β) : Nat → List (List V) → Int → List (List V) → Int → Option β
  | 0, _, _, _, _ => none
  | n + 1, p0, p1, p5, p6 => bbbaba_ref33_Expire L p0 p1 p5 p6 (fun p0 p1 p5 p6 => lbbaba_ref33_Expire L k_x0 n p0 p1 p5 p6) k_x0
theorem lbbaba_ref33_Expire_ok {β : Type} (L : Nat) (K : KT β) : ∀ (n : Nat) (p0 : List (List V)) (p1 : Int) (p5 : List (List V)) (p6 : Int), loopM (runC sh_ref33_Expire (cb_ref33_Expire L) 0 L cbbabaa_ref33_Expire) mbbaba_ref33_Expire n (st_hbbaba_ref33_Expire p0 p1 p5 p6) K = lbbaba_ref33_Expire L (fun p5 => K (.exit 0) (st_x0_ref33_Expire p5)) n p0 p1 p5 p6 := by
  intro n
  induction n with
  | zero => intros; rfl
  | succ n ih =>
    intro p0 p1 p5 p6
    refine (bbbaba_ref33_Expire_ok L p0 p1 p5 p6 (fun σ => loopM (runC sh_ref33_Expire (cb_ref33_Expire L) 0 L cbbabaa_ref33_Expire) mbbaba_ref33_Expire n σ K) K).trans ?_
    simp only [ih]
    rfl
def R_ref33_Expire {β : Type} (L : Nat) (p0 : List (List V)) (p1 : Int) (k_fin : List (List V) → Option β) : Option β :=
 e_ref33_Expire L p0 p1 (fun p0 p1 p5 p6 => lbbaba_ref33_Expire L (fun p5 => rbbabax0_ref33_Expire L p5 k_fin) L p0 p1 p5 p6)
theorem R_ref33_Expire_ok {β : Type} (L : Nat) (p0 : List (List V)) (p1 : Int) (k : V → Bor → Option β) : funC sh_ref33_Expire (cb_ref33_Expire L) L cf_ref33_Expire [(V.sl 35 p0), (V.sc (.int .i64 p1))] [] k = R_ref33_Expire L p0 p1 (fun p0 => k (V.gs 35 p0) []) := by
  refine (e_ref33_Expire_ok L p0 p1 k).trans ?_
  unfold R_ref33_Expire
  simp only [lbbaba_ref33_Expire_ok, rbbabax0_ref33_Expire_ok]
abbrev T_ref33_Expire := ∀ (β : Type), Nat → List (List V) → Int → (List (List V) → Option β) → Option β
def F_ref33_Expire (β : Type) (L : Nat) (p0 : List (List V)) (p1 : Int) (k_fin : List (List V) → Option β) : Option β := R_ref33_Expire L p0 p1 k_fin
def d_ref33_Expire (F_ref33_Expire : T_ref33_Expire) (L : Nat) (β : Type) (args : List V) (bor : Bor) (k : V → Bor → Option β) : Option β := match args, bor with
  | [a0, a1], [] => aL 35 a0 fun p0 => aI .i64 a1 fun p1 => F_ref33_Expire β L p0 p1 (fun p0 => k (V.gs 35 p0) [])
  | _, _ => none
theorem d_ref33_Expire_ok (L : Nat) (β : Type) (args : List V) (bor : Bor) (k : V → Bor → Option β) (r : β) (h : d_ref33_Expire F_ref33_Expire L β args bor k = some r) : funC sh_ref33_Expire (cb_ref33_Expire L) L cf_ref33_Expire args bor k = some r := by
  unfold d_ref33_Expire at h
  split at h
  · have q := aL_inv h; clear h; obtain ⟨p0, rfl, h⟩ := q
    have q := aI_inv h; clear h; obtain ⟨p1, rfl, h⟩ := q
    exact (R_ref33_Expire_ok L p0 p1 k).trans h
  · cases h
/-! law33_FeesObserves : 215 -/
def cbbbbbabaabbaabbaa_law33_FeesObserves : CC := (.seq (.reg [⟨(some 45), false, none, .bin .lss (.tmp 44) (.tmp 43)⟩])
 (.seq (.cond (.tmp 45)
 .skip
 (.seq (.mask (bl 60129543940 106) (bl 81129638413409886123612314288063 106))
 (.exit 2)))
 (.seq (.block 3 (.seq (.reg [⟨(some 46), false, none, .indexAddrS 1 (.tmp 42) (.tmp 44)⟩,
   ⟨(some 47), false, none, .load false 1 (.tmp 46) false⟩,
   ⟨(some 14), false, none, .move (.tmp 47) false⟩])
 (.seq (.reg [⟨(some 49), false, none, .move (.tmp 8) false⟩,
   ⟨(some 50), false, none, .load true 32 (.tmp 9) false⟩,
   ⟨(some 51), false, none, .move (.tmp 12) false⟩,
   ⟨(some 52), false, none, .move (.tmp 14) false⟩,
   ⟨(some 53), false, none, .call 234 [((.tmp 49), 0), ((.tmp 50), 0), ((.tmp 51), 0), ((.tmp 52), 0)] []⟩,
   ⟨(some 48), false, none, .move (.tmp 53) true⟩,
   ⟨(some 54), false, none, .extract (.tmp 48) 0⟩,
   ⟨(some 55), false, none, .pull (.tmp 48) 1⟩,
   ⟨(some 15), false, none, .move (.tmp 54) false⟩,
   ⟨(some 16), false, none, .move (.tmp 55) false⟩])
 (.seq (.reg [⟨(some 57), false, none, .move (.tmp 8) false⟩,
   ⟨(some 58), false, none, .load true 32 (.tmp 9) false⟩,
   ⟨(some 59), false, none, .move (.tmp 12) false⟩,
   ⟨(some 60), false, none, .move (.tmp 14) false⟩,
   ⟨(some 61), false, none, .call 237 [((.tmp 57), 0), ((.tmp 58), 0), ((.tmp 59), 0), ((.tmp 60), 0)] []⟩,
   ⟨(some 56), false, none, .move (.tmp 61) true⟩,
   ⟨(some 62), false, none, .extract (.tmp 56) 0⟩,
   ⟨(some 63), false, none, .pull (.tmp 56) 1⟩,
   ⟨(some 17), false, none, .move (.tmp 62) false⟩,
   ⟨(some 18), false, none, .move (.tmp 63) false⟩])
 (.seq (.reg [⟨(some 64), false, none, .move (.tmp 16) false⟩,
   ⟨(some 65), false, none, .move (.tmp 18) false⟩,
   ⟨(some 66), false, none, .bin .neq (.tmp 64) (.tmp 65)⟩,
   ⟨(some 67), false, none, .move (.tmp 66) false⟩,
   ⟨(some 68), false, (some (67, false)), .move (.tmp 15) false⟩,
   ⟨(some 69), false, (some (67, false)), .move (.tmp 17) false⟩,
   ⟨(some 70), false, (some (67, false)), .call 235 [((.tmp 68), 0), ((.tmp 69), 0)] []⟩,
   ⟨(some 71), false, (some (67, false)), .un .not (.tmp 70)⟩,
   ⟨(some 72), false, none, .pick (.tmp 67) (.const (.sc (.bool true))) (.tmp 71)⟩])
 (.cond (.tmp 72)
 (.seq (.reg [⟨(some 6), false, none, .move (.const (.sc (.bool false))) false⟩])
 (.seq (.mask (bl 64 106) (bl 81129638413409886108219151494655 106))
 .ret))
 .skip))))))
 (.reg [⟨(some 73), false, none, .bin .add (.tmp 44) (.const (.sc (.int .i64 1)))⟩,
   ⟨(some 44), false, none, .move (.tmp 73) false⟩]))))
def cbbbbbabaabbb_law33_FeesObserves : CC := (.reg [⟨(some 74), false, none, .bin .add (.tmp 35) (.const (.sc (.int .i64 1)))⟩,
   ⟨(some 35), false, none, .move (.tmp 74) false⟩])
def cbbbbbabaa_law33_FeesObserves : CC := (.seq (.reg [⟨(some 36), false, none, .bin .lss (.tmp 35) (.tmp 34)⟩])
 (.seq (.cond (.tmp 36)
 .skip
 (.seq (.mask (bl 1284 106) (bl 81129638413409886108219151494591 106))
 (.exit 0)))
 (.seq (.block 1 (.seq (.reg [⟨(some 37), false, none, .indexAddrS 1 (.tmp 33) (.tmp 35)⟩,
   ⟨(some 38), false, none, .load false 1 (.tmp 37) false⟩,
   ⟨(some 12), false, none, .move (.tmp 38) false⟩])
 (.seq (.reg [⟨(some 39), false, none, .move (.tmp 2) false⟩,
   ⟨(some 40), false, none, .move (.tmp 2) false⟩,
   ⟨(some 41), false, none, .call 217 [((.tmp 40), 0), ((.const (.sc (.int .i64 20))), 0)] []⟩,
   ⟨(some 42), false, none, .buildSlice 1 2 [(.sc (.int .i64 0))] [(0, 1, (.tmp 39)), (1, 1, (.tmp 41))]⟩,
   ⟨(some 43), false, none, .lenS (.tmp 42)⟩,
   ⟨(some 44), false, none, .move (.const (.sc (.int .i64 0))) false⟩])
 (.block 2 (.loop (bl 30846455125764 106) (bl 81129638413409886123612314288063 106)
 cbbbbbabaabbaabbaa_law33_FeesObserves)))))
 cbbbbbabaabbb_law33_FeesObserves)))
def cbbbbbb_law33_FeesObserves : CC := (.seq (.reg [⟨(some 75), false, none, .move (.tmp 2) false⟩,
   ⟨(some 76), false, none, .call 217 [((.tmp 75), 0), ((.const (.sc (.int .i64 130))), 0)] []⟩,
   ⟨(some 19), false, none, .move (.tmp 76) false⟩])
 (.seq (.reg [⟨(some 77), false, none, .move (.tmp 8) false⟩,
   ⟨(some 78), false, none, .move (.tmp 10) false⟩,
   ⟨(some 79), false, none, .move (.tmp 19) false⟩,
   ⟨(some 80), false, none, .call 232 [((.tmp 77), 0), ((.tmp 78), 0), ((.tmp 79), 0)] []⟩,
   ⟨(some 81), false, none, .move (.tmp 8) false⟩,
   ⟨(some 82), false, none, .move (.tmp 10) false⟩,
   ⟨(some 83), false, none, .move (.tmp 19) false⟩,
   ⟨(some 84), false, none, .call 238 [((.tmp 81), 0), ((.tmp 82), 0), ((.tmp 83), 0)] []⟩,
   ⟨(some 85), false, none, .call 235 [((.tmp 80), 0), ((.tmp 84), 0)] []⟩,
   ⟨(some 86), false, none, .move (.tmp 85) false⟩,
   ⟨(some 87), false, (some (86, true)), .move (.tmp 8) false⟩,
   ⟨(some 88), false, (some (86, true)), .move (.tmp 19) false⟩,
   ⟨(some 89), false, (some (86, true)), .bin .rem (.tmp 88) (.const (.sc (.int .i64 20)))⟩,
   ⟨(some 90), false, (some (86, true)), .call 230 [((.tmp 87), 0), ((.tmp 89), 0)] []⟩,
   ⟨(some 91), false, (some (86, true)), .move (.tmp 8) false⟩,
   ⟨(some 92), false, (some (86, true)), .move (.tmp 19) false⟩,
   ⟨(some 93), false, (some (86, true)), .bin .rem (.tmp 92) (.const (.sc (.int .i64 20)))⟩,
   ⟨(some 94), false, (some (86, true)), .call 239 [((.tmp 91), 0), ((.tmp 93), 0)] []⟩,
   ⟨(some 95), false, (some (86, true)), .call 235 [((.tmp 90), 0), ((.tmp 94), 0)] []⟩,
   ⟨(some 96), false, none, .pick (.tmp 86) (.tmp 95) (.const (.sc (.bool false)))⟩,
   ⟨(some 97), false, none, .move (.tmp 96) false⟩,
   ⟨(some 98), false, (some (97, true)), .move (.tmp 8) false⟩,
   ⟨(some 99), false, (some (97, true)), .move (.tmp 19) false⟩,
   ⟨(some 100), false, (some (97, true)), .call 240 [((.tmp 98), 0), ((.tmp 99), 0)] []⟩,
   ⟨(some 101), false, (some (97, true)), .move (.tmp 8) false⟩,
   ⟨(some 102), false, (some (97, true)), .move (.tmp 19) false⟩,
   ⟨(some 103), false, (some (97, true)), .call 241 [((.tmp 101), 0), ((.tmp 102), 0)] []⟩,
   ⟨(some 104), false, (some (97, true)), .call 235 [((.tmp 100), 0), ((.tmp 103), 0)] []⟩,
   ⟨(some 105), false, none, .pick (.tmp 97) (.tmp 104) (.const (.sc (.bool false)))⟩,
   ⟨(some 6), false, none, .move (.tmp 105) false⟩])
 .ret))
def cf_law33_FeesObserves : CF := ⟨106, [.tmp 6],
 (.seq (.reg [⟨(some 6), false, none, .move (.const (.sc (.bool false))) false⟩])
 (.seq (.seq (.reg [⟨(some 20), false, none, .call 216 [] []⟩,
   ⟨(some 21), false, none, .un .not (.tmp 20)⟩])
 (.cond (.tmp 21)
 (.seq (.reg [⟨(some 6), false, none, .move (.const (.sc (.bool false))) false⟩])
 .ret)
 .skip))
 (.seq (.reg [⟨(some 22), false, none, .move (.tmp 0) false⟩,
   ⟨(some 23), false, none, .call 225 [((.tmp 22), 0)] []⟩,
   ⟨(some 7), false, none, .move (.tmp 23) false⟩])
 (.seq (.reg [⟨(some 24), false, none, .move (.tmp 7) false⟩,
   ⟨(some 25), false, none, .call 224 [((.tmp 24), 0)] []⟩,
   ⟨(some 8), false, none, .move (.tmp 25) false⟩])
 (.seq (.reg [⟨(some 26), false, none, .move (.tmp 7) false⟩,
   ⟨(some 27), false, none, .call 236 [((.tmp 26), 0)] []⟩,
   ⟨(some 28), false, none, .move (.tmp 7) false⟩,
   ⟨(some 29), false, none, .call 233 [((.tmp 28), 0), ((.const (.sc (.int .i64 5))), 0)] []⟩,
   ⟨(some 9), false, none, .alloc true (List.replicate 32 (.sc (.int .u8 0)))⟩,
   ⟨none, false, none, .store 32 (.tmp 9) (.tmp 27)⟩,
   ⟨(some 10), false, none, .move (.tmp 29) false⟩])
 (.seq (.seq (.reg [⟨(some 30), false, none, .move (.tmp 1) false⟩,
   ⟨(some 31), false, none, .move (.tmp 1) false⟩,
   ⟨(some 32), false, none, .call 217 [((.tmp 31), 0), ((.const (.sc (.int .i64 100))), 0)] []⟩,
   ⟨(some 33), false, none, .buildSlice 1 2 [(.sc (.int .i64 0))] [(0, 1, (.tmp 30)), (1, 1, (.tmp 32))]⟩,
   ⟨(some 34), false, none, .lenS (.tmp 33)⟩,
   ⟨(some 35), false, none, .move (.const (.sc (.int .i64 0))) false⟩])
 (.block 0 (.loop (bl 60129543940 106) (bl 81129638413409886108219151495103 106)
 cbbbbbabaa_law33_FeesObserves)))
 cbbbbbb_law33_FeesObserves))))))⟩
def hint_law33_FeesObserves : Hint := ⟨[(12, 5), (12, 6), (13, 5), (13, 6)], [], [none, none, none, some ((bl 60129543940 106), (bl 81129638413409886108219151495103 106)), none, some ((bl 1284 106), (bl 81129638413409886108219151494591 106)), none, none, some ((bl 30846455125764 106), (bl 81129638413409886123612314288063 106)), none, some ((bl 60129543940 106), (bl 81129638413409886123612314288063 106)), none, none, some ((bl 64 106), (bl 81129638413409886108219151494655 106)), none], [], [], false⟩
def sh_law33_FeesObserves : Nat → Sh := shOf [(38, (.int .i64)), (47, (.int .i64))]
def cb_law33_FeesObserves (F_law33_sane : T_law33_sane) (F_mill_New : T_mill_New) (F_law33_samples : T_law33_samples) (F_mill_Hash : T_mill_Hash) (F_mill_Hashes : T_mill_Hashes) (F_mill_Mod : T_mill_Mod) (F_fees_Confirm : T_fees_Confirm) (F_ref33_Confirm : T_ref33_Confirm) (F_ref33_Same : T_ref33_Same) (F_fees_Rewind : T_fees_Rewind) (F_ref33_Rewind : T_ref33_Rewind) (F_fees_Expire : T_fees_Expire) (F_ref33_Expire : T_ref33_Expire) (F_fees_Observe : T_fees_Observe) (F_ref33_Observe : T_ref33_Observe) (L : Nat) : CBC := (addC 237 (d_ref33_Observe F_ref33_Observe L) (addC 234 (d_fees_Observe F_fees_Observe L) (addC 241 (d_ref33_Expire F_ref33_Expire L) (addC 240 (d_fees_Expire F_fees_Expire L) (addC 239 (d_ref33_Rewind F_ref33_Rewind L) (addC 230 (d_fees_Rewind F_fees_Rewind L) (addC 235 (d_ref33_Same F_ref33_Same L) (addC 238 (d_ref33_Confirm F_ref33_Confirm L) (addC 232 (d_fees_Confirm F_fees_Confirm L) (addC 217 (d_mill_Mod F_mill_Mod L) (addC 233 (d_mill_Hashes F_mill_Hashes L) (addC 236 (d_mill_Hash F_mill_Hash L) (addC 224 (d_law33_samples F_law33_samples L) (addC 225 (d_mill_New F_mill_New L) (addC 216 (d_law33_sane F_law33_sane L) noC)))))))))))))))
def mbbbbbaba_law33_FeesObserves : St → St := maskN 0 (bl 60129543940 106) (bl 81129638413409886108219151495103 106)
def mbbbbbabaabbaabba_law33_FeesObserves : St → St := maskN 0 (bl 30846455125764 106) (bl 81129638413409886123612314288063 106)
def st_hbbbbbaba_law33_FeesObserves (p2 : Int) (p8 : List (List V)) (p10 : List (List V)) (p33 : List (List V)) (p34 : Int) (p35 : Int) (b9 : List V) (b23_0 : List (List V)) (b23_1 : Int) : St := ⟨[.junk, .junk, (V.sc (.int .i64 p2)), .junk, .junk, .junk, .junk, .junk, (V.sl 35 p8), (V.ptr 9 0), (V.sl 32 p10), .junk, .junk, .junk, .junk, .junk, .junk, .junk, .junk, .junk, .junk, .junk, .junk, .junk, .junk, .junk, .junk, .junk, .junk, .junk, .junk, .junk, .junk, (V.gs 1 p33), (V.sc (.int .i64 p34)), (V.sc (.int .i64 p35)), .junk, .junk, .junk, .junk, .junk, .junk, .junk, .junk, .junk, .junk, .junk, .junk, .junk, .junk, .junk, .junk, .junk, .junk, .junk, .junk, .junk, .junk, .junk, .junk, .junk, .junk, .junk, .junk, .junk, .junk, .junk, .junk, .junk, .junk, .junk, .junk, .junk, .junk, .junk, .junk, .junk, .junk, .junk, .junk, .junk, .junk, .junk, .junk, .junk, .junk, .junk, .junk, .junk, .junk, .junk, .junk, .junk, .junk, .junk, .junk, .junk, .junk, .junk, .junk, .junk, .junk, .junk, .junk, .junk, .junk], [.gone, .gone, .gone, .gone, .gone, .gone, .gone, .gone, .gone, (.live true b9), .gone, .gone, .gone, .gone, .gone, .gone, .gone, .gone, .gone, .gone, .gone, .gone, .gone, (.live false [(V.sl 1 b23_0), (V.sc (.int .i64 b23_1))]), .gone, .gone, .gone, .gone, .gone, .gone, .gone, .gone, .gone, .gone, .gone, .gone, .gone, .gone, .gone, .gone, .gone, .gone, .gone, .gone, .gone, .gone, .gone, .gone, .gone, .gone, .gone, .gone, .gone, .gone, .gone, .gone, .gone, .gone, .gone, .gone, .gone, .gone, .gone, .gone, .gone, .gone, .gone, .gone, .gone, .gone, .gone, .gone, .gone, .gone, .gone, .gone, .gone, .gone, .gone, .gone, .gone, .gone, .gone, .gone, .gone, .gone, .gone, .gone, .gone, .gone, .gone, .gone, .gone, .gone, .gone, .gone, .gone, .gone, .gone, .gone, .gone, .gone, .gone, .gone, .gone, .gone]⟩
def st_hbbbbbabaabbaabba_law33_FeesObserves (p2 : Int) (p8 : List (List V)) (p10 : List (List V)) (p12 : Int) (p33 : List (List V)) (p34 : Int) (p35 : Int) (p42 : List (List V)) (p43 : Int) (p44 : Int) (b9 : List V) (b23_0 : List (List V)) (b23_1 : Int) : St := ⟨[.junk, .junk, (V.sc (.int .i64 p2)), .junk, .junk, .junk, .junk, .junk, (V.sl 35 p8), (V.ptr 9 0), (V.sl 32 p10), .junk, (V.sc (.int .i64 p12)), .junk, .junk, .junk, .junk, .junk, .junk, .junk, .junk, .junk, .junk, .junk, .junk, .junk, .junk, .junk, .junk, .junk, .junk, .junk, .junk, (V.gs 1 p33), (V.sc (.int .i64 p34)), (V.sc (.int .i64 p35)), .junk, .junk, .junk, .junk, .junk, .junk, (V.gs 1 p42), (V.sc (.int .i64 p43)), (V.sc (.int .i64 p44)), .junk, .junk, .junk, .junk, .junk, .junk, .junk, .junk, .junk, .junk, .junk, .junk, .junk, .junk, .junk, .junk, .junk, .junk, .junk, .junk, .junk, .junk, .junk, .junk, .junk, .junk, .junk, .junk, .junk, .junk, .junk, .junk, .junk, .junk, .junk, .junk, .junk, .junk, .junk, .junk, .junk, .junk, .junk, .junk, .junk, .junk, .junk, .junk, .junk, .junk, .junk, .junk, .junk, .junk, .junk, .junk, .junk, .junk, .junk, .junk, .junk], [.gone, .gone, .gone, .gone, .gone, .gone, .gone, .gone, .gone, (.live true b9), .gone, .gone, .gone, .gone, .gone, .gone, .gone, .gone, .gone, .gone, .gone, .gone, .gone, (.live false [(V.sl 1 b23_0), (V.sc (.int .i64 b23_1))]), .gone, .gone, .gone, .gone, .gone, .gone, .gone, .gone, .gone, .gone, .gone, .gone, .gone, .gone, .gone, .gone, .gone, .gone, .gone, .gone, .gone, .gone, .gone, .gone, .gone, .gone, .gone, .gone, .gone, .gone, .gone, .gone, .gone, .gone, .gone, .gone, .gone, .gone, .gone, .gone, .gone, .gone, .gone, .gone, .gone, .gone, .gone, .gone, .gone, .gone, .gone, .gone, .gone, .gone, .gone, .gone, .gone, .gone, .gone, .gone, .gone, .gone, .gone, .gone, .gone, .gone, .gone, .gone, .gone, .gone, .gone, .gone, .gone, .gone, .gone, .gone, .gone, .gone, .gone, .gone, .gone, .gone]⟩
def st_x0_law33_FeesObserves (p2 : Int) (p8 : List (List V)) (p10 : List (List V)) (b23_0 : List (List V)) (b23_1 : Int) : St := ⟨[.junk, .junk, (V.sc (.int .i64 p2)), .junk, .junk, .junk, .junk, .junk, (V.sl 35 p8), .junk, (V.sl 32 p10), .junk, .junk, .junk, .junk, .junk, .junk, .junk, .junk, .junk, .junk, .junk, .junk, .junk, .junk, .junk, .junk, .junk, .junk, .junk, .junk, .junk, .junk, .junk, .junk, .junk, .junk, .junk, .junk, .junk, .junk, .junk, .junk, .junk, .junk, .junk, .junk, .junk, .junk, .junk, .junk, .junk, .junk, .junk, .junk, .junk, .junk, .junk, .junk, .junk, .junk, .junk, .junk, .junk, .junk, .junk, .junk, .junk, .junk, .junk, .junk, .junk, .junk, .junk, .junk, .junk, .junk, .junk, .junk, .junk, .junk, .junk, .junk, .junk, .junk, .junk, .junk, .junk, .junk, .junk, .junk, .junk, .junk, .junk, .junk, .junk, .junk, .junk, .junk, .junk, .junk, .junk, .junk, .junk, .junk, .junk], [.gone, .gone, .gone, .gone, .gone, .gone, .gone, .gone, .gone, .gone, .gone, .gone, .gone, .gone, .gone, .gone, .gone, .gone, .gone, .gone, .gone, .gone, .gone, (.live false [(V.sl 1 b23_0), (V.sc (.int .i64 b23_1))]), .gone, .gone, .gone, .gone, .gone, .gone, .gone, .gone, .gone, .gone, .gone, .gone, .gone, .gone, .gone, .gone, .gone, .gone, .gone, .gone, .gone, .gone, .gone, .gone, .gone, .gone, .gone, .gone, .gone, .gone, .gone, .gone, .gone, .gone, .gone, .gone, .gone, .gone, .gone, .gone, .gone, .gone, .gone, .gone, .gone, .gone, .gone, .gone, .gone, .gone, .gone, .gone, .gone, .gone, .gone, .gone, .gone, .gone, .gone, .gone, .gone, .gone, .gone, .gone, .gone, .gone, .gone, .gone, .gone, .gone, .gone, .gone, .gone, .gone, .gone, .gone, .gone, .gone, .gone, .gone, .gone, .gone]⟩
def st_ret_law33_FeesObserves (p6 : Bool) (b23_0 : List (List V)) (b23_1 : Int) : St := ⟨[.junk, .junk, .junk, .junk, .junk, .junk, (V.sc (.bool p6)), .junk, .junk, .junk, .junk, .junk, .junk, .junk, .junk, .junk, .junk, .junk, .junk, .junk, .junk, .junk, .junk, .junk, .junk, .junk, .junk, .junk, .junk, .junk, .junk, .junk, .junk, .junk, .junk, .junk, .junk, .junk, .junk, .junk, .junk, .junk, .junk, .junk, .junk, .junk, .junk, .junk, .junk, .junk, .junk, .junk, .junk, .junk, .junk, .junk, .junk, .junk, .junk, .junk, .junk, .junk, .junk, .junk, .junk, .junk, .junk, .junk, .junk, .junk, .junk, .junk, .junk, .junk, .junk, .junk, .junk, .junk, .junk, .junk, .junk, .junk, .junk, .junk, .junk, .junk, .junk, .junk, .junk, .junk, .junk, .junk, .junk, .junk, .junk, .junk, .junk, .junk, .junk, .junk, .junk, .junk, .junk, .junk, .junk, .junk], [.gone, .gone, .gone, .gone, .gone, .gone, .gone, .gone, .gone, .gone, .gone, .gone, .gone, .gone, .gone, .gone, .gone, .gone, .gone, .gone, .gone, .gone, .gone, (.live false [(V.sl 1 b23_0), (V.sc (.int .i64 b23_1))]), .gone, .gone, .gone, .gone, .gone, .gone, .gone, .gone, .gone, .gone, .gone, .gone, .gone, .gone, .gone, .gone, .gone, .gone, .gone, .gone, .gone, .gone, .gone, .gone, .gone, .gone, .gone, .gone, .gone, .gone, .gone, .gone, .gone, .gone, .gone, .gone, .gone, .gone, .gone, .gone, .gone, .gone, .gone, .gone, .gone, .gone, .gone, .gone, .gone, .gone, .gone, .gone, .gone, .gone, .gone, .gone, .gone, .gone, .gone, .gone, .gone, .gone, .gone, .gone, .gone, .gone, .gone, .gone, .gone, .gone, .gone, .gone, .gone, .gone, .gone, .gone, .gone, .gone, .gone, .gone, .gone, .gone]⟩
def st_x2_law33_FeesObserves (p2 : Int) (p8 : List (List V)) (p10 : List (List V)) (p33 : List (List V)) (p34 : Int) (p35 : Int) (b9 : List V) (b23_0 : List (List V)) (b23_1 : Int) : St := ⟨[.junk, .junk, (V.sc (.int .i64 p2)), .junk, .junk, .junk, .junk, .junk, (V.sl 35 p8), (V.ptr 9 0), (V.sl 32 p10), .junk, .junk, .junk, .junk, .junk, .junk, .junk, .junk, .junk, .junk, .junk, .junk, .junk, .junk, .junk, .junk, .junk, .junk, .junk, .junk, .junk, .junk, (V.gs 1 p33), (V.sc (.int .i64 p34)), (V.sc (.int .i64 p35)), .junk, .junk, .junk, .junk, .junk, .junk, .junk, .junk, .junk, .junk, .junk, .junk, .junk, .junk, .junk, .junk, .junk, .junk, .junk, .junk, .junk, .junk, .junk, .junk, .junk, .junk, .junk, .junk, .junk, .junk, .junk, .junk, .junk, .junk, .junk, .junk, .junk, .junk, .junk, .junk, .junk, .junk, .junk, .junk, .junk, .junk, .junk, .junk, .junk, .junk, .junk, .junk, .junk, .junk, .junk, .junk, .junk, .junk, .junk, .junk, .junk, .junk, .junk, .junk, .junk, .junk, .junk, .junk, .junk, .junk], [.gone, .gone, .gone, .gone, .gone, .gone, .gone, .gone, .gone, (.live true b9), .gone, .gone, .gone, .gone, .gone, .gone, .gone, .gone, .gone, .gone, .gone, .gone, .gone, (.live false [(V.sl 1 b23_0), (V.sc (.int .i64 b23_1))]), .gone, .gone, .gone, .gone, .gone, .gone, .gone, .gone, .gone, .gone, .gone, .gone, .gone, .gone, .gone, .gone, .gone, .gone, .gone, .gone, .gone, .gone, .gone, .gone, .gone, .gone, .gone, .gone, .gone, .gone, .gone, .gone, .gone, .gone, .gone, .gone, .gone, .gone, .gone, .gone, .gone, .gone, .gone, .gone, .gone, .gone, .gone, .gone, .gone, .gone, .gone, .gone, .gone, .gone, .gone, .gone, .gone, .gone, .gone, .gone, .gone, .gone, .gone, .gone, .gone, .gone, .gone, .gone, .gone, .gone, .gone, .gone, .gone, .gone, .gone, .gone, .gone, .gone, .gone, .gone, .gone, .gone]⟩
def e_law33_FeesObserves {β : Type} (F_law33_sane : T_law33_sane) (F_mill_New : T_mill_New) (F_law33_samples : T_law33_samples) (F_mill_Hash : T_mill_Hash) (F_mill_Hashes : T_mill_Hashes) (F_mill_Mod : T_mill_Mod) (F_fees_Confirm : T_fees_Confirm) (F_ref33_Confirm : T_ref33_Confirm) (F_ref33_Same : T_ref33_Same) (F_fees_Rewind : T_fees_Rewind) (F_ref33_Rewind : T_ref33_Rewind) (F_fees_Expire : T_fees_Expire) (F_ref33_Expire : T_ref33_Expire) (F_fees_Observe : T_fees_Observe) (F_ref33_Observe : T_ref33_Observe) (L : Nat) (p0 : List (List V)) (p1 : Int) (p2 : Int) (k_fin : Bool → Option β) (k_hbbbbbaba : Int → List (List V) → List (List V) → List (List V) → Int → Int → List V → List (List V) → Int → Option β) : Option β :=
 F_law33_sane β L  (fun v0 =>
 ifb (!v0) (
 k_fin false) (
 F_mill_New β L p0 (fun v1 v2 =>
 F_law33_samples β L v1 v2 (fun v3 v4 v5 =>
 F_mill_Hash β L v4 v5 (fun v6 v7 v8 =>
 F_mill_Hashes β L (5 : Int) v7 v8 (fun v9 v10 v11 =>
 chk ((List.length v6) = 32 ∧ 0 + 32 ≤ 32) (
 lt (setAt (List.replicate 32 (V.sc (.int .u8 (0 : Int)))) 0 v6) fun r12 =>
 F_mill_Mod β L p1 (100 : Int) (fun v13 =>
 k_hbbbbbaba p2 v3 v9 (chunks 1 2 [(V.sc (.int .i64 p1)), (V.sc (.int .i64 v13))]) ((List.length (chunks 1 2 [(V.sc (.int .i64 p1)), (V.sc (.int .i64 v13))]) : Nat) : Int) (0 : Int) r12 v10 v11))))))))
theorem e_law33_FeesObserves_ok {β : Type} (F_law33_sane : T_law33_sane) (F_mill_New : T_mill_New) (F_law33_samples : T_law33_samples) (F_mill_Hash : T_mill_Hash) (F_mill_Hashes : T_mill_Hashes) (F_mill_Mod : T_mill_Mod) (F_fees_Confirm : T_fees_Confirm) (F_ref33_Confirm : T_ref33_Confirm) (F_ref33_Same : T_ref33_Same) (F_fees_Rewind : T_fees_Rewind) (F_ref33_Rewind : T_ref33_Rewind) (F_fees_Expire : T_fees_Expire) (F_ref33_Expire : T_ref33_Expire) (F_fees_Observe : T_fees_Observe) (F_ref33_Observe : T_ref33_Observe) (L : Nat) (p0 : List (List V)) (p1 : Int) (p2 : Int) (k : V → Bor → Option β) : funC sh_law33_FeesObserves (cb_law33_FeesObserves F_law33_sane F_mill_New F_law33_samples F_mill_Hash F_mill_Hashes F_mill_Mod F_fees_Confirm F_ref33_Confirm F_ref33_Same F_fees_Rewind F_ref33_Rewind F_fees_Expire F_ref33_Expire F_fees_Observe F_ref33_Observe L) L cf_law33_FeesObserves [(V.sl 1 p0), (V.sc (.int .i64 p1)), (V.sc (.int .i64 p2))] [] k = e_law33_FeesObserves F_law33_sane F_mill_New F_law33_samples F_mill_Hash F_mill_Hashes F_mill_Mod F_fees_Confirm F_ref33_Confirm F_ref33_Same F_fees_Rewind F_ref33_Rewind F_fees_Expire F_ref33_Expire F_fees_Observe F_ref33_Observe L p0 p1 p2 (fun p0 => k (V.sc (.bool p0)) []) (fun p2 p8 p10 p33 p34 p35 b9 b23_0 b23_1 => loopM (runC sh_law33_FeesObserves (cb_law33_FeesObserves F_law33_sane F_mill_New F_law33_samples F_mill_Hash F_mill_Hashes F_mill_Mod F_fees_Confirm F_ref33_Confirm F_ref33_Same F_fees_Rewind F_ref33_Rewind F_fees_Expire F_ref33_Expire F_fees_Observe F_ref33_Observe L) 0 L cbbbbbabaa_law33_FeesObserves) mbbbbbaba_law33_FeesObserves L (st_hbbbbbaba_law33_FeesObserves p2 p8 p10 p33 p34 p35 b9 b23_0 b23_1) (blockK 0 (seqK (runC sh_law33_FeesObserves (cb_law33_FeesObserves F_law33_sane F_mill_New F_law33_samples F_mill_Hash F_mill_Hashes F_mill_Mod F_fees_Confirm F_ref33_Confirm F_ref33_Same F_fees_Rewind F_ref33_Rewind F_fees_Expire F_ref33_Expire F_fees_Observe F_ref33_Observe L) 0 L cbbbbbb_law33_FeesObserves) (finK 0 (CF.res cf_law33_FeesObserves) k)))) := by kernel_rfl
def bbbbbbaba_law33_FeesObserves {β : Type} (F_law33_sane : T_law33_sane) (F_mill_New : T_mill_New) (F_law33_samples : T_law33_samples) (F_mill_Hash : T_mill_Hash) (F_mill_Hashes : T_mill_Hashes) (F_mill_Mod : T_mill_Mod) (F_fees_Confirm : T_fees_Confirm) (F_ref33_Confirm : T_ref33_Confirm) (F_ref33_Same : T_ref33_Same) (F_fees_Rewind : T_fees_Rewind) (F_ref33_Rewind : T_ref33_Rewind) (F_fees_Expire : T_fees_Expire) (F_ref33_Expire : T_ref33_Expire) (F_fees_Observe : T_fees_Observe) (F_ref33_Observe : T_ref33_Observe) (L : Nat) (p2 : Int) (p8 : List (List V)) (p10 : List (List V)) (p33 : List (List V)) (p34 : Int) (p35 : Int) (b9 : List V) (b23_0 : List (List V)) (b23_1 : Int) (k_hbbbbbabaabbaabba : Int → List (List V) → List (List V) → Int → List (List V) → Int → Int → List (List V) → Int → Int → List V → List (List V) → Int → Option β) (k_x0 : Int → List (List V) → List (List V) → List (List V) → Int → Option β) : Option β :=
 ifb (decide (p35 < p34)) (
 idx p33 p35 fun c14 =>
 cI .i64 c14 0 fun v15 =>
 F_mill_Mod β L p2 (20 : Int) (fun v16 =>
 k_hbbbbbabaabbaabba p2 p8 p10 v15 p33 p34 p35 (chunks 1 2 [(V.sc (.int .i64 p2)), (V.sc (.int .i64 v16))]) ((List.length (chunks 1 2 [(V.sc (.int .i64 p2)), (V.sc (.int .i64 v16))]) : Nat) : Int) (0 : Int) b9 b23_0 b23_1)) (
 k_x0 p2 p8 p10 b23_0 b23_1)
theorem bbbbbbaba_law33_FeesObserves_ok {β : Type} (F_law33_sane : T_law33_sane) (F_mill_New : T_mill_New) (F_law33_samples : T_law33_samples) (F_mill_Hash : T_mill_Hash) (F_mill_Hashes : T_mill_Hashes) (F_mill_Mod : T_mill_Mod) (F_fees_Confirm : T_fees_Confirm) (F_ref33_Confirm : T_ref33_Confirm) (F_ref33_Same : T_ref33_Same) (F_fees_Rewind : T_fees_Rewind) (F_ref33_Rewind : T_ref33_Rewind) (F_fees_Expire : T_fees_Expire) (F_ref33_Expire : T_ref33_Expire) (F_fees_Observe : T_fees_Observe) (F_ref33_Observe : T_ref33_Observe) (L : Nat) (p2 : Int) (p8 : List (List V)) (p10 : List (List V)) (p33 : List (List V)) (p34 : Int) (p35 : Int) (b9 : List V) (b23_0 : List (List V)) (b23_1 : Int) (X : St → Option β) (K : KT β) : runC sh_law33_FeesObserves (cb_law33_FeesObserves F_law33_sane F_mill_New F_law33_samples F_mill_Hash F_mill_Hashes F_mill_Mod F_fees_Confirm F_ref33_Confirm F_ref33_Same F_fees_Rewind F_ref33_Rewind F_fees_Expire F_ref33_Expire F_fees_Observe F_ref33_Observe L) 0 L cbbbbbabaa_law33_FeesObserves (st_hbbbbbaba_law33_FeesObserves p2 p8 p10 p33 p34 p35 b9 b23_0 b23_1) (loopK mbbbbbaba_law33_FeesObserves X K) = bbbbbbaba_law33_FeesObserves F_law33_sane F_mill_New F_law33_samples F_mill_Hash F_mill_Hashes F_mill_Mod F_fees_Confirm F_ref33_Confirm F_ref33_Same F_fees_Rewind F_ref33_Rewind F_fees_Expire F_ref33_Expire F_fees_Observe F_ref33_Observe L p2 p8 p10 p33 p34 p35 b9 b23_0 b23_1 (fun p2 p8 p10 p12 p33 p34 p35 p42 p43 p44 b9 b23_0 b23_1 => loopM (runC sh_law33_FeesObserves (cb_law33_FeesObserves F_law33_sane F_mill_New F_law33_samples F_mill_Hash F_mill_Hashes F_mill_Mod F_fees_Confirm F_ref33_Confirm F_ref33_Same F_fees_Rewind F_ref33_Rewind F_fees_Expire F_ref33_Expire F_fees_Observe F_ref33_Observe L) 0 L cbbbbbabaabbaabbaa_law33_FeesObserves) mbbbbbabaabbaabba_law33_FeesObserves L (st_hbbbbbabaabbaabba_law33_FeesObserves p2 p8 p10 p12 p33 p34 p35 p42 p43 p44 b9 b23_0 b23_1) (blockK 2 (blockK 1 (seqK (runC sh_law33_FeesObserves (cb_law33_FeesObserves F_law33_sane F_mill_New F_law33_samples F_mill_Hash F_mill_Hashes F_mill_Mod F_fees_Confirm F_ref33_Confirm F_ref33_Same F_fees_Rewind F_ref33_Rewind F_fees_Expire F_ref33_Expire F_fees_Observe F_ref33_Observe L) 0 L cbbbbbabaabbb_law33_FeesObserves) (loopK mbbbbbaba_law33_FeesObserves X K))))) (fun p2 p8 p10 b23_0 b23_1 => K (.exit 0) (st_x0_law33_FeesObserves p2 p8 p10 b23_0 b23_1)) := by kernel_rfl
def rbbbbbabax0_law33_FeesObserves {β : Type} (F_law33_sane : T_law33_sane) (F_mill_New : T_mill_New) (F_law33_samples : T_law33_samples) (F_mill_Hash : T_mill_Hash) (F_mill_Hashes : T_mill_Hashes) (F_mill_Mod : T_mill_Mod) (F_fees_Confirm : T_fees_Confirm) (F_ref33_Confirm : T_ref33_Confirm) (F_ref33_Same : T_ref33_Same) (F_fees_Rewind : T_fees_Rewind) (F_ref33_Rewind : T_ref33_Rewind) (F_fees_Expire : T_fees_Expire) (F_ref33_Expire : T_ref33_Expire) (F_fees_Observe : T_fees_Observe) (F_ref33_Observe : T_ref33_Observe) (L : Nat) (p2 : Int) (p8 : List (List V)) (p10 : List (List V)) (b23_0 : List (List V)) (b23_1 : Int) (k_fin : Bool → Option β) : Option β :=
 F_mill_Mod β L p2 (130 : Int) (fun v17 =>
 F_fees_Confirm β L p8 p10 v17 (fun v18 =>
 F_ref33_Confirm β L p8 p10 v17 (fun v19 =>
 F_ref33_Same β L v18 v19 (fun v20 =>
 ifb v20 (
 lt (Int.tmod v17 (20 : Int)) fun x21 =>
 F_fees_Rewind β L p8 x21 (fun v22 =>
 lt (Int.tmod v17 (20 : Int)) fun x23 =>
 F_ref33_Rewind β L p8 x23 (fun v24 =>
 F_ref33_Same β L v22 v24 (fun v25 =>
 ifb v25 (
 F_fees_Expire β L p8 v17 (fun v26 =>
 F_ref33_Expire β L p8 v17 (fun v27 =>
 F_ref33_Same β L v26 v27 (fun v28 =>
 k_fin v28)))) (
 k_fin false))))) (
 k_fin false)))))
theorem rbbbbbabax0_law33_FeesObserves_ok {β : Type} (F_law33_sane : T_law33_sane) (F_mill_New : T_mill_New) (F_law33_samples : T_law33_samples) (F_mill_Hash : T_mill_Hash) (F_mill_Hashes : T_mill_Hashes) (F_mill_Mod : T_mill_Mod) (F_fees_Confirm : T_fees_Confirm) (F_ref33_Confirm : T_ref33_Confirm) (F_ref33_Same : T_ref33_Same) (F_fees_Rewind : T_fees_Rewind) (F_ref33_Rewind : T_ref33_Rewind) (F_fees_Expire : T_fees_Expire) (F_ref33_Expire : T_ref33_Expire) (F_fees_Observe : T_fees_Observe) (F_ref33_Observe : T_ref33_Observe) (L : Nat) (p2 : Int) (p8 : List (List V)) (p10 : List (List V)) (b23_0 : List (List V)) (b23_1 : Int) (k : V → Bor → Option β) : (blockK 0 (seqK (runC sh_law33_FeesObserves (cb_law33_FeesObserves F_law33_sane F_mill_New F_law33_samples F_mill_Hash F_mill_Hashes F_mill_Mod F_fees_Confirm F_ref33_Confirm F_ref33_Same F_fees_Rewind F_ref33_Rewind F_fees_Expire F_ref33_Expire F_fees_Observe F_ref33_Observe L) 0 L cbbbbbb_law33_FeesObserves) (finK 0 (CF.res cf_law33_FeesObserves) k))) (.exit 0) (st_x0_law33_FeesObserves p2 p8 p10 b23_0 b23_1) = rbbbbbabax0_law33_FeesObserves F_law33_sane F_mill_New F_law33_samples F_mill_Hash F_mill_Hashes F_mill_Mod F_fees_Confirm F_ref33_Confirm F_ref33_Same F_fees_Rewind F_ref33_Rewind F_fees_Expire F_ref33_Expire F_fees_Observe F_ref33_Observe L p2 p8 p10 b23_0 b23_1 (fun p0 => k (V.sc (.bool p0)) []) := by kernel_rfl
def bbbbbbabaabbaabba_law33_FeesObserves {β : Type} (F_law33_sane : T_law33_sane) (F_mill_New : T_mill_New) (F_law33_samples : T_law33_samples) (F_mill_Hash : T_mill_Hash) (F_mill_Hashes : T_mill_Hashes) (F_mill_Mod : T_mill_Mod) (F_fees_Confirm : T_fees_Confirm) (F_ref33_Confirm : T_ref33_Confirm) (F_ref33_Same : T_ref33_Same) (F_fees_Rewind : T_fees_Rewind) (F_ref33_Rewind : T_ref33_Rewind) (F_fees_Expire : T_fees_Expire) (F_ref33_Expire : T_ref33_Expire) (F_fees_Observe : T_fees_Observe) (F_ref33_Observe : T_ref33_Observe) (L : Nat) (p2 : Int) (p8 : List (List V)) (p10 : List (List V)) (p12 : Int) (p33 : List (List V)) (p34 : Int) (p35 : Int) (p42 : List (List V)) (p43 : Int) (p44 : Int) (b9 : List V) (b23_0 : List (List V)) (b23_1 : Int) (k_ret : Bool → List (List V) → Int → Option β) (k_hbbbbbabaabbaabba : Int → List (List V) → List (List V) → Int → List (List V) → Int → Int → List (List V) → Int → Int → List V → List (List V) → Int → Option β) (k_x2 : Int → List (List V) → List (List V) → List (List V) → Int → Int → List V → List (List V) → Int → Option β) : Option β :=
 ifb (decide (p44 < p43)) (
 idx p42 p44 fun c29 =>
 cI .i64 c29 0 fun v30 =>
 chk (0 + 32 ≤ (List.length b9)) (
 F_fees_Observe β L p8 (List.take 32 b9) p12 v30 (fun v31 v32 =>
 chk (0 + 32 ≤ (List.length b9)) (
 F_ref33_Observe β L p8 (List.take 32 b9) p12 v30 (fun v33 v34 =>
 ifb ((v32 : Int) != v34) (
 k_ret false b23_0 b23_1) (
 F_ref33_Same β L v31 v33 (fun v35 =>
 ifb (!v35) (
 k_ret false b23_0 b23_1) (
 lt (IntKind.wrap .i64 ((p44 : Int) + (1 : Int))) fun x36 =>
 k_hbbbbbabaabbaabba p2 p8 p10 p12 p33 p34 p35 p42 p43 x36 b9 b23_0 b23_1)))))))) (
 k_x2 p2 p8 p10 p33 p34 p35 b9 b23_0 b23_1)
theorem bbbbbbabaabbaabba_law33_FeesObserves_ok {β : Type} (F_law33_sane : T_law33_sane) (F_mill_New : T_mill_New) (F_law33_samples : T_law33_samples) (F_mill_Hash : T_mill_Hash) (F_mill_Hashes : T_mill_Hashes) (F_mill_Mod : T_mill_Mod) (F_fees_Confirm : T_fees_Confirm) (F_ref33_Confirm : T_ref33_Confirm) (F_ref33_Same : T_ref33_Same) (F_fees_Rewind : T_fees_Rewind) (F_ref33_Rewind : T_ref33_Rewind) (F_fees_Expire : T_fees_Expire) (F_ref33_Expire : T_ref33_Expire) (F_fees_Observe : T_fees_Observe) (F_ref33_Observe : T_ref33_Observe) (L : Nat) (p2 : Int) (p8 : List (List V)) (p10 : List (List V)) (p12 : Int) (p33 : List (List V)) (p34 : Int) (p35 : Int) (p42 : List (List V)) (p43 : Int) (p44 : Int) (b9 : List V) (b23_0 : List (List V)) (b23_1 : Int) (X : St → Option β) (K : KT β) : runC sh_law33_FeesObserves (cb_law33_FeesObserves F_law33_sane F_mill_New F_law33_samples F_mill_Hash F_mill_Hashes F_mill_Mod F_fees_Confirm F_ref33_Confirm F_ref33_Same F_fees_Rewind F_ref33_Rewind F_fees_Expire F_ref33_Expire F_fees_Observe F_ref33_Observe L) 0 L cbbbbbabaabbaabbaa_law33_FeesObserves (st_hbbbbbabaabbaabba_law33_FeesObserves p2 p8 p10 p12 p33 p34 p35 p42 p43 p44 b9 b23_0 b23_1) (loopK mbbbbbabaabbaabba_law33_FeesObserves X K) = bbbbbbabaabbaabba_law33_FeesObserves F_law33_sane F_mill_New F_law33_samples F_mill_Hash F_mill_Hashes F_mill_Mod F_fees_Confirm F_ref33_Confirm F_ref33_Same F_fees_Rewind F_ref33_Rewind F_fees_Expire F_ref33_Expire F_fees_Observe F_ref33_Observe L p2 p8 p10 p12 p33 p34 p35 p42 p43 p44 b9 b23_0 b23_1 (fun p6 b23_0 b23_1 => K .ret (st_ret_law33_FeesObserves p6 b23_0 b23_1)) (fun p2 p8 p10 p12 p33 p34 p35 p42 p43 p44 b9 b23_0 b23_1 => X (st_hbbbbbabaabbaabba_law33_FeesObserves p2 p8 p10 p12 p33 p34 p35 p42 p43 p44 b9 b23_0 b23_1)) (fun p2 p8 p10 p33 p34 p35 b9 b23_0 b23_1 => K (.exit 2) (st_x2_law33_FeesObserves p2 p8 p10 p33 p34 p35 b9 b23_0 b23_1)) := by kernel_rfl
def rbbbbbabaabbaabbaret_law33_FeesObserves {β : Type} (F_law33_sane : T_law33_sane) (F_mill_New : T_mill_New) (F_law33_samples : T_law33_samples) (F_mill_Hash : T_mill_Hash) (F_mill_Hashes : T_mill_Hashes) (F_mill_Mod : T_mill_Mod) (F_fees_Confirm : T_fees_Confirm) (F_ref33_Confirm : T_ref33_Confirm) (F_ref33_Same : T_ref33_Same) (F_fees_Rewind : T_fees_Rewind) (F_ref33_Rewind : T_ref33_Rewind) (F_fees_Expire : T_fees_Expire) (F_ref33_Expire : T_ref33_Expire) (F_fees_Observe : T_fees_Observe) (F_ref33_Observe : T_ref33_Observe) (L : Nat) (p6 : Bool) (b23_0 : List (List V)) (b23_1 : Int) (k_ret : Bool → List (List V) → Int → Option β) : Option β :=
 k_ret p6 b23_0 b23_1
theorem rbbbbbabaabbaabbaret_law33_FeesObserves_ok {β : Type} (F_law33_sane : T_law33_sane) (F_mill_New : T_mill_New) (F_law33_samples : T_law33_samples) (F_mill_Hash : T_mill_Hash) (F_mill_Hashes : T_mill_Hashes) (F_mill_Mod : T_mill_Mod) (F_fees_Confirm : T_fees_Confirm) (F_ref33_Confirm : T_ref33_Confirm) (F_ref33_Same : T_ref33_Same) (F_fees_Rewind : T_fees_Rewind) (F_ref33_Rewind : T_ref33_Rewind) (F_fees_Expire : T_fees_Expire) (F_ref33_Expire : T_ref33_Expire) (F_fees_Observe : T_fees_Observe) (F_ref33_Observe : T_ref33_Observe) (L : Nat) (p6 : Bool) (b23_0 : List (List V)) (b23_1 : Int) (X : St → Option β) (K : KT β) : (blockK 2 (blockK 1 (seqK (runC sh_law33_FeesObserves (cb_law33_FeesObserves F_law33_sane F_mill_New F_law33_samples F_mill_Hash F_mill_Hashes F_mill_Mod F_fees_Confirm F_ref33_Confirm F_ref33_Same F_fees_Rewind F_ref33_Rewind F_fees_Expire F_ref33_Expire F_fees_Observe F_ref33_Observe L) 0 L cbbbbbabaabbb_law33_FeesObserves) (loopK mbbbbbaba_law33_FeesObserves X K)))) .ret (st_ret_law33_FeesObserves p6 b23_0 b23_1) = rbbbbbabaabbaabbaret_law33_FeesObserves F_law33_sane F_mill_New F_law33_samples F_mill_Hash F_mill_Hashes F_mill_Mod F_fees_Confirm F_ref33_Confirm F_ref33_Same F_fees_Rewind F_ref33_Rewind F_fees_Expire F_ref33_Expire F_fees_Observe F_ref33_Observe L p6 b23_0 b23_1 (fun p6 b23_0 b23_1 => K .ret (st_ret_law33_FeesObserves p6 b23_0 b23_1)) := by kernel_rfl
def rbbbbbabaabbaabbax2_law33_FeesObserves {β : Type} (F_law33_sane : T_law33_sane) (F_mill_New : T_mill_New) (F_law33_samples : T_law33_samples) (F_mill_Hash : T_mill_Hash) (F_mill_Hashes : T_mill_Hashes) (F_mill_Mod : T_mill_Mod) (F_fees_Confirm : T_fees_Confirm) (F_ref33_Confirm : T_ref33_Confirm) (F_ref33_Same : T_ref33_Same) (F_fees_Rewind : T_fees_Rewind) (F_ref33_Rewind : T_ref33_Rewind) (F_fees_Expire : T_fees_Expire) (F_ref33_Expire : T_ref33_Expire) (F_fees_Observe : T_fees_Observe) (F_ref33_Observe : T_ref33_Observe) (L : Nat) (p2 : Int) (p8 : List (List V)) (p10 : List (List V)) (p33 : List (List V)) (p34 : Int) (p35 : Int) (b9 : List V) (b23_0 : List (List V)) (b23_1 : Int) (k_hbbbbbaba : Int → List (List V) → List (List V) → List (List V) → Int → Int → List V → List (List V) → Int → Option β) : Option β :=
 lt (IntKind.wrap .i64 ((p35 : Int) + (1 : Int))) fun x37 =>
 k_hbbbbbaba p2 p8 p10 p33 p34 x37 b9 b23_0 b23_1
theorem rbbbbbabaabbaabbax2_law33_FeesObserves_ok {β : Type} (F_law33_sane : T_law33_sane) (F_mill_New : T_mill_New) (F_law33_samples : T_law33_samples) (F_mill_Hash : T_mill_Hash) (F_mill_Hashes : T_mill_Hashes) (F_mill_Mod : T_mill_Mod) (F_fees_Confirm : T_fees_Confirm) (F_ref33_Confirm : T_ref33_Confirm) (F_ref33_Same : T_ref33_Same) (F_fees_Rewind : T_fees_Rewind) (F_ref33_Rewind : T_ref33_Rewind) (F_fees_Expire : T_fees_Expire) (F_ref33_Expire : T_ref33_Expire) (F_fees_Observe : T_fees_Observe) (F_ref33_Observe : T_ref33_Observe) (L : Nat) (p2 : Int) (p8 : List (List V)) (p10 : List (List V)) (p33 : List (List V)) (p34 : Int) (p35 : Int) (b9 : List V) (b23_0 : List (List V)) (b23_1 : Int) (X : St → Option β) (K : KT β) : (blockK 2 (blockK 1 (seqK (runC sh_law33_FeesObserves (cb_law33_FeesObserves F_law33_sane F_mill_New F_law33_samples F_mill_Hash F_mill_Hashes F_mill_Mod F_fees_Confirm F_ref33_Confirm F_ref33_Same F_fees_Rewind F_ref33_Rewind F_fees_Expire F_ref33_Expire F_fees_Observe F_ref33_Observe L) 0 L cbbbbbabaabbb_law33_FeesObserves) (loopK mbbbbbaba_law33_FeesObserves X K)))) (.exit 2) (st_x2_law33_FeesObserves p2 p8 p10 p33 p34 p35 b9 b23_0 b23_1) = rbbbbbabaabbaabbax2_law33_FeesObserves F_law33_sane F_mill_New F_law33_samples F_mill_Hash F_mill_Hashes F_mill_Mod F_fees_Confirm F_ref33_Confirm F_ref33_Same F_fees_Rewind F_ref33_Rewind F_fees_Expire F_ref33_Expire F_fees_Observe F_ref33_Observe L p2 p8 p10 p33 p34 p35 b9 b23_0 b23_1 (fun p2 p8 p10 p33 p34 p35 b9 b23_0 b23_1 => X (st_hbbbbbaba_law33_FeesObserves p2 p8 p10 p33 p34 p35 b9 b23_0 b23_1)) := by kernel_rfl
def rbbbbbabaret_law33_FeesObserves {β : Type} (F_law33_sane : T_law33_sane) (F_mill_New : T_mill_New) (F_law33_samples : T_law33_samples) (F_mill_Hash : T_mill_Hash) (F_mill_Hashes : T_mill_Hashes) (F_mill_Mod : T_mill_Mod) (F_fees_Confirm : T_fees_Confirm) (F_ref33_Confirm : T_ref33_Confirm) (F_ref33_Same : T_ref33_Same) (F_fees_Rewind : T_fees_Rewind) (F_ref33_Rewind : T_ref33_Rewind) (F_fees_Expire : T_fees_Expire) (F_ref33_Expire : T_ref33_Expire) (F_fees_Observe : T_fees_Observe) (F_ref33_Observe : T_ref33_Observe) (L : Nat) (p6 : Bool) (b23_0 : List (List V)) (b23_1 : Int) (k_fin : Bool → Option β) : Option β :=
 k_fin p6
theorem rbbbbbabaret_law33_FeesObserves_ok {β : Type} (F_law33_sane : T_law33_sane) (F_mill_New : T_mill_New) (F_law33_samples : T_law33_samples) (F_mill_Hash : T_mill_Hash) (F_mill_Hashes : T_mill_Hashes) (F_mill_Mod : T_mill_Mod) (F_fees_Confirm : T_fees_Confirm) (F_ref33_Confirm : T_ref33_Confirm) (F_ref33_Same : T_ref33_Same) (F_fees_Rewind : T_fees_Rewind) (F_ref33_Rewind : T_ref33_Rewind) (F_fees_Expire : T_fees_Expire) (F_ref33_Expire : T_ref33_Expire) (F_fees_Observe : T_fees_Observe) (F_ref33_Observe : T_ref33_Observe) (L : Nat) (p6 : Bool) (b23_0 : List (List V)) (b23_1 : Int) (k : V → Bor → Option β) : (blockK 0 (seqK (runC sh_law33_FeesObserves (cb_law33_FeesObserves F_law33_sane F_mill_New F_law33_samples F_mill_Hash F_mill_Hashes F_mill_Mod F_fees_Confirm F_ref33_Confirm F_ref33_Same F_fees_Rewind F_ref33_Rewind F_fees_Expire F_ref33_Expire F_fees_Observe F_ref33_Observe L) 0 L cbbbbbb_law33_FeesObserves) (finK 0 (CF.res cf_law33_FeesObserves) k))) .ret (st_ret_law33_FeesObserves p6 b23_0 b23_1) = rbbbbbabaret_law33_FeesObserves F_law33_sane F_mill_New F_law33_samples F_mill_Hash F_mill_Hashes F_mill_Mod F_fees_Confirm F_ref33_Confirm F_ref33_Same F_fees_Rewind F_ref33_Rewind F_fees_Expire F_ref33_Expire F_fees_Observe F_ref33_Observe L p6 b23_0 b23_1 (fun p0 => k (V.sc (.bool p0)) []) := by kernel_rfl
def lbbbbbabaabbaabba_law33_FeesObserves {β : Type} (F_law33_sane : T_law33_sane) (F_mill_New : T_mill_New) (F_law33_samples : T_law33_samples) (F_mill_Hash : T_mill_Hash) (F_mill_Hashes : T_mill_Hashes) (F_mill_Mod : T_mill_Mod) (F_fees_Confirm : T_fees_Confirm) (F_ref33_Confirm : T_ref33_Confirm) (F_ref33_Same : T_ref33_Same) (F_fees_Rewind : T_fees_Rewind) (F_ref33_Rewind : T_ref33_Rewind) (F_fees_Expire : T_fees_Expire) (F_ref33_Expire : T_ref33_Expire) (F_fees_Observe : T_fees_Observe) (F_ref33_Observe : T_ref33_Observe) (L : Nat) (k_ret : Bool → List (List V) → Int → Option β) (k_x2 : Int → List (List V) → List (List V) → List (List V) → Int → Int → List V → List (List V) → Int → Option β) : Nat → Int → List (List V) → List (List V) → Int → List (List V) → Int → Int → List (List V) → Int → Int → List V → List (List V) → Int → Option β
  | 0, _, _, _, _, _, _, _, _, _, _, _, _, _ => none
  | n + 1, p2, p8, p10, p12, p33, p34, p35, p42, p43, p44, b9, b23_0, b23_1 => bbbbbbabaabbaabba_law33_FeesObserves F_law33_sane F_mill_New F_law33_samples F_mill_Hash F_mill_Hashes F_mill_Mod F_fees_Confirm F_ref33_Confirm F_ref33_Same F_fees_Rewind F_ref33_Rewind F_fees_Expire F_ref33_Expire F_fees_Observe F_ref33_Observe L p2 p8 p10 p12 p33 p34 p35 p42 p43 p44 b9 b23_0 b23_1 k_ret (fun p2 p8 p10 p12 p33 p34 p35 p42 p43 p44 b9 b23_0 b23_1 => lbbbbbabaabbaabba_law33_FeesObserves F_law33_sane F_mill_New F_law33_samples F_mill_Hash F_mill_Hashes F_mill_Mod F_fees_Confirm F_ref33_Confirm F_ref33_Same F_fees_Rewind F_ref33_Rewind F_fees_Expire F_ref33_Expire F_fees_Observe F_ref33_Observe L k_ret k_x2 n p2 p8 p10 p12 p33 p34 p35 p42 p43 p44 b9 b23_0 b23_1) k_x2
theorem lbbbbbabaabbaabba_law33_FeesObserves_ok {β : Type} (F_law33_sane : T_law33_sane) (F_mill_New : T_mill_New) (F_law33_samples : T_law33_samples) (F_mill_Hash : T_mill_Hash) (F_mill_Hashes : T_mill_Hashes) (F_mill_Mod : T_mill_Mod) (F_fees_Confirm : T_fees_Confirm) (F_ref33_Confirm : T_ref33_Confirm) (F_ref33_Same : T_ref33_Same) (F_fees_Rewind : T_fees_Rewind) (F_ref33_Rewind : T_ref33_Rewind) (F_fees_Expire : T_fees_Expire) (F_ref33_Expire : T_ref33_Expire) (F_fees_Observe : T_fees_Observe) (F_ref33_Observe : T_ref33_Observe) (L : Nat) (K : KT β) : ∀ (n : Nat) (p2 : Int) (p8 : List (List V)) (p10 : List (List V)) (p12 : Int) (p33 : List (List V)) (p34 : Int) (p35 : Int) (p42 : List (List V)) (p43 : Int) (p44 : Int) (b9 : List V) (b23_0 : List (List V)) (b23_1 : Int), loopM (runC sh_law33_FeesObserves (cb_law33_FeesObserves F_law33_sane F_mill_New F_law33_samples F_mill_Hash F_mill_Hashes F_mill_Mod F_fees_Confirm F_ref33_Confirm F_ref33_Same F_fees_Rewind F_ref33_Rewind F_fees_Expire F_ref33_Expire F_fees_Observe F_ref33_Observe L) 0 L cbbbbbabaabbaabbaa_law33_FeesObserves) mbbbbbabaabbaabba_law33_FeesObserves n (st_hbbbbbabaabbaabba_law33_FeesObserves p2 p8 p10 p12 p33 p34 p35 p42 p43 p44 b9 b23_0 b23_1) K = lbbbbbabaabbaabba_law33_FeesObserves F_law33_sane F_mill_New F_law33_samples F_mill_Hash F_mill_Hashes F_mill_Mod F_fees_Confirm F_ref33_Confirm F_ref33_Same F_fees_Rewind F_ref33_Rewind F_fees_Expire F_ref33_Expire F_fees_Observe F_ref33_Observe L (fun p6 b23_0 b23_1 => K .ret (st_ret_law33_FeesObserves p6 b23_0 b23_1)) (fun p2 p8 p10 p33 p34 p35 b9 b23_0 b23_1 => K (.exit 2) (st_x2_law33_FeesObserves p2 p8 p10 p33 p34 p35 b9 b23_0 b23_1)) n p2 p8 p10 p12 p33 p34 p35 p42 p43 p44 b9 b23_0 b23_1 := by
  intro n
  induction n with
  | zero => intros; rfl
  | succ n ih =>
    intro p2 p8 p10 p12 p33 p34 p35 p42 p43 p44 b9 b23_0 b23_1
    refine (bbbbbbabaabbaabba_law33_FeesObserves_ok F_law33_sane F_mill_New F_law33_samples F_mill_Hash F_mill_Hashes F_mill_Mod F_fees_Confirm F_ref33_Confirm F_ref33_Same F_fees_Rewind F_ref33_Rewind F_fees_Expire F_ref33_Expire F_fees_Observe F_ref33_Observe L p2 p8 p10 p12 p33 p34 p35 p42 p43 p44 b9 b23_0 b23_1 (fun σ => loopM (runC sh_law33_FeesObserves (cb_law33_FeesObserves F_law33_sane F_mill_New F_law33_samples F_mill_Hash F_mill_Hashes F_mill_Mod F_fees_Confirm F_ref33_Confirm F_ref33_Same F_fees_Rewind F_ref33_Rewind F_fees_Expire F_ref33_Expire F_fees_Observe F_ref33_Observe L) 0 L cbbbbbabaabbaabbaa_law33_FeesObserves) mbbbbbabaabbaabba_law33_FeesObserves n σ K) K).trans ?_
    simp only [ih]
    rfl
def Cbbbbbbaba_law33_FeesObserves {β : Type} (F_law33_sane : T_law33_sane) (F_mill_New : T_mill_New) (F_law33_samples : T_law33_samples) (F_mill_Hash : T_mill_Hash) (F_mill_Hashes : T_mill_Hashes) (F_mill_Mod : T_mill_Mod) (F_fees_Confirm : T_fees_Confirm) (F_ref33_Confirm : T_ref33_Confirm) (F_ref33_Same : T_ref33_Same) (F_fees_Rewind : T_fees_Rewind) (F_ref33_Rewind : T_ref33_Rewind) (F_fees_Expire : T_fees_Expire) (F_ref33_Expire : T_ref33_Expire) (F_fees_Observe : T_fees_Observe) (F_ref33_Observe : T_ref33_Observe) (L : Nat) (p2 : Int) (p8 : List (List V)) (p10 : List (List V)) (p33 : List (List V)) (p34 : Int) (p35 : Int) (b9 : List V) (b23_0 : List (List V)) (b23_1 : Int) (k_x0 : Int → List (List V) → List (List V) → List (List V) → Int → Option β) (k_ret : Bool → List (List V) → Int → Option β) (k_hbbbbbaba : Int → List (List V) → List (List V) → List (List V) → Int → Int → List V → List (List V) → Int → Option β) : Option β :=
 bbbbbbaba_law33_FeesObserves F_law33_sane F_mill_New F_law33_samples F_mill_Hash F_mill_Hashes F_mill_Mod F_fees_Confirm F_ref33_Confirm F_ref33_Same F_fees_Rewind F_ref33_Rewind F_fees_Expire F_ref33_Expire F_fees_Observe F_ref33_Observe L p2 p8 p10 p33 p34 p35 b9 b23_0 b23_1 (fun p2 p8 p10 p12 p33 p34 p35 p42 p43 p44 b9 b23_0 b23_1 => lbbbbbabaabbaabba_law33_FeesObserves F_law33_sane F_mill_New F_law33_samples F_mill_Hash F_mill_Hashes F_mill_Mod F_fees_Confirm F_ref33_Confirm F_ref33_Same F_fees_Rewind F_ref33_Rewind F_fees_Expire F_ref33_Expire F_fees_Observe F_ref33_Observe L (fun p6 b23_0 b23_1 => rbbbbbabaabbaabbaret_law33_FeesObserves F_law33_sane F_mill_New F_law33_samples F_mill_Hash F_mill_Hashes F_mill_Mod F_fees_Confirm F_ref33_Confirm F_ref33_Same F_fees_Rewind F_ref33_Rewind F_fees_Expire F_ref33_Expire F_fees_Observe F_ref33_Observe L p6 b23_0 b23_1 k_ret) (fun p2 p8 p10 p33 p34 p35 b9 b23_0 b23_1 => rbbbbbabaabbaabbax2_law33_FeesObserves F_law33_sane F_mill_New F_law33_samples F_mill_Hash F_mill_Hashes F_mill_Mod F_fees_Confirm F_ref33_Confirm F_ref33_Same F_fees_Rewind F_ref33_Rewind F_fees_Expire F_ref33_Expire F_fees_Observe F_ref33_Observe L p2 p8 p10 p33 p34 p35 b9 b23_0 b23_1 k_hbbbbbaba) L p2 p8 p10 p12 p33 p34 p35 p42 p43 p44 b9 b23_0 b23_1) k_x0
theorem Cbbbbbbaba_law33_FeesObserves_ok {β : Type} (F_law33_sane : T_law33_sane) (F_mill_New : T_mill_New) (F_law33_samples : T_law33_samples) (F_mill_Hash : T_mill_Hash) (F_mill_Hashes : T_mill_Hashes) (F_mill_Mod : T_mill_Mod) (F_fees_Confirm : T_fees_Confirm) (F_ref33_Confirm : T_ref33_Confirm) (F_ref33_Same : T_ref33_Same) (F_fees_Rewind : T_fees_Rewind) (F_ref33_Rewind : T_ref33_Rewind) (F_fees_Expire : T_fees_Expire) (F_ref33_Expire : T_ref33_Expire) (F_fees_Observe : T_fees_Observe) (F_ref33_Observe : T_ref33_Observe) (L : Nat) (p2 : Int) (p8 : List (List V)) (p10 : List (List V)) (p33 : List (List V)) (p34 : Int) (p35 : Int) (b9 : List V) (b23_0 : List (List V)) (b23_1 : Int) (X : St → Option β) (K : KT β) : runC sh_law33_FeesObserves (cb_law33_FeesObserves F_law33_sane F_mill_New F_law33_samples F_mill_Hash F_mill_Hashes F_mill_Mod F_fees_Confirm F_ref33_Confirm F_ref33_Same F_fees_Rewind F_ref33_Rewind F_fees_Expire F_ref33_Expire F_fees_Observe F_ref33_Observe L) 0 L cbbbbbabaa_law33_FeesObserves (st_hbbbbbaba_law33_FeesObserves p2 p8 p10 p33 p34 p35 b9 b23_0 b23_1) (loopK mbbbbbaba_law33_FeesObserves X K) = Cbbbbbbaba_law33_FeesObserves F_law33_sane F_mill_New F_law33_samples F_mill_Hash F_mill_Hashes F_mill_Mod F_fees_Confirm F_ref33_Confirm F_ref33_Same F_fees_Rewind F_ref33_Rewind F_fees_Expire F_ref33_Expire F_fees_Observe F_ref33_Observe L p2 p8 p10 p33 p34 p35 b9 b23_0 b23_1 (fun p2 p8 p10 b23_0 b23_1 => K (.exit 0) (st_x0_law33_FeesObserves p2 p8 p10 b23_0 b23_1)) (fun p6 b23_0 b23_1 => K .ret (st_ret_law33_FeesObserves p6 b23_0 b23_1)) (fun p2 p8 p10 p33 p34 p35 b9 b23_0 b23_1 => X (st_hbbbbbaba_law33_FeesObserves p2 p8 p10 p33 p34 p35 b9 b23_0 b23_1)) := by
  refine (bbbbbbaba_law33_FeesObserves_ok F_law33_sane F_mill_New F_law33_samples F_mill_Hash F_mill_Hashes F_mill_Mod F_fees_Confirm F_ref33_Confirm F_ref33_Same F_fees_Rewind F_ref33_Rewind F_fees_Expire F_ref33_Expire F_fees_Observe F_ref33_Observe L p2 p8 p10 p33 p34 p35 b9 b23_0 b23_1 X K).trans ?_
  unfold Cbbbbbbaba_law33_FeesObserves
  simp only [lbbbbbabaabbaabba_law33_FeesObserves_ok, rbbbbbabaabbaabbaret_law33_FeesObserves_ok, rbbbbbabaabbaabbax2_law33_FeesObserves_ok]
def lbbbbbaba_law33_FeesObserves {β : Type} (F_law33_sane : T_law33_sane) (F_mill_New : T_mill_New) (F_law33_samples : T_law33_samples) (F_mill_Hash : T_mill_Hash) (F_mill_Hashes : T_mill_Hashes) (F_mill_Mod : T_mill_Mod) (F_fees_Confirm : T_fees_Confirm) (F_ref33_Confirm : T_ref33_Confirm) (F_ref33_Same : T_ref33_Same) (F_fees_Rewind : T_fees_Rewind) (F_ref33_Rewind : T_ref33_Rewind) (F_fees_Expire : T_fees_Expire) (F_ref33_Expire : T_ref33_Expire) (F_fees_Observe : T_fees_Observe) (F_ref33_Observe : T_ref33_Observe) (L : Nat) (k_x0 : Int → List (List V) → List (List V) → List (List V) → Int → Option β) (k_ret : Bool → List (List V) → Int → Option β) : Nat → Int → List (List V) → List (List V) → List (List V) → Int → Int → List V → List (List V) → Int → Option β
  | 0, _, _, _, _, _, _, _, _, _ => none
  | n + 1, p2, p8, p10, p33, p34, p35, b9, b23_0, b23_1 => Cbbbbbbaba_law33_FeesObserves F_law33_sane F_mill_New F_law33_samples F_mill_Hash F_mill_Hashes F_mill_Mod F_fees_Confirm F_ref33_Confirm F_ref33_Same F_fees_Rewind F_ref33_Rewind F_fees_Expire F_ref33_Expire F_fees_Observe F_ref33_Observe L p2 p8 p10 p33 p34 p35 b9 b23_0 b23_1 k_x0 k_ret (fun p2 p8 p10 p33 p34 p35 b9 b23_0 b23_1 => lbbbbbaba_law33_FeesObserves F_law33_sane F_mill_New F_law33_samples F_mill_Hash F_mill_Hashes F_mill_Mod F_fees_Confirm F_ref33_Confirm F_ref33_Same F_fees_Rewind F_ref33_Rewind F_fees_Expire F_ref33_Expire F_fees_Observe F_ref33_Observe L k_x0 k_ret n p2 p8 p10 p33 p34 p35 b9 b23_0 b23_1)
theorem lbbbbbaba_law33_FeesObserves_ok {β : Type} (F_law33_sane : T_law33_sane) (F_mill_New : T_mill_New) (F_law33_samples : T_law33_samples) (F_mill_Hash : T_mill_Hash) (F_mill_Hashes : T_mill_Hashes) (F_mill_Mod : T_mill_Mod) (F_fees_Confirm : T_fees_Confirm) (F_ref33_Confirm : T_ref33_Confirm) (F_ref33_Same : T_ref33_Same) (F_fees_Rewind : T_fees_Rewind) (F_ref33_Rewind : T_ref33_Rewind) (F_fees_Expire : T_fees_Expire) (F_ref33_Expire : T_ref33_Expire) (F_fees_Observe : T_fees_Observe) (F_ref33_Observe : T_ref33_Observe) (L : Nat) (K : KT β) : ∀ (n : Nat) (p2 : Int) (p8 : List (List V)) (p10 : List (List V)) (p33 : List (List V)) (p34 : Int) (p35 : Int) (b9 : List V) (b23_0 : List (List V)) (b23_1 : Int), loopM (runC sh_law33_FeesObserves (cb_law33_FeesObserves F_law33_sane F_mill_New F_law33_samples F_mill_Hash F_mill_Hashes F_mill_Mod F_fees_Confirm F_ref33_Confirm F_ref33_Same F_fees_Rewind F_ref33_Rewind F_fees_Expire F_ref33_Expire F_fees_Observe F_ref33_Observe L) 0 L cbbbbbabaa_law33_FeesObserves) mbbbbbaba_law33_FeesObserves n (st_hbbbbbaba_law33_FeesObserves p2 p8 p10 p33 p34 p35 b9 b23_0 b23_1) K = lbbbbbaba_law33_FeesObserves F_law33_sane F_mill_New F_law33_samples F_mill_Hash F_mill_Hashes F_mill_Mod F_fees_Confirm F_ref33_Confirm F_ref33_Same F_fees_Rewind F_ref33_Rewind F_fees_Expire F_ref33_Expire F_fees_Observe F_ref33_Observe L (fun p2 p8 p10 b23_0 b23_1 => K (.exit 0) (st_x0_law33_FeesObserves p2 p8 p10 b23_0 b23_1)) (fun p6 b23_0 b23_1 => K .ret (st_ret_law33_FeesObserves p6 b23_0 b23_1)) n p2 p8 p10 p33 p34 p35 b9 b23_0 b23_1 := by
  intro n
  induction n with
  | zero => intros; rfl
  | succ n ih =>
    intro p2 p8 p10 p33 p34 p35 b9 b23_0 b23_1
    refine (Cbbbbbbaba_law33_FeesObserves_ok F_law33_sane F_mill_New F_law33_samples F_mill_Hash F_mill_Hashes F_mill_Mod F_fees_Confirm F_ref33_Confirm F_ref33_Same F_fees_Rewind F_ref33_Rewind F_fees_Expire F_ref33_Expire F_fees_Observe F_ref33_Observe L p2 p8 p10 p33 p34 p35 b9 b23_0 b23_1 (fun σ => loopM (runC sh_law33_FeesObserves (cb_law33_FeesObserves F_law33_sane F_mill_New F_law33_samples F_mill_Hash F_mill_Hashes F_mill_Mod F_fees_Confirm F_ref33_Confirm F_ref33_Same F_fees_Rewind F_ref33_Rewind F_fees_Expire F_ref33_Expire F_fees_Observe F_ref33_Observe L) 0 L cbbbbbabaa_law33_FeesObserves) mbbbbbaba_law33_FeesObserves n σ K) K).trans ?_
    simp only [ih]
    rfl
def R_law33_FeesObserves {β : Type} (F_law33_sane : T_law33_sane) (F_mill_New : T_mill_New) (F_law33_samples : T_law33_samples) (F_mill_Hash : T_mill_Hash) (F_mill_Hashes : T_mill_Hashes) (F_mill_Mod : T_mill_Mod) (F_fees_Confirm : T_fees_Confirm) (F_ref33_Confirm : T_ref33_Confirm) (F_ref33_Same : T_ref33_Same) (F_fees_Rewind : T_fees_Rewind) (F_ref33_Rewind : T_ref33_Rewind) (F_fees_Expire : T_fees_Expire) (F_ref33_Expire : T_ref33_Expire) (F_fees_Observe : T_fees_Observe) (F_ref33_Observe : T_ref33_Observe) (L : Nat) (p0 : List (List V)) (p1 : Int) (p2 : Int) (k_fin : Bool → Option β) : Option β :=
 e_law33_FeesObserves F_law33_sane F_mill_New F_law33_samples F_mill_Hash F_mill_Hashes F_mill_Mod F_fees_Confirm F_ref33_Confirm F_ref33_Same F_fees_Rewind F_ref33_Rewind F_fees_Expire F_ref33_Expire F_fees_Observe F_ref33_Observe L p0 p1 p2 k_fin (fun p2 p8 p10 p33 p34 p35 b9 b23_0 b23_1 => lbbbbbaba_law33_FeesObserves F_law33_sane F_mill_New F_law33_samples F_mill_Hash F_mill_Hashes F_mill_Mod F_fees_Confirm F_ref33_Confirm F_ref33_Same F_fees_Rewind F_ref33_Rewind F_fees_Expire F_ref33_Expire F_fees_Observe F_ref33_Observe L (fun p2 p8 p10 b23_0 b23_1 => rbbbbbabax0_law33_FeesObserves F_law33_sane F_mill_New F_law33_samples F_mill_Hash F_mill_Hashes F_mill_Mod F_fees_Confirm F_ref33_Confirm F_ref33_Same F_fees_Rewind F_ref33_Rewind F_fees_Expire F_ref33_Expire F_fees_Observe F_ref33_Observe L p2 p8 p10 b23_0 b23_1 k_fin) (fun p6 b23_0 b23_1 => rbbbbbabaret_law33_FeesObserves F_law33_sane F_mill_New F_law33_samples F_mill_Hash F_mill_Hashes F_mill_Mod F_fees_Confirm F_ref33_Confirm F_ref33_Same F_fees_Rewind F_ref33_Rewind F_fees_Expire F_ref33_Expire F_fees_Observe F_ref33_Observe L p6 b23_0 b23_1 k_fin) L p2 p8 p10 p33 p34 p35 b9 b23_0 b23_1)
theorem R_law33_FeesObserves_ok {β : Type} (F_law33_sane : T_law33_sane) (F_mill_New : T_mill_New) (F_law33_samples : T_law33_samples) (F_mill_Hash : T_mill_Hash) (F_mill_Hashes : T_mill_Hashes) (F_mill_Mod : T_mill_Mod) (F_fees_Confirm : T_fees_Confirm) (F_ref33_Confirm : T_ref33_Confirm) (F_ref33_Same : T_ref33_Same) (F_fees_Rewind : T_fees_Rewind) (F_ref33_Rewind : T_ref33_Rewind) (F_fees_Expire : T_fees_Expire) (F_ref33_Expire : T_ref33_Expire) (F_fees_Observe : T_fees_Observe) (F_ref33_Observe : T_ref33_Observe) (L : Nat) (p0 : List (List V)) (p1 : Int) (p2 : Int) (k : V → Bor → Option β) : funC sh_law33_FeesObserves (cb_law33_FeesObserves F_law33_sane F_mill_New F_law33_samples F_mill_Hash F_mill_Hashes F_mill_Mod F_fees_Confirm F_ref33_Confirm F_ref33_Same F_fees_Rewind F_ref33_Rewind F_fees_Expire F_ref33_Expire F_fees_Observe F_ref33_Observe L) L cf_law33_FeesObserves [(V.sl 1 p0), (V.sc (.int .i64 p1)), (V.sc (.int .i64 p2))] [] k = R_law33_FeesObserves F_law33_sane F_mill_New F_law33_samples F_mill_Hash F_mill_Hashes F_mill_Mod F_fees_Confirm F_ref33_Confirm F_ref33_Same F_fees_Rewind F_ref33_Rewind F_fees_Expire F_ref33_Expire F_fees_Observe F_ref33_Observe L p0 p1 p2 (fun p0 => k (V.sc (.bool p0)) []) := by
  refine (e_law33_FeesObserves_ok F_law33_sane F_mill_New F_law33_samples F_mill_Hash F_mill_Hashes F_mill_Mod F_fees_Confirm F_ref33_Confirm F_ref33_Same F_fees_Rewind F_ref33_Rewind F_fees_Expire F_ref33_Expire F_fees_Observe F_ref33_Observe L p0 p1 p2 k).trans ?_
  unfold R_law33_FeesObserves
  simp only [lbbbbbaba_law33_FeesObserves_ok, rbbbbbabax0_law33_FeesObserves_ok, rbbbbbabaret_law33_FeesObserves_ok]
abbrev T_law33_FeesObserves := ∀ (β : Type), Nat → List (List V) → Int → Int → (Bool → Option β) → Option β
def F_law33_FeesObserves (β : Type) (L : Nat) (p0 : List (List V)) (p1 : Int) (p2 : Int) (k_fin : Bool → Option β) : Option β := R_law33_FeesObserves F_law33_sane F_mill_New F_law33_samples F_mill_Hash F_mill_Hashes F_mill_Mod F_fees_Confirm F_ref33_Confirm F_ref33_Same F_fees_Rewind F_ref33_Rewind F_fees_Expire F_ref33_Expire F_fees_Observe F_ref33_Observe L p0 p1 p2 k_fin
def d_law33_FeesObserves (F_law33_FeesObserves : T_law33_FeesObserves) (L : Nat) (β : Type) (args : List V) (bor : Bor) (k : V → Bor → Option β) : Option β := match args, bor with
  | [a0, a1, a2], [] => aL 1 a0 fun p0 => aI .i64 a1 fun p1 => aI .i64 a2 fun p2 => F_law33_FeesObserves β L p0 p1 p2 (fun p0 => k (V.sc (.bool p0)) [])
  | _, _ => none
theorem d_law33_FeesObserves_ok (L : Nat) (β : Type) (args : List V) (bor : Bor) (k : V → Bor → Option β) (r : β) (h : d_law33_FeesObserves F_law33_FeesObserves L β args bor k = some r) : funC sh_law33_FeesObserves (cb_law33_FeesObserves F_law33_sane F_mill_New F_law33_samples F_mill_Hash F_mill_Hashes F_mill_Mod F_fees_Confirm F_ref33_Confirm F_ref33_Same F_fees_Rewind F_ref33_Rewind F_fees_Expire F_ref33_Expire F_fees_Observe F_ref33_Observe L) L cf_law33_FeesObserves args bor k = some r := by
  unfold d_law33_FeesObserves at h
  split at h
  · have q := aL_inv h; clear h; obtain ⟨p0, rfl, h⟩ := q
    have q := aI_inv h; clear h; obtain ⟨p1, rfl, h⟩ := q
    have q := aI_inv h; clear h; obtain ⟨p2, rfl, h⟩ := q
    exact (R_law33_FeesObserves_ok F_law33_sane F_mill_New F_law33_samples F_mill_Hash F_mill_Hashes F_mill_Mod F_fees_Confirm F_ref33_Confirm F_ref33_Same F_fees_Rewind F_ref33_Rewind F_fees_Expire F_ref33_Expire F_fees_Observe F_ref33_Observe L p0 p1 p2 k).trans h
  · cases h
def fg : List (Nat × Nat) := [(3, 211), (4, 212), (5, 213), (6, 214), (7, 215), (8, 216), (9, 217), (10, 218), (11, 219), (12, 220), (13, 221), (14, 222), (15, 223), (16, 224), (17, 225), (18, 226), (19, 227), (20, 228), (21, 229), (22, 230), (23, 231), (24, 232), (25, 233), (26, 234), (27, 235), (28, 236), (29, 237), (30, 238), (31, 239), (32, 240), (33, 241), (34, 242), (35, 243), (36, 244), (37, 245), (38, 246), (39, 247), (40, 248), (41, 249), (42, 250), (43, 251), (44, 252), (45, 253), (46, 254)]
def rows : List Row := [⟨35, 243, hint_fees_bounds, cf_fees_bounds⟩, ⟨12, 220, hint_fees_Bound, cf_fees_Bound⟩, ⟨14, 222, hint_fees_Class, cf_fees_Class⟩, ⟨10, 218, hint_fees_Rate, cf_fees_Rate⟩, ⟨8, 216, hint_law33_sane, cf_law33_sane⟩, ⟨17, 225, hint_mill_New, cf_mill_New⟩, ⟨9, 217, hint_mill_Mod, cf_mill_Mod⟩, ⟨39, 247, hint_mill_Deck_Left, cf_mill_Deck_Left⟩, ⟨23, 231, hint_mill_Deck_Next, cf_mill_Deck_Next⟩, ⟨28, 236, hint_mill_Hash, cf_mill_Hash⟩, ⟨25, 233, hint_mill_Hashes, cf_mill_Hashes⟩, ⟨30, 238, hint_ref33_Confirm, cf_ref33_Confirm⟩, ⟨34, 242, hint_ref33_in, cf_ref33_in⟩, ⟨13, 221, hint_ref33_Bound, cf_ref33_Bound⟩, ⟨15, 223, hint_ref33_Class, cf_ref33_Class⟩, ⟨43, 251, hint_ref33_find, cf_ref33_find⟩, ⟨29, 237, hint_ref33_Observe, cf_ref33_Observe⟩, ⟨16, 224, hint_law33_samples, cf_law33_samples⟩, ⟨37, 245, hint_slices_Clone_Lapi_Sample_api_Sample, cf_slices_Clone_Lapi_Sample_api_Sample⟩, ⟨38, 246, hint_fees_Rewind_1, cf_fees_Rewind_1⟩, ⟨45, 253, hint_slices_IndexFunc_Lapi_Sample_api_Sample, cf_slices_IndexFunc_Lapi_Sample_api_Sample⟩, ⟨36, 244, hint_slices_DeleteFunc_Lapi_Sample_api_Sample, cf_slices_DeleteFunc_Lapi_Sample_api_Sample⟩, ⟨22, 230, hint_fees_Rewind, cf_fees_Rewind⟩, ⟨46, 254, hint_slices_Index_Lapi_Hash_api_Hash, cf_slices_Index_Lapi_Hash_api_Hash⟩, ⟨40, 248, hint_slices_Contains_Lapi_Hash_api_Hash, cf_slices_Contains_Lapi_Hash_api_Hash⟩, ⟨24, 232, hint_fees_Confirm, cf_fees_Confirm⟩, ⟨41, 249, hint_fees_Observe_1, cf_fees_Observe_1⟩, ⟨42, 250, hint_slices_ContainsFunc_Lapi_Sample_api_Sample, cf_slices_ContainsFunc_Lapi_Sample_api_Sample⟩, ⟨26, 234, hint_fees_Observe, cf_fees_Observe⟩, ⟨27, 235, hint_ref33_Same, cf_ref33_Same⟩, ⟨6, 214, hint_law33_FeesUndone, cf_law33_FeesUndone⟩, ⟨31, 239, hint_ref33_Rewind, cf_ref33_Rewind⟩, ⟨44, 252, hint_fees_Expire_1, cf_fees_Expire_1⟩, ⟨32, 240, hint_fees_Expire, cf_fees_Expire⟩, ⟨33, 241, hint_ref33_Expire, cf_ref33_Expire⟩, ⟨7, 215, hint_law33_FeesObserves, cf_law33_FeesObserves⟩]
theorem kc_fees_bounds : cFun Try.prog (renOf fg) hint_fees_bounds 35 = some cf_fees_bounds := by kernel_rfl
theorem kc_fees_Bound : cFun Try.prog (renOf fg) hint_fees_Bound 12 = some cf_fees_Bound := by kernel_rfl
theorem kc_fees_Class : cFun Try.prog (renOf fg) hint_fees_Class 14 = some cf_fees_Class := by kernel_rfl
theorem kc_fees_Rate : cFun Try.prog (renOf fg) hint_fees_Rate 10 = some cf_fees_Rate := by kernel_rfl
theorem kc_law33_sane : cFun Try.prog (renOf fg) hint_law33_sane 8 = some cf_law33_sane := by kernel_rfl
theorem kc_mill_New : cFun Try.prog (renOf fg) hint_mill_New 17 = some cf_mill_New := by kernel_rfl
theorem kc_mill_Mod : cFun Try.prog (renOf fg) hint_mill_Mod 9 = some cf_mill_Mod := by kernel_rfl
theorem kc_mill_Deck_Left : cFun Try.prog (renOf fg) hint_mill_Deck_Left 39 = some cf_mill_Deck_Left := by kernel_rfl
theorem kc_mill_Deck_Next : cFun Try.prog (renOf fg) hint_mill_Deck_Next 23 = some cf_mill_Deck_Next := by kernel_rfl
theorem kc_mill_Hash : cFun Try.prog (renOf fg) hint_mill_Hash 28 = some cf_mill_Hash := by kernel_rfl
theorem kc_mill_Hashes : cFun Try.prog (renOf fg) hint_mill_Hashes 25 = some cf_mill_Hashes := by kernel_rfl
theorem kc_ref33_Confirm : cFun Try.prog (renOf fg) hint_ref33_Confirm 30 = some cf_ref33_Confirm := by kernel_rfl
theorem kc_ref33_in : cFun Try.prog (renOf fg) hint_ref33_in 34 = some cf_ref33_in := by kernel_rfl
theorem kc_ref33_Bound : cFun Try.prog (renOf fg) hint_ref33_Bound 13 = some cf_ref33_Bound := by kernel_rfl
theorem kc_ref33_Class : cFun Try.prog (renOf fg) hint_ref33_Class 15 = some cf_ref33_Class := by kernel_rfl
theorem kc_ref33_find : cFun Try.prog (renOf fg) hint_ref33_find 43 = some cf_ref33_find := by kernel_rfl
theorem kc_ref33_Observe : cFun Try.prog (renOf fg) hint_ref33_Observe 29 = some cf_ref33_Observe := by kernel_rfl
theorem kc_law33_samples : cFun Try.prog (renOf fg) hint_law33_samples 16 = some cf_law33_samples := by kernel_rfl
theorem kc_slices_Clone_Lapi_Sample_api_Sample : cFun Try.prog (renOf fg) hint_slices_Clone_Lapi_Sample_api_Sample 37 = some cf_slices_Clone_Lapi_Sample_api_Sample := by kernel_rfl
theorem kc_fees_Rewind_1 : cFun Try.prog (renOf fg) hint_fees_Rewind_1 38 = some cf_fees_Rewind_1 := by kernel_rfl
theorem kc_slices_IndexFunc_Lapi_Sample_api_Sample : cFun Try.prog (renOf fg) hint_slices_IndexFunc_Lapi_Sample_api_Sample 45 = some cf_slices_IndexFunc_Lapi_Sample_api_Sample := by kernel_rfl
theorem kc_slices_DeleteFunc_Lapi_Sample_api_Sample : cFun Try.prog (renOf fg) hint_slices_DeleteFunc_Lapi_Sample_api_Sample 36 = some cf_slices_DeleteFunc_Lapi_Sample_api_Sample := by kernel_rfl
theorem kc_fees_Rewind : cFun Try.prog (renOf fg) hint_fees_Rewind 22 = some cf_fees_Rewind := by kernel_rfl
theorem kc_slices_Index_Lapi_Hash_api_Hash : cFun Try.prog (renOf fg) hint_slices_Index_Lapi_Hash_api_Hash 46 = some cf_slices_Index_Lapi_Hash_api_Hash := by kernel_rfl
theorem kc_slices_Contains_Lapi_Hash_api_Hash : cFun Try.prog (renOf fg) hint_slices_Contains_Lapi_Hash_api_Hash 40 = some cf_slices_Contains_Lapi_Hash_api_Hash := by kernel_rfl
theorem kc_fees_Confirm : cFun Try.prog (renOf fg) hint_fees_Confirm 24 = some cf_fees_Confirm := by kernel_rfl
theorem kc_fees_Observe_1 : cFun Try.prog (renOf fg) hint_fees_Observe_1 41 = some cf_fees_Observe_1 := by kernel_rfl
theorem kc_slices_ContainsFunc_Lapi_Sample_api_Sample : cFun Try.prog (renOf fg) hint_slices_ContainsFunc_Lapi_Sample_api_Sample 42 = some cf_slices_ContainsFunc_Lapi_Sample_api_Sample := by kernel_rfl
theorem kc_fees_Observe : cFun Try.prog (renOf fg) hint_fees_Observe 26 = some cf_fees_Observe := by kernel_rfl
theorem kc_ref33_Same : cFun Try.prog (renOf fg) hint_ref33_Same 27 = some cf_ref33_Same := by kernel_rfl
theorem kc_law33_FeesUndone : cFun Try.prog (renOf fg) hint_law33_FeesUndone 6 = some cf_law33_FeesUndone := by kernel_rfl
theorem kc_ref33_Rewind : cFun Try.prog (renOf fg) hint_ref33_Rewind 31 = some cf_ref33_Rewind := by kernel_rfl
theorem kc_fees_Expire_1 : cFun Try.prog (renOf fg) hint_fees_Expire_1 44 = some cf_fees_Expire_1 := by kernel_rfl
theorem kc_fees_Expire : cFun Try.prog (renOf fg) hint_fees_Expire 32 = some cf_fees_Expire := by kernel_rfl
theorem kc_ref33_Expire : cFun Try.prog (renOf fg) hint_ref33_Expire 33 = some cf_ref33_Expire := by kernel_rfl
theorem kc_law33_FeesObserves : cFun Try.prog (renOf fg) hint_law33_FeesObserves 7 = some cf_law33_FeesObserves := by kernel_rfl
theorem rows_ok : ∀ r ∈ rows, (r.f, r.g) ∈ fg ∧ callable Try.prog r.f = true ∧ cFun Try.prog (renOf fg) r.h r.f = some r.c := by
  intro r hr
  simp only [rows, List.mem_cons, List.not_mem_nil, or_false] at hr
  rcases hr with rfl | rfl | rfl | rfl | rfl | rfl | rfl | rfl | rfl | rfl | rfl | rfl | rfl | rfl | rfl | rfl | rfl | rfl | rfl | rfl | rfl | rfl | rfl | rfl | rfl | rfl | rfl | rfl | rfl | rfl | rfl | rfl | rfl | rfl | rfl | rfl
  · exact ⟨of_decide_eq_true (by kernel_rfl), by kernel_rfl, kc_fees_bounds⟩
  · exact ⟨of_decide_eq_true (by kernel_rfl), by kernel_rfl, kc_fees_Bound⟩
  · exact ⟨of_decide_eq_true (by kernel_rfl), by kernel_rfl, kc_fees_Class⟩
  · exact ⟨of_decide_eq_true (by kernel_rfl), by kernel_rfl, kc_fees_Rate⟩
  · exact ⟨of_decide_eq_true (by kernel_rfl), by kernel_rfl, kc_law33_sane⟩
  · exact ⟨of_decide_eq_true (by kernel_rfl), by kernel_rfl, kc_mill_New⟩
  · exact ⟨of_decide_eq_true (by kernel_rfl), by kernel_rfl, kc_mill_Mod⟩
  · exact ⟨of_decide_eq_true (by kernel_rfl), by kernel_rfl, kc_mill_Deck_Left⟩
  · exact ⟨of_decide_eq_true (by kernel_rfl), by kernel_rfl, kc_mill_Deck_Next⟩
  · exact ⟨of_decide_eq_true (by kernel_rfl), by kernel_rfl, kc_mill_Hash⟩
  · exact ⟨of_decide_eq_true (by kernel_rfl), by kernel_rfl, kc_mill_Hashes⟩
  · exact ⟨of_decide_eq_true (by kernel_rfl), by kernel_rfl, kc_ref33_Confirm⟩
  · exact ⟨of_decide_eq_true (by kernel_rfl), by kernel_rfl, kc_ref33_in⟩
  · exact ⟨of_decide_eq_true (by kernel_rfl), by kernel_rfl, kc_ref33_Bound⟩
  · exact ⟨of_decide_eq_true (by kernel_rfl), by kernel_rfl, kc_ref33_Class⟩
  · exact ⟨of_decide_eq_true (by kernel_rfl), by kernel_rfl, kc_ref33_find⟩
  · exact ⟨of_decide_eq_true (by kernel_rfl), by kernel_rfl, kc_ref33_Observe⟩
  · exact ⟨of_decide_eq_true (by kernel_rfl), by kernel_rfl, kc_law33_samples⟩
  · exact ⟨of_decide_eq_true (by kernel_rfl), by kernel_rfl, kc_slices_Clone_Lapi_Sample_api_Sample⟩
  · exact ⟨of_decide_eq_true (by kernel_rfl), by kernel_rfl, kc_fees_Rewind_1⟩
  · exact ⟨of_decide_eq_true (by kernel_rfl), by kernel_rfl, kc_slices_IndexFunc_Lapi_Sample_api_Sample⟩
  · exact ⟨of_decide_eq_true (by kernel_rfl), by kernel_rfl, kc_slices_DeleteFunc_Lapi_Sample_api_Sample⟩
  · exact ⟨of_decide_eq_true (by kernel_rfl), by kernel_rfl, kc_fees_Rewind⟩
  · exact ⟨of_decide_eq_true (by kernel_rfl), by kernel_rfl, kc_slices_Index_Lapi_Hash_api_Hash⟩
  · exact ⟨of_decide_eq_true (by kernel_rfl), by kernel_rfl, kc_slices_Contains_Lapi_Hash_api_Hash⟩
  · exact ⟨of_decide_eq_true (by kernel_rfl), by kernel_rfl, kc_fees_Confirm⟩
  · exact ⟨of_decide_eq_true (by kernel_rfl), by kernel_rfl, kc_fees_Observe_1⟩
  · exact ⟨of_decide_eq_true (by kernel_rfl), by kernel_rfl, kc_slices_ContainsFunc_Lapi_Sample_api_Sample⟩
  · exact ⟨of_decide_eq_true (by kernel_rfl), by kernel_rfl, kc_fees_Observe⟩
  · exact ⟨of_decide_eq_true (by kernel_rfl), by kernel_rfl, kc_ref33_Same⟩
  · exact ⟨of_decide_eq_true (by kernel_rfl), by kernel_rfl, kc_law33_FeesUndone⟩
  · exact ⟨of_decide_eq_true (by kernel_rfl), by kernel_rfl, kc_ref33_Rewind⟩
  · exact ⟨of_decide_eq_true (by kernel_rfl), by kernel_rfl, kc_fees_Expire_1⟩
  · exact ⟨of_decide_eq_true (by kernel_rfl), by kernel_rfl, kc_fees_Expire⟩
  · exact ⟨of_decide_eq_true (by kernel_rfl), by kernel_rfl, kc_ref33_Expire⟩
  · exact ⟨of_decide_eq_true (by kernel_rfl), by kernel_rfl, kc_law33_FeesObserves⟩
theorem mixed : Try.prog.follows .mixedOrders = true := by kernel_rfl
theorem fg_ok : fgOk fg = true := by kernel_rfl
theorem ev_ok (L d : Nat) : CBok Try.prog (renOf fg) (evF (tabOf rows) noPr L d) := seat_ok mixed fg_ok rows_ok L d
theorem fok_fees_bounds (L : Nat) : FOk (tabOf rows) L 243 (d_fees_bounds F_fees_bounds L) 1 := fok_of (D := 0) (by kernel_rfl) fun m hm => ⟨sh_fees_bounds, cb_fees_bounds L, cbc_no, d_fees_bounds_ok L⟩
theorem fok_fees_Bound (L : Nat) : FOk (tabOf rows) L 220 (d_fees_Bound F_fees_Bound L) 2 := fok_of (D := 1) (by kernel_rfl) fun m hm => ⟨sh_fees_Bound, cb_fees_Bound F_fees_bounds L, (cbc_add cbc_no (fok_fees_bounds L m (by omega))), d_fees_Bound_ok L⟩
theorem fok_fees_Class (L : Nat) : FOk (tabOf rows) L 222 (d_fees_Class F_fees_Class L) 2 := fok_of (D := 1) (by kernel_rfl) fun m hm => ⟨sh_fees_Class, cb_fees_Class F_fees_bounds L, (cbc_add cbc_no (fok_fees_bounds L m (by omega))), d_fees_Class_ok L⟩
theorem fok_fees_Rate (L : Nat) : FOk (tabOf rows) L 218 (d_fees_Rate F_fees_Rate L) 1 := fok_of (D := 0) (by kernel_rfl) fun m hm => ⟨sh_fees_Rate, cb_fees_Rate L, cbc_no, d_fees_Rate_ok L⟩
theorem fok_law33_sane (L : Nat) : FOk (tabOf rows) L 216 (d_law33_sane F_law33_sane L) 3 := fok_of (D := 2) (by kernel_rfl) fun m hm => ⟨sh_law33_sane, cb_law33_sane F_fees_Bound F_fees_Class F_fees_Rate L, (cbc_add (cbc_add (cbc_add cbc_no (fok_fees_Bound L m (by omega))) (fok_fees_Class L m (by omega))) (fok_fees_Rate L m (by omega))), d_law33_sane_ok L⟩
theorem fok_mill_New (L : Nat) : FOk (tabOf rows) L 225 (d_mill_New F_mill_New L) 1 := fok_of (D := 0) (by kernel_rfl) fun m hm => ⟨sh_mill_New, cb_mill_New L, cbc_no, d_mill_New_ok L⟩
theorem fok_mill_Mod (L : Nat) : FOk (tabOf rows) L 217 (d_mill_Mod F_mill_Mod L) 1 := fok_of (D := 0) (by kernel_rfl) fun m hm => ⟨sh_mill_Mod, cb_mill_Mod L, cbc_no, d_mill_Mod_ok L⟩
theorem fok_mill_Deck_Left (L : Nat) : FOk (tabOf rows) L 247 (d_mill_Deck_Left F_mill_Deck_Left L) 1 := fok_of (D := 0) (by kernel_rfl) fun m hm => ⟨sh_mill_Deck_Left, cb_mill_Deck_Left L, cbc_no, d_mill_Deck_Left_ok L⟩
theorem fok_mill_Deck_Next (L : Nat) : FOk (tabOf rows) L 231 (d_mill_Deck_Next F_mill_Deck_Next L) 2 := fok_of (D := 1) (by kernel_rfl) fun m hm => ⟨sh_mill_Deck_Next, cb_mill_Deck_Next F_mill_Deck_Left F_mill_Mod L, (cbc_add (cbc_add cbc_no (fok_mill_Deck_Left L m (by omega))) (fok_mill_Mod L m (by omega))), d_mill_Deck_Next_ok L⟩
theorem fok_mill_Hash (L : Nat) : FOk (tabOf rows) L 236 (d_mill_Hash F_mill_Hash L) 3 := fok_of (D := 2) (by kernel_rfl) fun m hm => ⟨sh_mill_Hash, cb_mill_Hash F_mill_Deck_Next L, (cbc_add cbc_no (fok_mill_Deck_Next L m (by omega))), d_mill_Hash_ok L⟩
theorem fok_mill_Hashes (L : Nat) : FOk (tabOf rows) L 233 (d_mill_Hashes F_mill_Hashes L) 4 := fok_of (D := 3) (by kernel_rfl) fun m hm => ⟨sh_mill_Hashes, cb_mill_Hashes F_mill_Deck_Next F_mill_Hash L, (cbc_add (cbc_add cbc_no (fok_mill_Deck_Next L m (by omega))) (fok_mill_Hash L m (by omega))), d_mill_Hashes_ok L⟩
theorem fok_ref33_Confirm (L : Nat) : FOk (tabOf rows) L 238 (d_ref33_Confirm F_ref33_Confirm L) 1 := fok_of (D := 0) (by kernel_rfl) fun m hm => ⟨sh_ref33_Confirm, cb_ref33_Confirm L, cbc_no, d_ref33_Confirm_ok L⟩
theorem fok_ref33_in (L : Nat) : FOk (tabOf rows) L 242 (d_ref33_in F_ref33_in L) 1 := fok_of (D := 0) (by kernel_rfl) fun m hm => ⟨sh_ref33_in, cb_ref33_in L, cbc_no, d_ref33_in_ok L⟩
theorem fok_ref33_Bound (L : Nat) : FOk (tabOf rows) L 221 (d_ref33_Bound F_ref33_Bound L) 2 := fok_of (D := 1) (by kernel_rfl) fun m hm => ⟨sh_ref33_Bound, cb_ref33_Bound F_ref33_in L, (cbc_add cbc_no (fok_ref33_in L m (by omega))), d_ref33_Bound_ok L⟩
theorem fok_ref33_Class (L : Nat) : FOk (tabOf rows) L 223 (d_ref33_Class F_ref33_Class L) 3 := fok_of (D := 2) (by kernel_rfl) fun m hm => ⟨sh_ref33_Class, cb_ref33_Class F_ref33_Bound L, (cbc_add cbc_no (fok_ref33_Bound L m (by omega))), d_ref33_Class_ok L⟩
theorem fok_ref33_find (L : Nat) : FOk (tabOf rows) L 251 (d_ref33_find F_ref33_find L) 1 := fok_of (D := 0) (by kernel_rfl) fun m hm => ⟨sh_ref33_find, cb_ref33_find L, cbc_no, d_ref33_find_ok L⟩
theorem fok_ref33_Observe (L : Nat) : FOk (tabOf rows) L 237 (d_ref33_Observe F_ref33_Observe L) 4 := fok_of (D := 3) (by kernel_rfl) fun m hm => ⟨sh_ref33_Observe, cb_ref33_Observe F_ref33_Class F_ref33_in F_ref33_find L, (cbc_add (cbc_add (cbc_add cbc_no (fok_ref33_Class L m (by omega))) (fok_ref33_in L m (by omega))) (fok_ref33_find L m (by omega))), d_ref33_Observe_ok L⟩
theorem fok_law33_samples (L : Nat) : FOk (tabOf rows) L 224 (d_law33_samples F_law33_samples L) 5 := fok_of (D := 4) (by kernel_rfl) fun m hm => ⟨sh_law33_samples, cb_law33_samples F_mill_Deck_Next F_mill_Hashes F_ref33_Confirm F_mill_Hash F_ref33_Observe L, (cbc_add (cbc_add (cbc_add (cbc_add (cbc_add cbc_no (fok_mill_Deck_Next L m (by omega))) (fok_mill_Hashes L m (by omega))) (fok_ref33_Confirm L m (by omega))) (fok_mill_Hash L m (by omega))) (fok_ref33_Observe L m (by omega))), d_law33_samples_ok L⟩
theorem fok_slices_Clone_Lapi_Sample_api_Sample (L : Nat) : FOk (tabOf rows) L 245 (d_slices_Clone_Lapi_Sample_api_Sample F_slices_Clone_Lapi_Sample_api_Sample L) 1 := fok_of (D := 0) (by kernel_rfl) fun m hm => ⟨sh_slices_Clone_Lapi_Sample_api_Sample, cb_slices_Clone_Lapi_Sample_api_Sample L, cbc_no, d_slices_Clone_Lapi_Sample_api_Sample_ok L⟩
theorem fok_fees_Rewind_1 (L : Nat) : FOk (tabOf rows) L 246 (d_fees_Rewind_1 F_fees_Rewind_1 L) 1 := fok_of (D := 0) (by kernel_rfl) fun m hm => ⟨sh_fees_Rewind_1, cb_fees_Rewind_1 L, cbc_no, d_fees_Rewind_1_ok L⟩
theorem fok_slices_IndexFunc_Lapi_Sample_api_Sample (L : Nat) : FOk (tabOf rows) L 253 (d_slices_IndexFunc_Lapi_Sample_api_Sample F_slices_IndexFunc_Lapi_Sample_api_Sample L) 2 := fok_of (D := 1) (by kernel_rfl) fun m hm => ⟨sh_slices_IndexFunc_Lapi_Sample_api_Sample, cb_slices_IndexFunc_Lapi_Sample_api_Sample F_fees_Rewind_1 L, (cbc_add cbc_no (fok_fees_Rewind_1 L m (by omega))), d_slices_IndexFunc_Lapi_Sample_api_Sample_ok L⟩
theorem fok_slices_DeleteFunc_Lapi_Sample_api_Sample (L : Nat) : FOk (tabOf rows) L 244 (d_slices_DeleteFunc_Lapi_Sample_api_Sample F_slices_DeleteFunc_Lapi_Sample_api_Sample L) 3 := fok_of (D := 2) (by kernel_rfl) fun m hm => ⟨sh_slices_DeleteFunc_Lapi_Sample_api_Sample, cb_slices_DeleteFunc_Lapi_Sample_api_Sample F_slices_IndexFunc_Lapi_Sample_api_Sample F_fees_Rewind_1 L, (cbc_add (cbc_add cbc_no (fok_slices_IndexFunc_Lapi_Sample_api_Sample L m (by omega))) (fok_fees_Rewind_1 L m (by omega))), d_slices_DeleteFunc_Lapi_Sample_api_Sample_ok L⟩
theorem fok_fees_Rewind (L : Nat) : FOk (tabOf rows) L 230 (d_fees_Rewind F_fees_Rewind L) 4 := fok_of (D := 3) (by kernel_rfl) fun m hm => ⟨sh_fees_Rewind, cb_fees_Rewind F_slices_Clone_Lapi_Sample_api_Sample F_slices_DeleteFunc_Lapi_Sample_api_Sample L, (cbc_add (cbc_add cbc_no (fok_slices_Clone_Lapi_Sample_api_Sample L m (by omega))) (fok_slices_DeleteFunc_Lapi_Sample_api_Sample L m (by omega))), d_fees_Rewind_ok L⟩
theorem fok_slices_Index_Lapi_Hash_api_Hash (L : Nat) : FOk (tabOf rows) L 254 (d_slices_Index_Lapi_Hash_api_Hash F_slices_Index_Lapi_Hash_api_Hash L) 1 := fok_of (D := 0) (by kernel_rfl) fun m hm => ⟨sh_slices_Index_Lapi_Hash_api_Hash, cb_slices_Index_Lapi_Hash_api_Hash L, cbc_no, d_slices_Index_Lapi_Hash_api_Hash_ok L⟩
theorem fok_slices_Contains_Lapi_Hash_api_Hash (L : Nat) : FOk (tabOf rows) L 248 (d_slices_Contains_Lapi_Hash_api_Hash F_slices_Contains_Lapi_Hash_api_Hash L) 2 := fok_of (D := 1) (by kernel_rfl) fun m hm => ⟨sh_slices_Contains_Lapi_Hash_api_Hash, cb_slices_Contains_Lapi_Hash_api_Hash F_slices_Index_Lapi_Hash_api_Hash L, (cbc_add cbc_no (fok_slices_Index_Lapi_Hash_api_Hash L m (by omega))), d_slices_Contains_Lapi_Hash_api_Hash_ok L⟩
theorem fok_fees_Confirm (L : Nat) : FOk (tabOf rows) L 232 (d_fees_Confirm F_fees_Confirm L) 3 := fok_of (D := 2) (by kernel_rfl) fun m hm => ⟨sh_fees_Confirm, cb_fees_Confirm F_slices_Clone_Lapi_Sample_api_Sample F_slices_Contains_Lapi_Hash_api_Hash L, (cbc_add (cbc_add cbc_no (fok_slices_Clone_Lapi_Sample_api_Sample L m (by omega))) (fok_slices_Contains_Lapi_Hash_api_Hash L m (by omega))), d_fees_Confirm_ok L⟩
theorem fok_fees_Observe_1 (L : Nat) : FOk (tabOf rows) L 249 (d_fees_Observe_1 F_fees_Observe_1 L) 1 := fok_of (D := 0) (by kernel_rfl) fun m hm => ⟨sh_fees_Observe_1, cb_fees_Observe_1 L, cbc_no, d_fees_Observe_1_ok L⟩
theorem fok_slices_IndexFunc_Lapi_Sample_api_Sample_1 (L : Nat) : FOk (tabOf rows) L 253 (d_slices_IndexFunc_Lapi_Sample_api_Sample_1 F_slices_IndexFunc_Lapi_Sample_api_Sample_1 L) 2 := fok_of (D := 1) (by kernel_rfl) fun m hm => ⟨sh_slices_IndexFunc_Lapi_Sample_api_Sample_1, cb_slices_IndexFunc_Lapi_Sample_api_Sample_1 F_fees_Observe_1 L, (cbc_add cbc_no (fok_fees_Observe_1 L m (by omega))), d_slices_IndexFunc_Lapi_Sample_api_Sample_1_ok L⟩
theorem fok_slices_ContainsFunc_Lapi_Sample_api_Sample (L : Nat) : FOk (tabOf rows) L 250 (d_slices_ContainsFunc_Lapi_Sample_api_Sample F_slices_ContainsFunc_Lapi_Sample_api_Sample L) 3 := fok_of (D := 2) (by kernel_rfl) fun m hm => ⟨sh_slices_ContainsFunc_Lapi_Sample_api_Sample, cb_slices_ContainsFunc_Lapi_Sample_api_Sample F_slices_IndexFunc_Lapi_Sample_api_Sample_1 L, (cbc_add cbc_no (fok_slices_IndexFunc_Lapi_Sample_api_Sample_1 L m (by omega))), d_slices_ContainsFunc_Lapi_Sample_api_Sample_ok L⟩
theorem fok_fees_Observe (L : Nat) : FOk (tabOf rows) L 234 (d_fees_Observe F_fees_Observe L) 4 := fok_of (D := 3) (by kernel_rfl) fun m hm => ⟨sh_fees_Observe, cb_fees_Observe F_fees_Class F_slices_ContainsFunc_Lapi_Sample_api_Sample F_slices_Clone_Lapi_Sample_api_Sample L, (cbc_add (cbc_add (cbc_add cbc_no (fok_fees_Class L m (by omega))) (fok_slices_ContainsFunc_Lapi_Sample_api_Sample L m (by omega))) (fok_slices_Clone_Lapi_Sample_api_Sample L m (by omega))), d_fees_Observe_ok L⟩
theorem fok_ref33_Same (L : Nat) : FOk (tabOf rows) L 235 (d_ref33_Same F_ref33_Same L) 1 := fok_of (D := 0) (by kernel_rfl) fun m hm => ⟨sh_ref33_Same, cb_ref33_Same L, cbc_no, d_ref33_Same_ok L⟩
theorem fok_law33_FeesUndone (L : Nat) : FOk (tabOf rows) L 214 (d_law33_FeesUndone F_law33_FeesUndone L) 6 := fok_of (D := 5) (by kernel_rfl) fun m hm => ⟨sh_law33_FeesUndone, cb_law33_FeesUndone F_law33_sane F_mill_New F_mill_Mod F_law33_samples F_fees_Rewind F_mill_Deck_Next F_mill_Hashes F_fees_Confirm F_fees_Observe F_ref33_Same L, (cbc_add (cbc_add (cbc_add (cbc_add (cbc_add (cbc_add (cbc_add (cbc_add (cbc_add (cbc_add cbc_no (fok_law33_sane L m (by omega))) (fok_mill_New L m (by omega))) (fok_mill_Mod L m (by omega))) (fok_law33_samples L m (by omega))) (fok_fees_Rewind L m (by omega))) (fok_mill_Deck_Next L m (by omega))) (fok_mill_Hashes L m (by omega))) (fok_fees_Confirm L m (by omega))) (fok_fees_Observe L m (by omega))) (fok_ref33_Same L m (by omega))), d_law33_FeesUndone_ok L⟩
theorem fok_ref33_Rewind (L : Nat) : FOk (tabOf rows) L 239 (d_ref33_Rewind F_ref33_Rewind L) 1 := fok_of (D := 0) (by kernel_rfl) fun m hm => ⟨sh_ref33_Rewind, cb_ref33_Rewind L, cbc_no, d_ref33_Rewind_ok L⟩
theorem fok_fees_Expire_1 (L : Nat) : FOk (tabOf rows) L 252 (d_fees_Expire_1 F_fees_Expire_1 L) 1 := fok_of (D := 0) (by kernel_rfl) fun m hm => ⟨sh_fees_Expire_1, cb_fees_Expire_1 L, cbc_no, d_fees_Expire_1_ok L⟩
theorem fok_slices_IndexFunc_Lapi_Sample_api_Sample_2 (L : Nat) : FOk (tabOf rows) L 253 (d_slices_IndexFunc_Lapi_Sample_api_Sample_2 F_slices_IndexFunc_Lapi_Sample_api_Sample_2 L) 2 := fok_of (D := 1) (by kernel_rfl) fun m hm => ⟨sh_slices_IndexFunc_Lapi_Sample_api_Sample_2, cb_slices_IndexFunc_Lapi_Sample_api_Sample_2 F_fees_Expire_1 L, (cbc_add cbc_no (fok_fees_Expire_1 L m (by omega))), d_slices_IndexFunc_Lapi_Sample_api_Sample_2_ok L⟩
theorem fok_slices_DeleteFunc_Lapi_Sample_api_Sample_1 (L : Nat) : FOk (tabOf rows) L 244 (d_slices_DeleteFunc_Lapi_Sample_api_Sample_1 F_slices_DeleteFunc_Lapi_Sample_api_Sample_1 L) 3 := fok_of (D := 2) (by kernel_rfl) fun m hm => ⟨sh_slices_DeleteFunc_Lapi_Sample_api_Sample_1, cb_slices_DeleteFunc_Lapi_Sample_api_Sample_1 F_slices_IndexFunc_Lapi_Sample_api_Sample_2 F_fees_Expire_1 L, (cbc_add (cbc_add cbc_no (fok_slices_IndexFunc_Lapi_Sample_api_Sample_2 L m (by omega))) (fok_fees_Expire_1 L m (by omega))), d_slices_DeleteFunc_Lapi_Sample_api_Sample_1_ok L⟩
theorem fok_fees_Expire (L : Nat) : FOk (tabOf rows) L 240 (d_fees_Expire F_fees_Expire L) 4 := fok_of (D := 3) (by kernel_rfl) fun m hm => ⟨sh_fees_Expire, cb_fees_Expire F_slices_Clone_Lapi_Sample_api_Sample F_slices_DeleteFunc_Lapi_Sample_api_Sample_1 L, (cbc_add (cbc_add cbc_no (fok_slices_Clone_Lapi_Sample_api_Sample L m (by omega))) (fok_slices_DeleteFunc_Lapi_Sample_api_Sample_1 L m (by omega))), d_fees_Expire_ok L⟩
theorem fok_ref33_Expire (L : Nat) : FOk (tabOf rows) L 241 (d_ref33_Expire F_ref33_Expire L) 1 := fok_of (D := 0) (by kernel_rfl) fun m hm => ⟨sh_ref33_Expire, cb_ref33_Expire L, cbc_no, d_ref33_Expire_ok L⟩
theorem fok_law33_FeesObserves (L : Nat) : FOk (tabOf rows) L 215 (d_law33_FeesObserves F_law33_FeesObserves L) 6 := fok_of (D := 5) (by kernel_rfl) fun m hm => ⟨sh_law33_FeesObserves, cb_law33_FeesObserves F_law33_sane F_mill_New F_law33_samples F_mill_Hash F_mill_Hashes F_mill_Mod F_fees_Confirm F_ref33_Confirm F_ref33_Same F_fees_Rewind F_ref33_Rewind F_fees_Expire F_ref33_Expire F_fees_Observe F_ref33_Observe L, (cbc_add (cbc_add (cbc_add (cbc_add (cbc_add (cbc_add (cbc_add (cbc_add (cbc_add (cbc_add (cbc_add (cbc_add (cbc_add (cbc_add (cbc_add cbc_no (fok_law33_sane L m (by omega))) (fok_mill_New L m (by omega))) (fok_law33_samples L m (by omega))) (fok_mill_Hash L m (by omega))) (fok_mill_Hashes L m (by omega))) (fok_mill_Mod L m (by omega))) (fok_fees_Confirm L m (by omega))) (fok_ref33_Confirm L m (by omega))) (fok_ref33_Same L m (by omega))) (fok_fees_Rewind L m (by omega))) (fok_ref33_Rewind L m (by omega))) (fok_fees_Expire L m (by omega))) (fok_ref33_Expire L m (by omega))) (fok_fees_Observe L m (by omega))) (fok_ref33_Observe L m (by omega))), d_law33_FeesObserves_ok L⟩
end Go.Proofs.Ythplooifbkopgaa
